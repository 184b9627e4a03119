import Derived.Test.YtpjjmindjodknaaGreatChecked
import Derived.KernelRfl
import Derived.Test.YtpjjmindjodknaaGreatTD
set_option linter.unusedVariables false
set_option linter.unusedSimpArgs false
set_option maxRecDepth 100000
namespace Go.Mem
open Go.Ai Go.Proofs
end Go.Mem
namespace Go.Ai
open Go.Ai Go.Proofs
abbrev Cf(t k n:Nat):Prop := ∀(b off:Nat),zp Tryz.prog t (.pointer (some ⟨b,off,none⟩)) k=some (.pointer (some ⟨b,off+n,none⟩))
abbrev FcG(t k:Nat):Prop := ∀(b off:Nat),zp Tryz.prog t (.pointer (some ⟨b,off,none⟩)) k=some (.pointer (some ⟨b,off,none⟩))
abbrev Sf(t:TypeId):Prop := ∀(b off:Nat) (h:za),zd Tryz.prog t (.pointer (some ⟨b,off,none⟩)) h=zv h b off
abbrev FcN(t:TypeId)(n:Nat):Prop := ∀(b off:Nat) (h:za),zd Tryz.prog t (.pointer (some ⟨b,off,none⟩)) h=kH h b off n
abbrev FcI(t:TypeId):Prop := ∀(b off:Nat) (v:Int) (h:za),ux Tryz.prog t (.pointer (some ⟨b,off,none⟩)) (pm v) h=AK h b off [(pm v)]
abbrev FcM(t:TypeId)(n:Nat):Prop := ∀(b off:Nat) (l:List aaa) (h:za) (_:l.length=n),ux Tryz.prog t (.pointer (some ⟨b,off,none⟩)) (.agg l.toArray) h=AK h b off l
abbrev FcA(t e s y:Nat):Prop := ∀(r:TypeId) (v x:aaa) (n:Nat) (new:List aaa) (h:za) (_:KZ x=some n) (_:qP h n s x=some new) (_:new.all xj=true) (_:new.length=n*s),zG Tryz.prog .append [t,t] r [v,x] h=cA h e s y n new v
abbrev FcX(t n:Nat):Prop := ∀(b off len c:Nat) (k:IntKind) (i:Int),xR Tryz.prog t (.slice (some ⟨b,off,none⟩) len c) (.int k i)=if 0<=i/\i<len then some (.pointer (some ⟨b,off+i.toNat*n,none⟩)) else none
abbrev FcE(t:TypeId):Prop := ∀(r:TypeId) (a:Option Addr) (n c:Nat) (h:za),zG Tryz.prog .len [t] r [.slice a n c] h=some (pm n,h)
end Go.Ai
namespace Go.Mem
open Go.Ai Go.Proofs
structure V where
 k:Int
 n:Int
 b:Int
 deriving DecidableEq
def v0:V:=⟨0,0,0⟩
structure Cl where
 k:Int
 n:Int
 p:V
 deriving DecidableEq
def unk:Cl:=⟨0,0,v0⟩
structure MB where
 size:Nat
 zc5:Bool
 byte:Nat->Cl
abbrev MM:=List MB
section mono
variable {h h':za}
end mono
theorem Fj{n:Int}(h1 : -9223372036854775808<=n)(h2:n<9223372036854775808):IntKind.wrap .i64 n=n:=by
 simp only[IntKind.wrap,IntKind.bits,IntKind.signed];simp;omega
section
variable {h:za}{p:Nat}{B:MB}{F:Nat->Prop}{pg:aaa}{a:Int}
end
def aG(n:Int):Prop := -9223372036854775808<=n/\n<9223372036854775808
section
variable {h:za}{m:Nat}{bs:aaa}{ps:List Nat}{fs:Nat->Nat->Prop}{M:MM}{F:Nat->Prop}{c:Int}{p:V}
end
section
variable {h:za}{m:Nat}{bs:aaa}{ps:List Nat}{fs:Nat->Nat->Prop}{M:MM}{F:Nat->Prop}{c:Int}{p:V}
end
theorem Eg(vs:List aaa):∀(cs:List aaa) (o i:Nat),o+vs.length<=cs.length->(zu cs o vs)[i]? = if o<=i/\i<o+vs.length then vs[i-o]? else cs[i]?:=by
 induction vs with
 |nil=>intro cs o i _;rw[aag (by simp)];rfl
 |cons v vs ih=>
  intro cs o i h;simp only[aa3]at h ⊢;unfold zu;rw[ih (cs.set o v) (o+1) i (by rw[aco];omega)];by_cases h1:o+1<=i/\i<o+1+vs.length
  ·rw[aai h1,aai (by omega),show i-o=i-(o+1)+1 by omega,aaT]
  ·rw[aag h1];by_cases h2:i=o
   ·subst h2;rw[aai (by omega),abX (by omega)];simp
   ·rw[aag (by omega),ab5 (by omega)]
section
variable {h:za}{m:Nat}{bs:aaa}{ps:List Nat}{fs:Nat->Nat->Prop}{M:MM}{F:Nat->Prop}{c:Int}{p v:V}
end
theorem cC(c n:Nat):uF c n≠0:=by
 unfold uF;split
 ·cases Nat.ble n _ <;> simp
 ·simp
section
variable {h:za}{m:Nat}{bs:aaa}{ps:List Nat}{fs:Nat->Nat->Prop}{M:MM}{F:Nat->Prop}
end
section
variable {h:za}{m:Nat}{bs:aaa}{ps:List Nat}{fs:Nat->Nat->Prop}{M:MM}{F:Nat->Prop}
def gone(B:MB):MB:=⟨B.size,true,λ_=>unk⟩
end
end Go.Mem
