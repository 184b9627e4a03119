import Derived.Test.YtpjjmindjodknaaGreatChecked
import Derived.KernelRfl
import Derived.Test.YtpjjmindjodknaaGreatTD
set_option linter.unusedVariables false
set_option linter.unusedSimpArgs false
set_option maxRecDepth 100000
namespace Go.Mem
open Go.Ai Go.Proofs
end Go.Mem
namespace Go.Ai
open Go.Ai Go.Proofs
abbrev FP(t k n:Nat):Prop := ∀(b off:Nat),zl Tryz.prog t (.pointer (some ⟨b,off,none⟩)) k=some (.pointer (some ⟨b,off+n,none⟩))
abbrev FcG(t k:Nat):Prop := ∀(b off:Nat),zl Tryz.prog t (.pointer (some ⟨b,off,none⟩)) k=some (.pointer (some ⟨b,off,none⟩))
abbrev FcL(t:TypeId):Prop := ∀(b off:Nat) (h:za),zf Tryz.prog t (.pointer (some ⟨b,off,none⟩)) h=zu h b off
abbrev FcN(t:TypeId)(n:Nat):Prop := ∀(b off:Nat) (h:za),zf Tryz.prog t (.pointer (some ⟨b,off,none⟩)) h=qQ h b off n
abbrev FcI(t:TypeId):Prop := ∀(b off:Nat) (v:Int) (h:za),uv Tryz.prog t (.pointer (some ⟨b,off,none⟩)) (pm v) h=Eo h b off [(pm v)]
abbrev FcS(t:TypeId):Prop := ∀(b off:Nat) (v:Option Addr) (vl vc:Nat) (h:za),uv Tryz.prog t (.pointer (some ⟨b,off,none⟩)) (.slice v vl vc) h=Eo h b off [(.slice v vl vc)]
abbrev FcM(t:TypeId)(n:Nat):Prop := ∀(b off:Nat) (l:List aaa) (h:za) (_:l.length=n),uv Tryz.prog t (.pointer (some ⟨b,off,none⟩)) (.agg l.toArray) h=Eo h b off l
abbrev FcA(t e s y:Nat):Prop := ∀(r:TypeId) (v x:aaa) (n:Nat) (new:List aaa) (h:za) (_:Kv x=some n) (_:kh h n s x=some new) (_:new.all wG=true) (_:new.length=n*s),zB Tryz.prog .append [t,t] r [v,x] h=UJ h e s y n new v
abbrev FcX(t n:Nat):Prop := ∀(b off len c:Nat) (k:IntKind) (i:Int),vf Tryz.prog t (.slice (some ⟨b,off,none⟩) len c) (.int k i)=if 0<=i/\i<len then some (.pointer (some ⟨b,off+i.toNat*n,none⟩)) else none
abbrev FcE(t:TypeId):Prop := ∀(r:TypeId) (a:Option Addr) (n c:Nat) (h:za),zB Tryz.prog .len [t] r [.slice a n c] h=some (pm n,h)
end Go.Ai
namespace Go.Mem
open Go.Ai Go.Proofs
structure V where
 k:Int
 n:Int
 b:Int
 deriving DecidableEq
def v0:V:=⟨0,0,0⟩
structure Cl where
 k:Int
 n:Int
 p:V
 deriving DecidableEq
def unk:Cl:=⟨0,0,v0⟩
structure MB where
 size:Nat
 zgT:Bool
 byte:Nat->Cl
abbrev MM:=List MB
section mono
variable {h h':za}
end mono
theorem OV{n:Int}(h1 : -9223372036854775808<=n)(h2:n<9223372036854775808):IntKind.wrap .i64 n=n:=by
 simp only[IntKind.wrap,IntKind.bits,IntKind.signed];simp;omega
section
variable {h:za}{p:Nat}{B:MB}{F:Nat->Prop}{pg:aaa}{a:Int}
end
def UW(n:Int):Prop := -9223372036854775808<=n/\n<9223372036854775808
section
variable {h:za}{m:Nat}{bs:aaa}{ps:List Nat}{fs:Nat->Nat->Prop}{M:MM}{F:Nat->Prop}{c:Int}{p:V}
end
section
variable {h:za}{m:Nat}{bs:aaa}{ps:List Nat}{fs:Nat->Nat->Prop}{M:MM}{F:Nat->Prop}{c:Int}{p:V}
end
theorem Ib(vs:List aaa):∀(cs:List aaa) (o i:Nat),o+vs.length<=cs.length->(zp cs o vs)[i]? = if o<=i/\i<o+vs.length then vs[i-o]? else cs[i]?:=by
 induction vs with
 |nil=>intro cs o i _;rw[aaf (by simp)];rfl
 |cons v vs ih=>
  intro cs o i h;simp only[aa3]at h ⊢;unfold zp;rw[ih (cs.set o v) (o+1) i (by rw[List.length_set];omega)];by_cases h1:o+1<=i/\i<o+1+vs.length
  ·rw[aai h1,aai (by omega),show i-o=i-(o+1)+1 by omega,aaU]
  ·rw[aaf h1];by_cases h2:i=o
   ·subst h2;rw[aai (by omega),acj (by omega)];simp
   ·rw[aaf (by omega),List.getElem?_set_ne (by omega)]
section
variable {h:za}{m:Nat}{bs:aaa}{ps:List Nat}{fs:Nat->Nat->Prop}{M:MM}{F:Nat->Prop}{c:Int}{p v:V}
end
theorem bD(c n:Nat):ux c n≠0:=by
 unfold ux;split
 ·cases Nat.ble n _ <;> simp
 ·simp
section
variable {h:za}{m:Nat}{bs:aaa}{ps:List Nat}{fs:Nat->Nat->Prop}{M:MM}{F:Nat->Prop}
end
section
variable {h:za}{m:Nat}{bs:aaa}{ps:List Nat}{fs:Nat->Nat->Prop}{M:MM}{F:Nat->Prop}
def gone(B:MB):MB:=⟨B.size,true,λ_=>unk⟩
end
end Go.Mem
