import Derived.Test.YtpjjmindjodknaaGreatChecked
import Derived.KernelRfl
import Derived.Test.YtpjjmindjodknaaGreatTD
set_option linter.unusedVariables false
set_option linter.unusedSimpArgs false
set_option maxRecDepth 100000
namespace Go.Mem
open Go.Ai Go.Proofs
end Go.Mem
namespace Go.Ai
open Go.Ai Go.Proofs
abbrev sW(t k n:Nat):Prop := ∀(b off:Nat),zk Tryz.prog t (.pointer (some ⟨b,off,none⟩)) k=some (.pointer (some ⟨b,off+n,none⟩))
abbrev FcG(t k:Nat):Prop := ∀(b off:Nat),zk Tryz.prog t (.pointer (some ⟨b,off,none⟩)) k=some (.pointer (some ⟨b,off,none⟩))
abbrev Ni(t:TypeId):Prop := ∀(b off:Nat) (h:za),zd Tryz.prog t (.pointer (some ⟨b,off,none⟩)) h=zu h b off
abbrev FcN(t:TypeId)(n:Nat):Prop := ∀(b off:Nat) (h:za),zd Tryz.prog t (.pointer (some ⟨b,off,none⟩)) h=jY h b off n
abbrev FcI(t:TypeId):Prop := ∀(b off:Nat) (v:Int) (h:za),vH Tryz.prog t (.pointer (some ⟨b,off,none⟩)) (pm v) h=sU h b off [(pm v)]
abbrev FcS(t:TypeId):Prop := ∀(b off:Nat) (v:Option Addr) (vl vc:Nat) (h:za),vH Tryz.prog t (.pointer (some ⟨b,off,none⟩)) (.slice v vl vc) h=sU h b off [(.slice v vl vc)]
abbrev FcM(t:TypeId)(n:Nat):Prop := ∀(b off:Nat) (l:List aaa) (h:za) (_:l.length=n),vH Tryz.prog t (.pointer (some ⟨b,off,none⟩)) (.agg l.toArray) h=sU h b off l
abbrev FcA(t e s y:Nat):Prop := ∀(r:TypeId) (v x:aaa) (n:Nat) (new:List aaa) (h:za) (_:U3 x=some n) (_:qp h n s x=some new) (_:new.all xX=true) (_:new.length=n*s),zF Tryz.prog .append [t,t] r [v,x] h=Jc h e s y n new v
abbrev FcX(t n:Nat):Prop := ∀(b off len c:Nat) (k:IntKind) (i:Int),vG Tryz.prog t (.slice (some ⟨b,off,none⟩) len c) (.int k i)=if 0<=i/\i<len then some (.pointer (some ⟨b,off+i.toNat*n,none⟩)) else none
abbrev FcE(t:TypeId):Prop := ∀(r:TypeId) (a:Option Addr) (n c:Nat) (h:za),zF Tryz.prog .len [t] r [.slice a n c] h=some (pm n,h)
end Go.Ai
namespace Go.Mem
open Go.Ai Go.Proofs
structure V where
 k:Int
 n:Int
 b:Int
 deriving DecidableEq
def v0:V:=⟨0,0,0⟩
structure Cl where
 k:Int
 n:Int
 p:V
 deriving DecidableEq
def unk:Cl:=⟨0,0,v0⟩
structure MB where
 size:Nat
 zdD:Bool
 byte:Nat->Cl
abbrev MM:=List MB
section mono
variable {h h':za}
end mono
theorem Rq{n:Int}(h1 : -9223372036854775808<=n)(h2:n<9223372036854775808):IntKind.wrap .i64 n=n:=by
 simp only[IntKind.wrap,IntKind.bits,IntKind.signed];simp;omega
section
variable {h:za}{p:Nat}{B:MB}{F:Nat->Prop}{pg:aaa}{a:Int}
end
def qU(n:Int):Prop := -9223372036854775808<=n/\n<9223372036854775808
section
variable {h:za}{m:Nat}{bs:aaa}{ps:List Nat}{fs:Nat->Nat->Prop}{M:MM}{F:Nat->Prop}{c:Int}{p:V}
end
section
variable {h:za}{m:Nat}{bs:aaa}{ps:List Nat}{fs:Nat->Nat->Prop}{M:MM}{F:Nat->Prop}{c:Int}{p:V}
end
theorem EK(vs:List aaa):∀(cs:List aaa) (o i:Nat),o+vs.length<=cs.length->(zt cs o vs)[i]? = if o<=i/\i<o+vs.length then vs[i-o]? else cs[i]?:=by
 induction vs with
 |nil=>intro cs o i _;rw[aae (by simp)];rfl
 |cons v vs ih=>
  intro cs o i h;simp only[abc]at h ⊢;unfold zt;rw[ih (cs.set o v) (o+1) i (by rw[List.length_set];omega)];by_cases h1:o+1<=i/\i<o+1+vs.length
  ·rw[aah h1,aah (by omega),show i-o=i-(o+1)+1 by omega,aaR]
  ·rw[aae h1];by_cases h2:i=o
   ·subst h2;rw[aah (by omega),aco (by omega)];simp
   ·rw[aae (by omega),List.getElem?_set_ne (by omega)]
section
variable {h:za}{m:Nat}{bs:aaa}{ps:List Nat}{fs:Nat->Nat->Prop}{M:MM}{F:Nat->Prop}{c:Int}{p v:V}
end
theorem Ji(c n:Nat):vW c n≠0:=by
 unfold vW;split
 ·cases Nat.ble n _ <;> simp
 ·simp
section
variable {h:za}{m:Nat}{bs:aaa}{ps:List Nat}{fs:Nat->Nat->Prop}{M:MM}{F:Nat->Prop}
end
section
variable {h:za}{m:Nat}{bs:aaa}{ps:List Nat}{fs:Nat->Nat->Prop}{M:MM}{F:Nat->Prop}
def gone(B:MB):MB:=⟨B.size,true,λ_=>unk⟩
end
end Go.Mem
