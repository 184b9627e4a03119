/- A part of the proof. -/
import Derived.Test.YtcecapkbglnejaaDoorTL
import Derived.Test.YtcecapkbglnejaaDoorTJ
import Derived.Test.YtcecapkbglnejaaDoorChecked
import Derived.KernelRfl
import Derived.Test.YtcecapkbglnejaaDoorTH
import Derived.Test.YtcecapkbglnejaaDoorTI
import Derived.Test.YtcecapkbglnejaaDoorTG
set_option linter.unusedVariables false
set_option linter.unusedSimpArgs false
set_option maxRecDepth 100000
namespace Go.As
open Go.Ai Go.Proofs
noncomputable def Wh:Array Field:=match Program.underlying Tryd.prog 86 with | some (.struct f)=>f | _ => #[]
theorem xz (b off:Nat) (h:za):zd Tryd.prog 2 (.pointer (some ⟨b,off,none⟩)) h=zL h b off:=yD (by kernel_rfl) b off h
theorem ZP (b off:Nat) (h:za):zd Tryd.prog 22 (.pointer (some ⟨b,off,none⟩)) h=zL h b off:=yD (by kernel_rfl) b off h
theorem qU (b off:Nat) (h:za):zd Tryd.prog 23 (.pointer (some ⟨b,off,none⟩)) h=zL h b off:=yD (by kernel_rfl) b off h
theorem Vd (b off:Nat) (h:za):zd Tryd.prog 25 (.pointer (some ⟨b,off,none⟩)) h=yb h b off 4:=v7 (by kernel_rfl) (by kernel_rfl) b off h
theorem zu (b off:Nat) (h:za):zd Tryd.prog 3 (.pointer (some ⟨b,off,none⟩)) h=zL h b off:=yD (by kernel_rfl) b off h
theorem r7 (b off:Nat) (h:za):zd Tryd.prog 31 (.pointer (some ⟨b,off,none⟩)) h=zL h b off:=yD (by kernel_rfl) b off h
theorem Kj (b off:Nat) (h:za):zd Tryd.prog 32 (.pointer (some ⟨b,off,none⟩)) h=zL h b off:=yD (by kernel_rfl) b off h
theorem Ve (b off:Nat) (h:za):zd Tryd.prog 34 (.pointer (some ⟨b,off,none⟩)) h=yb h b off 5:=v7 (by kernel_rfl) (by kernel_rfl) b off h
theorem oM (b off:Nat) (h:za):zd Tryd.prog 4 (.pointer (some ⟨b,off,none⟩)) h=zL h b off:=yD (by kernel_rfl) b off h
theorem XS (b off:Nat) (h:za):zd Tryd.prog 47 (.pointer (some ⟨b,off,none⟩)) h=zL h b off:=yD (by kernel_rfl) b off h
theorem B4 (b off:Nat) (h:za):zd Tryd.prog 49 (.pointer (some ⟨b,off,none⟩)) h=yb h b off 2:=v7 (by kernel_rfl) (by kernel_rfl) b off h
theorem vx (b off:Nat) (h:za):zd Tryd.prog 51 (.pointer (some ⟨b,off,none⟩)) h=yb h b off 7:=v7 (by kernel_rfl) (by kernel_rfl) b off h
theorem B5 (b off:Nat) (h:za):zd Tryd.prog 81 (.pointer (some ⟨b,off,none⟩)) h=zL h b off:=yD (by kernel_rfl) b off h
theorem fk (b off:Nat) (h:za):zd Tryd.prog 82 (.pointer (some ⟨b,off,none⟩)) h=zL h b off:=yD (by kernel_rfl) b off h
theorem HD (b off:Nat) (h:za):zd Tryd.prog 83 (.pointer (some ⟨b,off,none⟩)) h=zL h b off:=yD (by kernel_rfl) b off h
theorem r8 (b off:Nat) (h:za):zd Tryd.prog 84 (.pointer (some ⟨b,off,none⟩)) h=zL h b off:=yD (by kernel_rfl) b off h
theorem zn (b off:Nat) (h:za):zd Tryd.prog 86 (.pointer (some ⟨b,off,none⟩)) h=yb h b off 3:=v7 (by kernel_rfl) (by kernel_rfl) b off h
theorem Ff (b off:Nat) (h:za):zd Tryd.prog 99 (.pointer (some ⟨b,off,none⟩)) h=zL h b off:=yD (by kernel_rfl) b off h
theorem HG (r:TypeId) (v x:Value) (n:Nat) (new:List Value) (h:za) (h1:ZQ x=some n) (h2:wW h n 1 x=some new) (h3:new.all xE=true) (h4:new.length=n * 1):zo Tryd.prog .append [22,22] r [v,x] h=Xv h 3 1 8 n new v:=jK (e:=3) (e2:=3) (by kernel_rfl) (by kernel_rfl) (by kernel_rfl) (by kernel_rfl) (by decide) h1 h2 h3 h4
theorem HI (r:TypeId) (v x:Value) (n:Nat) (new:List Value) (h:za) (h1:ZQ x=some n) (h2:wW h n 2 x=some new) (h3:new.all xE=true) (h4:new.length=n * 2):zo Tryd.prog .append [31,31] r [v,x] h=Xv h 69 2 16 n new v:=jK (e:=69) (e2:=69) (by kernel_rfl) (by kernel_rfl) (by kernel_rfl) (by kernel_rfl) (by decide) h1 h2 h3 h4
theorem HJ (r:TypeId) (v x:Value) (n:Nat) (new:List Value) (h:za) (h1:ZQ x=some n) (h2:wW h n 3 x=some new) (h3:new.all xE=true) (h4:new.length=n * 3):zo Tryd.prog .append [32,32] r [v,x] h=Xv h 41 3 24 n new v:=jK (e:=41) (e2:=41) (by kernel_rfl) (by kernel_rfl) (by kernel_rfl) (by kernel_rfl) (by decide) h1 h2 h3 h4
theorem HK (r:TypeId) (v x:Value) (n:Nat) (new:List Value) (h:za) (h1:ZQ x=some n) (h2:wW h n 1 x=some new) (h3:new.all xE=true) (h4:new.length=n * 1):zo Tryd.prog .append [81,81] r [v,x] h=Xv h 99 1 8 n new v:=jK (e:=99) (e2:=99) (by kernel_rfl) (by kernel_rfl) (by kernel_rfl) (by kernel_rfl) (by decide) h1 h2 h3 h4
theorem HL (r:TypeId) (v x:Value) (n:Nat) (new:List Value) (h:za) (h1:ZQ x=some n) (h2:wW h n 7 x=some new) (h3:new.all xE=true) (h4:new.length=n * 7):zo Tryd.prog .append [84,84] r [v,x] h=Xv h 105 7 56 n new v:=jK (e:=105) (e2:=105) (by kernel_rfl) (by kernel_rfl) (by kernel_rfl) (by kernel_rfl) (by decide) h1 h2 h3 h4
theorem F9 (b off:Nat) (l:List Value) (h:za) (hv:l.length=6):zk Tryd.prog 100 (.pointer (some ⟨b,off,none⟩)) (.agg l.toArray) h=xU h b off l:=qb (by kernel_rfl) b off l h hv
theorem Lt (b off:Nat) (v:Int) (h:za):zk Tryd.prog 2 (.pointer (some ⟨b,off,none⟩)) (.int .i64 v) h=xU h b off [(.int .i64 v)]:=wV (by kernel_rfl) b off _ h rfl
theorem HN (b off:Nat) (v:Option Addr) (vl vc:Nat) (h:za):zk Tryd.prog 22 (.pointer (some ⟨b,off,none⟩)) (.slice v vl vc) h=xU h b off [(.slice v vl vc)]:=wV (by kernel_rfl) b off _ h rfl
theorem ZV (b off:Nat) (v:Int) (h:za):zk Tryd.prog 3 (.pointer (some ⟨b,off,none⟩)) (.int .i64 v) h=xU h b off [(.int .i64 v)]:=wV (by kernel_rfl) b off _ h rfl
theorem HO (b off:Nat) (v:Option Addr) (vl vc:Nat) (h:za):zk Tryd.prog 31 (.pointer (some ⟨b,off,none⟩)) (.slice v vl vc) h=xU h b off [(.slice v vl vc)]:=wV (by kernel_rfl) b off _ h rfl
theorem HQ (b off:Nat) (v:Option Addr) (vl vc:Nat) (h:za):zk Tryd.prog 32 (.pointer (some ⟨b,off,none⟩)) (.slice v vl vc) h=xU h b off [(.slice v vl vc)]:=wV (by kernel_rfl) b off _ h rfl
theorem Wb (b off:Nat) (l:List Value) (h:za) (hv:l.length=5):zk Tryd.prog 34 (.pointer (some ⟨b,off,none⟩)) (.agg l.toArray) h=xU h b off l:=qb (by kernel_rfl) b off l h hv
theorem DY (b off:Nat) (v:Bool) (h:za):zk Tryd.prog 4 (.pointer (some ⟨b,off,none⟩)) (.bool v) h=xU h b off [(.bool v)]:=wV (by kernel_rfl) b off _ h rfl
theorem Fh (b off:Nat) (l:List Value) (h:za) (hv:l.length=2):zk Tryd.prog 49 (.pointer (some ⟨b,off,none⟩)) (.agg l.toArray) h=xU h b off l:=qb (by kernel_rfl) b off l h hv
theorem sc (b off:Nat) (l:List Value) (h:za) (hv:l.length=7):zk Tryd.prog 51 (.pointer (some ⟨b,off,none⟩)) (.agg l.toArray) h=xU h b off l:=qb (by kernel_rfl) b off l h hv
theorem HR (b off:Nat) (v:Option Addr) (vl vc:Nat) (h:za):zk Tryd.prog 81 (.pointer (some ⟨b,off,none⟩)) (.slice v vl vc) h=xU h b off [(.slice v vl vc)]:=wV (by kernel_rfl) b off _ h rfl
theorem Fi (b off:Nat) (v:Option Addr) (vl vc:Nat) (h:za):zk Tryd.prog 84 (.pointer (some ⟨b,off,none⟩)) (.slice v vl vc) h=xU h b off [(.slice v vl vc)]:=wV (by kernel_rfl) b off _ h rfl
theorem zF (b off:Nat) (l:List Value) (h:za) (hv:l.length=3):zk Tryd.prog 86 (.pointer (some ⟨b,off,none⟩)) (.agg l.toArray) h=xU h b off l:=qb (by kernel_rfl) b off l h hv
theorem Ge:xP Tryd.prog 100=some (.agg #[(.int .i64 0),(.int .i64 0),(.int .i64 0),(.int .i64 0),(.int .i64 0),(.int .i64 0)]):=zI (by kernel_rfl)
theorem Us:xP Tryd.prog 34=some (.agg #[(.int .i64 0),(.int .i64 0),(.slice none 0 0),(.slice none 0 0),(.int .i64 0)]):=zI (by kernel_rfl)
theorem Fj:xP Tryd.prog 49=some (.agg #[(.string ⟨#[]⟩),(.slice none 0 0)]):=zI (by kernel_rfl)
theorem sh:xP Tryd.prog 51=some (.agg #[(.int .i64 0),(.int .i64 0),(.int .i64 0),(.int .i64 0),(.int .i64 0),(.int .i64 0),(.int .i64 0)]):=zI (by kernel_rfl)
theorem wi:xP Tryd.prog 86=some (.agg #[(.int .i64 0),(.int .i64 0),(.int .i64 0)]):=zI (by kernel_rfl)
theorem Cm (v0:Int):yR Tryd.prog 105 [(0,(.int .i64 v0))]=some (.agg #[(.int .i64 v0),(.int .i64 0),(.int .i64 0),(.int .i64 0),(.int .i64 0),(.int .i64 0),(.int .i64 0)]):=zI (by kernel_rfl)
theorem Gg:yR Tryd.prog 34 []=some (.agg #[(.int .i64 0),(.int .i64 0),(.slice none 0 0),(.slice none 0 0),(.int .i64 0)]):=zI (by kernel_rfl)
theorem mj (v0:Int) (v1:Int) (v2:Int):yR Tryd.prog 41 [(0,(.int .i64 v0)),(1,(.int .i64 v1)),(2,(.int .i64 v2))]=some (.agg #[(.int .i64 v0),(.int .i64 v1),(.int .i64 v2)]):=zI (by kernel_rfl)
theorem Ag (v0:Int) (v1:Int):yR Tryd.prog 69 [(0,(.int .i64 v0)),(1,(.int .i64 v1))]=some (.agg #[(.int .i64 v0),(.int .i64 v1)]):=zI (by kernel_rfl)
theorem Al (v0:Int) (h:za):y8 Tryd.prog 22 1 [(0,(.int .i64 v0))] h=some (.slice (some ⟨h.next,0,none⟩) 1 3,h.push (.cells [(.int .i64 v0)] 3)):=zI (by kernel_rfl)
theorem An (v00:Int) (v01:Int) (h:za):y8 Tryd.prog 31 1 [(0,(.agg #[(.int .i64 v00),(.int .i64 v01)]))] h=some (.slice (some ⟨h.next,0,none⟩) 1 3,h.push (.cells [(.int .i64 v00),(.int .i64 v01)] 69)):=zI (by kernel_rfl)
theorem Ao (v00:Int) (v01:Int) (v02:Int) (h:za):y8 Tryd.prog 32 1 [(0,(.agg #[(.int .i64 v00),(.int .i64 v01),(.int .i64 v02)]))] h=some (.slice (some ⟨h.next,0,none⟩) 1 3,h.push (.cells [(.int .i64 v00),(.int .i64 v01),(.int .i64 v02)] 41)):=zI (by kernel_rfl)
theorem Ap (v0:Option Nat) (h:za):y8 Tryd.prog 81 1 [(0,(.map v0))] h=some (.slice (some ⟨h.next,0,none⟩) 1 3,h.push (.cells [(.map v0)] 99)):=zI (by kernel_rfl)
theorem Aq (v00:Int) (v01:Int) (v02:Int) (v03:Int) (v040:Int) (v041:Int) (v042:Int) (h:za):y8 Tryd.prog 84 1 [(0,(.agg #[(.int .i64 v00),(.int .i64 v01),(.int .i64 v02),(.int .i64 v03),(.int .i64 v040),(.int .i64 v041),(.int .i64 v042)]))] h=some (.slice (some ⟨h.next,0,none⟩) 1 3,h.push (.cells [(.int .i64 v00),(.int .i64 v01),(.int .i64 v02),(.int .i64 v03),(.int .i64 v040),(.int .i64 v041),(.int .i64 v042)] 105)):=zI (by kernel_rfl)
theorem ki (n:Int) (h:za):vn Tryd.prog 21 2 (.int .i32 n) h=some (.int .i64 (IntKind.wrap .i64 n),h):=zI (by kernel_rfl)
theorem KU (n:Int) (h:za):vn Tryd.prog 2 21 (.int .i64 n) h=some (.int .i32 (IntKind.wrap .i32 n),h):=zI (by kernel_rfl)
theorem aC (b off:Nat):zb Tryd.prog 105 (.pointer (some ⟨b,off,none⟩)) 0=some (.pointer (some ⟨b,off,none⟩)):=zI (by kernel_rfl)
theorem YZ (b off:Nat):zb Tryd.prog 105 (.pointer (some ⟨b,off,none⟩)) 1=some (.pointer (some ⟨b,off + 1,none⟩)):=zI (by kernel_rfl)
theorem Z0 (b off:Nat):zb Tryd.prog 105 (.pointer (some ⟨b,off,none⟩)) 2=some (.pointer (some ⟨b,off + 2,none⟩)):=zI (by kernel_rfl)
theorem UA (b off:Nat):zb Tryd.prog 105 (.pointer (some ⟨b,off,none⟩)) 3=some (.pointer (some ⟨b,off + 3,none⟩)):=zI (by kernel_rfl)
theorem mJ (b off:Nat):zb Tryd.prog 105 (.pointer (some ⟨b,off,none⟩)) 4=some (.pointer (some ⟨b,off + 4,none⟩)):=zI (by kernel_rfl)
theorem qQ (b off:Nat):zb Tryd.prog 25 (.pointer (some ⟨b,off,none⟩)) 0=some (.pointer (some ⟨b,off,none⟩)):=zI (by kernel_rfl)
theorem w9 (b off:Nat):zb Tryd.prog 25 (.pointer (some ⟨b,off,none⟩)) 1=some (.pointer (some ⟨b,off + 1,none⟩)):=zI (by kernel_rfl)
theorem Yo (b off:Nat):zb Tryd.prog 25 (.pointer (some ⟨b,off,none⟩)) 2=some (.pointer (some ⟨b,off + 2,none⟩)):=zI (by kernel_rfl)
theorem ZG (b off:Nat):zb Tryd.prog 25 (.pointer (some ⟨b,off,none⟩)) 3=some (.pointer (some ⟨b,off + 3,none⟩)):=zI (by kernel_rfl)
theorem km (b off:Nat):zb Tryd.prog 34 (.pointer (some ⟨b,off,none⟩)) 0=some (.pointer (some ⟨b,off,none⟩)):=zI (by kernel_rfl)
theorem hO (b off:Nat):zb Tryd.prog 34 (.pointer (some ⟨b,off,none⟩)) 1=some (.pointer (some ⟨b,off + 1,none⟩)):=zI (by kernel_rfl)
theorem KW (b off:Nat):zb Tryd.prog 34 (.pointer (some ⟨b,off,none⟩)) 2=some (.pointer (some ⟨b,off + 2,none⟩)):=zI (by kernel_rfl)
theorem Yp (b off:Nat):zb Tryd.prog 34 (.pointer (some ⟨b,off,none⟩)) 3=some (.pointer (some ⟨b,off + 3,none⟩)):=zI (by kernel_rfl)
theorem UB (b off:Nat):zb Tryd.prog 34 (.pointer (some ⟨b,off,none⟩)) 4=some (.pointer (some ⟨b,off + 4,none⟩)):=zI (by kernel_rfl)
theorem ko (b off:Nat):zb Tryd.prog 49 (.pointer (some ⟨b,off,none⟩)) 1=some (.pointer (some ⟨b,off + 1,none⟩)):=zI (by kernel_rfl)
theorem zh (b off:Nat):zb Tryd.prog 51 (.pointer (some ⟨b,off,none⟩)) 0=some (.pointer (some ⟨b,off,none⟩)):=zI (by kernel_rfl)
theorem vz (b off:Nat):zb Tryd.prog 51 (.pointer (some ⟨b,off,none⟩)) 1=some (.pointer (some ⟨b,off + 1,none⟩)):=zI (by kernel_rfl)
theorem wt (b off:Nat):zb Tryd.prog 51 (.pointer (some ⟨b,off,none⟩)) 2=some (.pointer (some ⟨b,off + 2,none⟩)):=zI (by kernel_rfl)
theorem yz (b off:Nat):zb Tryd.prog 51 (.pointer (some ⟨b,off,none⟩)) 3=some (.pointer (some ⟨b,off + 3,none⟩)):=zI (by kernel_rfl)
theorem KX (b off:Nat):zb Tryd.prog 51 (.pointer (some ⟨b,off,none⟩)) 4=some (.pointer (some ⟨b,off + 4,none⟩)):=zI (by kernel_rfl)
theorem jW (b off:Nat):zb Tryd.prog 51 (.pointer (some ⟨b,off,none⟩)) 5=some (.pointer (some ⟨b,off + 5,none⟩)):=zI (by kernel_rfl)
theorem y7 (b off:Nat):zb Tryd.prog 51 (.pointer (some ⟨b,off,none⟩)) 6=some (.pointer (some ⟨b,off + 6,none⟩)):=zI (by kernel_rfl)
theorem xk (b off:Nat):zb Tryd.prog 86 (.pointer (some ⟨b,off,none⟩)) 0=some (.pointer (some ⟨b,off,none⟩)):=zI (by kernel_rfl)
theorem xi (b off:Nat):zb Tryd.prog 86 (.pointer (some ⟨b,off,none⟩)) 1=some (.pointer (some ⟨b,off + 1,none⟩)):=zI (by kernel_rfl)
theorem wO (b off:Nat):zb Tryd.prog 86 (.pointer (some ⟨b,off,none⟩)) 2=some (.pointer (some ⟨b,off + 2,none⟩)):=zI (by kernel_rfl)
theorem su (b off:Nat):zb Tryd.prog 89 (.pointer (some ⟨b,off,none⟩)) 0=some (.pointer (some ⟨b,off,none⟩)):=zI (by kernel_rfl)
theorem hQ (b off:Nat):zb Tryd.prog 89 (.pointer (some ⟨b,off,none⟩)) 1=some (.pointer (some ⟨b,off + 4,none⟩)):=zI (by kernel_rfl)
theorem UC (b off:Nat):zb Tryd.prog 89 (.pointer (some ⟨b,off,none⟩)) 10=some (.pointer (some ⟨b,off + 66,none⟩)):=zI (by kernel_rfl)
theorem Wg (b off:Nat):zb Tryd.prog 89 (.pointer (some ⟨b,off,none⟩)) 11=some (.pointer (some ⟨b,off + 69,none⟩)):=zI (by kernel_rfl)
theorem mM (b off:Nat):zb Tryd.prog 89 (.pointer (some ⟨b,off,none⟩)) 12=some (.pointer (some ⟨b,off + 70,none⟩)):=zI (by kernel_rfl)
theorem mN (b off:Nat):zb Tryd.prog 89 (.pointer (some ⟨b,off,none⟩)) 13=some (.pointer (some ⟨b,off + 71,none⟩)):=zI (by kernel_rfl)
theorem WW (b off:Nat):zb Tryd.prog 89 (.pointer (some ⟨b,off,none⟩)) 2=some (.pointer (some ⟨b,off + 5,none⟩)):=zI (by kernel_rfl)
theorem Ee (b off:Nat):zb Tryd.prog 89 (.pointer (some ⟨b,off,none⟩)) 3=some (.pointer (some ⟨b,off + 6,none⟩)):=zI (by kernel_rfl)
theorem ks (b off:Nat):zb Tryd.prog 89 (.pointer (some ⟨b,off,none⟩)) 4=some (.pointer (some ⟨b,off + 7,none⟩)):=zI (by kernel_rfl)
theorem sw (b off:Nat):zb Tryd.prog 89 (.pointer (some ⟨b,off,none⟩)) 5=some (.pointer (some ⟨b,off + 12,none⟩)):=zI (by kernel_rfl)
theorem KY (b off:Nat):zb Tryd.prog 89 (.pointer (some ⟨b,off,none⟩)) 6=some (.pointer (some ⟨b,off + 13,none⟩)):=zI (by kernel_rfl)
theorem xI (b off:Nat):zb Tryd.prog 89 (.pointer (some ⟨b,off,none⟩)) 7=some (.pointer (some ⟨b,off + 14,none⟩)):=zI (by kernel_rfl)
theorem Yq (b off:Nat):zb Tryd.prog 89 (.pointer (some ⟨b,off,none⟩)) 8=some (.pointer (some ⟨b,off + 62,none⟩)):=zI (by kernel_rfl)
theorem KZ (b off:Nat):zb Tryd.prog 89 (.pointer (some ⟨b,off,none⟩)) 9=some (.pointer (some ⟨b,off + 63,none⟩)):=zI (by kernel_rfl)
theorem GC (b off:Nat) (k:IntKind) (i:Int):zA Tryd.prog 100 (.pointer (some ⟨b,off,none⟩)) (.int k i)=if 0<=i/\i < 6 then some (.pointer (some ⟨b,off + i.toNat * 1,none⟩)) else none:=Xr (e:=3) (len:=6) (by kernel_rfl) (by kernel_rfl)
theorem Fw (b off len c:Nat) (k:IntKind) (i:Int):zA Tryd.prog 22 (.slice (some ⟨b,off,none⟩) len c) (.int k i)=if 0<=i/\i < len then some (.pointer (some ⟨b,off + i.toNat * 1,none⟩)) else none:=xN (e:=3) (by kernel_rfl) (by kernel_rfl)
theorem Fx (b off len c:Nat) (k:IntKind) (i:Int):zA Tryd.prog 23 (.slice (some ⟨b,off,none⟩) len c) (.int k i)=if 0<=i/\i < len then some (.pointer (some ⟨b,off + i.toNat * 2,none⟩)) else none:=xN (e:=49) (by kernel_rfl) (by kernel_rfl)
theorem CT (b off len c:Nat) (k:IntKind) (i:Int):zA Tryd.prog 30 (.slice (some ⟨b,off,none⟩) len c) (.int k i)=if 0<=i/\i < len then some (.pointer (some ⟨b,off + i.toNat * 1,none⟩)) else none:=xN (e:=2) (by kernel_rfl) (by kernel_rfl)
theorem Fz (b off len c:Nat) (k:IntKind) (i:Int):zA Tryd.prog 47 (.slice (some ⟨b,off,none⟩) len c) (.int k i)=if 0<=i/\i < len then some (.pointer (some ⟨b,off + i.toNat * 7,none⟩)) else none:=xN (e:=51) (by kernel_rfl) (by kernel_rfl)
theorem Ie (b off len c:Nat) (k:IntKind) (i:Int):zA Tryd.prog 81 (.slice (some ⟨b,off,none⟩) len c) (.int k i)=if 0<=i/\i < len then some (.pointer (some ⟨b,off + i.toNat * 1,none⟩)) else none:=xN (e:=99) (by kernel_rfl) (by kernel_rfl)
theorem Ig (b off len c:Nat) (k:IntKind) (i:Int):zA Tryd.prog 84 (.slice (some ⟨b,off,none⟩) len c) (.int k i)=if 0<=i/\i < len then some (.pointer (some ⟨b,off + i.toNat * 7,none⟩)) else none:=xN (e:=105) (by kernel_rfl) (by kernel_rfl)
theorem vO (b off:Nat) (k:IntKind) (i:Int):zA Tryd.prog 87 (.pointer (some ⟨b,off,none⟩)) (.int k i)=if 0<=i/\i < 16 then some (.pointer (some ⟨b,off + i.toNat * 3,none⟩)) else none:=Xr (e:=86) (len:=16) (by kernel_rfl) (by kernel_rfl)
theorem pH (r:TypeId) (a:Option Addr) (n c:Nat) (h:za):zo Tryd.prog .len [22] r [.slice a n c] h=some (.int .i64 n,h):=zI (by kernel_rfl)
theorem pI (r:TypeId) (a:Option Addr) (n c:Nat) (h:za):zo Tryd.prog .len [23] r [.slice a n c] h=some (.int .i64 n,h):=zI (by kernel_rfl)
theorem bB (r:TypeId) (a:Option Addr) (n c:Nat) (h:za):zo Tryd.prog .len [30] r [.slice a n c] h=some (.int .i64 n,h):=zI (by kernel_rfl)
theorem pK (r:TypeId) (a:Option Addr) (n c:Nat) (h:za):zo Tryd.prog .len [47] r [.slice a n c] h=some (.int .i64 n,h):=zI (by kernel_rfl)
theorem pL (r:TypeId) (a:Option Addr) (n c:Nat) (h:za):zo Tryd.prog .len [84] r [.slice a n c] h=some (.int .i64 n,h):=zI (by kernel_rfl)
theorem C4 (x y:Operand) (a0:Int) (a1:Int) (a2:Int) (b0:Int) (b1:Int) (b2:Int):zf Tryd.prog .neq 86 x y (.agg #[(.int .i64 a0),(.int .i64 a1),(.int .i64 a2)]) (.agg #[(.int .i64 b0),(.int .i64 b1),(.int .i64 b2)])=some (.bool (!((a0 == b0) && ((a1 == b1) && ((a2 == b2)))))):=(ji (fs:=Wh) (r:=(a0 == b0) && ((a1 == b1) && ((a2 == b2)))) (by kernel_rfl) (by kernel_rfl) (by kernel_rfl) rfl rfl (Eq.trans (b:=(cond (a0 == b0) (cond (a1 == b1) (cond (a2 == b2) (some true) (some false)) (some false)) (some false))) (by kernel_rfl) (by cases (a0 == b0) <;> cases (a1 == b1) <;> cases (a2 == b2) <;> rfl))).2
theorem I5 (b off len c:Nat) (lo hi:Option Value) (h:za):Cf Tryd.prog 84 (.slice (some ⟨b,off,none⟩) len c) lo hi h=(vL hi len len).bind fun hh=>(vL lo 0 hh).bind fun l=>some (.slice (some ⟨b,off + l * 7,none⟩) (hh - l) (cond (wide Tryd.prog h b 7) (VD c l) 0)):=t8 (e:=105) (by kernel_rfl) (by kernel_rfl)
end Go.As
namespace Go.Rm
open Go.Ai Go.Proofs Go.Proofs.Tryd
noncomputable abbrev zz:=prog
abbrev VK:=Value->za->Prop
abbrev LK:=List Value->za->Prop
abbrev ci (n:Int):Operand := .const (.int .i64 n)
abbrev fn (n:Nat):Value := .func (.func n) #[] #[]
variable {h:za} {t0 t1 t2 t3 t4 t5 t6:Value} {R:VK}
def qs:FuncId->Nat:=fun g=>[0,0,0,0,0,0,0,0,0,0,0,0,0,0,0,0,0,0,0,0,0,0,0,0,0,0,0,0,0,0,0,0,0,0,0,0,0,0,0,0,0,0,3,3,0,0,2,0,0,0,0,0,0,0,0,0,0,0,0,0,0,0,0,0,0,2,0,0,0,2,0,0,0,0,0,0,0,0,0,0,0,0,0,0,0,0,0,0,0,2].getD g 0
theorem mixed:prog.follows .mixedOrders=true:=Checked.mixed Tryd.checked
theorem vT {f:FuncId} {args:List Value} {X:Prop} (e:X2 zz (vG zz qs) 200 f args h R=X) (hw:X):DC zz f args h R:=xw mixed (q:=qs) (n:=200) (Eq.mpr e hw)
def Bw:=fun a (d:za) (R:VK) (f:LK)=>
 opt (nb [] (yR zz 86 [])) fun b=>opt (nb [b] (zk zz 86 a b d)) fun c=>opt (zd zz 86 a c) fun e=>rv [e,.bool false] c R
def Bx:=fun g (a:za) b (R:VK) (n:LK)=>
 opt (zb zz 86 g 1) fun h=>opt (zd zz 2 h a) fun c=>xA (nb [c] (vn zz 2 21 c a)) fun d i=>xA (nb [d] (vn zz 21 2 d i)) fun j k=>zR zz (fn 46) [j] k (fun e l=>opt (nb [e] (zk zz 86 b e l)) fun f=>opt (zd zz 86 b f) fun m=>rv [m,.bool true] f R)
def By:=fun g (a:za) b (R:VK) (n:LK)=>
 opt (zb zz 86 g 1) fun h=>opt (zd zz 2 h a) fun c=>xA (nb [c] (vn zz 2 173 c a)) fun d i=>xA (nb [d] (vn zz 173 2 d i)) fun j k=>zR zz (fn 46) [j] k (fun e l=>opt (nb [e] (zk zz 86 b e l)) fun f=>opt (zd zz 86 b f) fun m=>rv [m,.bool true] f R)
def n6:=fun a c (b:za) d (R:VK) e (f:LK)=>
 opt (nb [a,.int .i64 4] (zf zz .eql 3 (.tmp 10) (.const (.int .i64 4)) a (.int .i64 4))) fun g=>CD g (Bx c b d R)
 (fun h=>h [nth e 0] b)
 (fun i j=>f [nth i 0] j)
def Bz:=fun e (a:za) b (R:VK) (k:LK)=>
 opt (zb zz 86 e 1) fun f=>opt (zd zz 2 f a) fun g=>opt (KE zz .xor g) fun h=>zR zz (fn 46) [h] a (fun c i=>opt (nb [c] (zk zz 86 b c i)) fun d=>opt (zd zz 86 b d) fun j=>rv [j,.bool true] d R)
def gx:=fun a b (c:za) d (R:VK) e (f:LK)=>
 opt (nb [a,.int .i64 3] (zf zz .eql 3 (.tmp 10) (.const (.int .i64 3)) a (.int .i64 3))) fun g=>CD g (By b c d R)
 (n6 a b c d R e)
 (fun h i=>f [nth h 0] i)
def BA:=fun e (a:za) b (R:VK) (k:LK)=>
 opt (zb zz 86 e 1) fun f=>opt (zd zz 2 f a) fun g=>opt (KE zz .neg g) fun h=>zR zz (fn 46) [h] a (fun c i=>opt (nb [c] (zk zz 86 b c i)) fun d=>opt (zd zz 86 b d) fun j=>rv [j,.bool true] d R)
def Jj:=fun a b (c:za) d (R:VK) e (f:LK)=>
 opt (nb [a,.int .i64 2] (zf zz .eql 3 (.tmp 10) (.const (.int .i64 2)) a (.int .i64 2))) fun g=>CD g (Bz b c d R)
 (gx a b c d R e)
 (fun h i=>f [nth h 0] i)
def Qb:=fun a b (c:za) d (R:VK) e (f:LK)=>
 opt (nb [a,.int .i64 1] (zf zz .eql 3 (.tmp 10) (ci 1) a (.int .i64 1))) fun g=>CD g (BA b c d R)
 (Jj a b c d R e)
 (fun h i=>f [nth h 0] i)
def rQ:=fun a (R:VK) (f:List Value) (d:za)=>
 opt (nb [] (yR zz 86 [])) fun b=>opt (nb [b] (zk zz 86 a b d)) fun c=>opt (zd zz 86 a c) fun e=>rv [e,.bool false] c R
def HA:=fun (h:za) f b (R:VK)=>
 opt (nb [b] (some (Value.cells b).toList)) fun g=>nw h g 86 fun c i=>opt (xP zz 86) fun j=>nw i (Value.cells j).toList 86 fun a d=>opt (zd zz 86 c d) fun k=>zR zz (fn 90) [k] d (fun l e=>opt (KE zz .not l) fun m=>CD m (Bw a e R)
 (fun n=>n [.bool false] e)
 (fun o p=>BK (Qb f c p a R o)
 (rQ a R)))
theorem DQ (hw:HA h t0 t1 R):DC zz 89 [t0,t1] h R:=vT (by kernel_rfl) hw
def WC:=fun a (R:VK) b (e:za)=>
 opt (ZW b 0) fun c=>opt (ZW b 1) fun f=>opt (nb [c] (zk zz 86 a c e)) fun d=>opt (zd zz 86 a d) fun g=>rv [g,f] d R
def v9:=fun a (R:VK) b (e:za)=>
 opt (ZW b 0) fun c=>opt (ZW b 1) fun f=>opt (nb [c] (zk zz 86 a c e)) fun d=>opt (zd zz 86 a d) fun g=>rv [g,f] d R
def xf:=fun c d e f g (R:VK) (h:LK) i (a:za)=>
 opt (pk c (.bool true) i) fun j=>CD j (fun b=>opt (zd zz 86 d a) fun k=>opt (zd zz 86 e a) fun l=>zR zz (fn 93) [f,k,l] a (v9 g R))
 (fun b=>b [.bool false] a)
 (fun m n=>h [nth m 0] n)
def xg:=fun a d e f g (R:VK) (h:LK) b (c:za)=>
 GD a false (fun i=>opt (nb [b,.int .i64 22] (zf zz .eql 3 (.tmp 84) (.const (.int .i64 22)) b (.int .i64 22))) fun j=>i j c) (xf a d e f g R h) c
def rO:=fun b (a:za) h c (R:VK) (p:LK)=>
 opt (zb zz 86 b 2) fun i=>opt (zd zz 3 i a) fun j=>opt (zb zz 86 b 1) fun k=>opt (zd zz 2 k a) fun d=>opt (zb zz 86 h 1) fun l=>opt (zd zz 2 l a) fun e=>opt (nb [d,e] (zf zz .sub 2 (.tmp 75) (.tmp 77) d e)) fun m=>zR zz (fn 65) [j,m] a (fun f n=>opt (nb [f] (zk zz 86 c f n)) fun g=>opt (zd zz 86 c g) fun o=>rv [o,.bool true] g R)
def xh:=fun a (b:za) d e f (R:VK) (g:LK)=>
 opt (nb [a,.int .i64 21] (zf zz .eql 3 (.tmp 81) (.const (.int .i64 21)) a (.int .i64 21))) fun c=>GD c false (fun h=>h a b) (xg c d e a f R g) b
def y5:=fun b c d e (R:VK) h (i:LK) j (f:za)=>
 GD b true (fun k=>zR zz (fn 90) [j] f (fun a l=>k a l)) (fun a g=>opt (pk b a (.bool false)) fun m=>CD m (rO c g d e R)
 (xh h g c d e R)
 (fun n o=>i [nth n 0] o)) f
def y6:=fun c d g h (R:VK) i (j:LK) k (e:za)=>
 GD c true (fun l=>zR zz (fn 92) [k] e (fun a m=>l a m)) (fun a b=>opt (pk c a (.bool false)) fun f=>GD f true (fun n=>opt (zd zz 86 d b) fun o=>n o b) (y5 f g d h R i j) b) e
def rP:=fun b (a:za) h c (R:VK) (p:LK)=>
 opt (zb zz 86 b 2) fun i=>opt (zd zz 3 i a) fun j=>opt (zb zz 86 h 1) fun k=>opt (zd zz 2 k a) fun d=>opt (zb zz 86 b 1) fun l=>opt (zd zz 2 l a) fun e=>opt (nb [d,e] (zf zz .add 2 (.tmp 56) (.tmp 58) d e)) fun m=>zR zz (fn 65) [j,m] a (fun f n=>opt (nb [f] (zk zz 86 c f n)) fun g=>opt (zd zz 86 c g) fun o=>rv [o,.bool true] g R)
def yr:=fun a c (b:za) e f (R:VK) (g:LK)=>
 opt (nb [a,.int .i64 12] (zf zz .eql 3 (.tmp 62) (.const (.int .i64 12)) a (.int .i64 12))) fun d=>GD d true (fun h=>opt (zd zz 86 c b) fun i=>h i b) (y6 d e c f R a g) b
def yk:=fun b c d e (R:VK) h (i:LK) j (f:za)=>
 GD b true (fun k=>zR zz (fn 92) [j] f (fun a l=>k a l)) (fun a g=>opt (pk b a (.bool false)) fun m=>CD m (rP c g d e R)
 (yr h d g c e R)
 (fun n o=>i [nth n 0] o)) f
def ym:=fun c d g h (R:VK) i (j:LK) k (e:za)=>
 GD c true (fun l=>zR zz (fn 90) [k] e (fun a m=>l a m)) (fun a b=>opt (pk c a (.bool false)) fun f=>GD f true (fun n=>opt (zd zz 86 d b) fun o=>n o b) (yk f d g h R i j) b) e
def iW:=fun b (a:za) h c (R:VK) (p:LK)=>
 opt (zb zz 86 b 2) fun i=>opt (zd zz 3 i a) fun j=>opt (zb zz 86 b 1) fun k=>opt (zd zz 2 k a) fun d=>opt (zb zz 86 h 1) fun l=>opt (zd zz 2 l a) fun e=>opt (nb [d,e] (zf zz .add 2 (.tmp 37) (.tmp 39) d e)) fun m=>zR zz (fn 65) [j,m] a (fun f n=>opt (nb [f] (zk zz 86 c f n)) fun g=>opt (zd zz 86 c g) fun o=>rv [o,.bool true] g R)
def yn:=fun a c (b:za) e f (R:VK) (g:LK)=>
 opt (nb [a,.int .i64 11] (zf zz .eql 3 (.tmp 43) (.const (.int .i64 11)) a (.int .i64 11))) fun d=>GD d true (fun h=>opt (zd zz 86 c b) fun i=>h i b) (ym d e c f R a g) b
def yh:=fun b c d e (R:VK) h (i:LK) j (f:za)=>
 GD b true (fun k=>zR zz (fn 90) [j] f (fun a l=>k a l)) (fun a g=>opt (pk b a (.bool false)) fun m=>CD m (iW c g d e R)
 (yn h c g d e R)
 (fun n o=>i [nth n 0] o)) f
def yi:=fun c d g h (R:VK) i (j:LK) k (e:za)=>
 GD c true (fun l=>zR zz (fn 92) [k] e (fun a m=>l a m)) (fun a b=>opt (pk c a (.bool false)) fun f=>GD f true (fun n=>opt (zd zz 86 d b) fun o=>n o b) (yh f g d h R i j) b) e
def YO:=fun b (a:za) c d e (R:VK) (j:LK)=>
 opt (zb zz 86 b 1) fun f=>opt (zd zz 2 f a) fun g=>opt (zb zz 86 c 1) fun h=>opt (zd zz 2 h a) fun i=>zR zz (fn 91) [d,g,i] a (WC e R)
def yj:=fun a c (b:za) e f (R:VK) (g:LK)=>
 opt (nb [a,.int .i64 11] (zf zz .eql 3 (.tmp 24) (.const (.int .i64 11)) a (.int .i64 11))) fun d=>GD d true (fun h=>opt (zd zz 86 c b) fun i=>h i b) (yi d e c f R a g) b
def zY:=fun b c d e f (R:VK) (i:LK) j (g:za)=>
 GD b true (fun k=>zR zz (fn 90) [j] g (fun a l=>k a l)) (fun a h=>opt (pk b a (.bool false)) fun m=>CD m (YO c h d e f R)
 (yj e c h d f R)
 (fun n o=>i [nth n 0] o)) g
def iX:=fun b (c:za) d f g (R:VK) (h:LK)=>
 opt (zd zz 86 b c) fun i=>zR zz (fn 90) [i] c (fun e a=>GD e true (fun j=>opt (zd zz 86 d a) fun k=>j k a) (zY e b d f g R h) a)
def wu:=fun a (R:VK) (f:List Value) (d:za)=>
 opt (nb [] (yR zz 86 [])) fun b=>opt (nb [b] (zk zz 86 a b d)) fun c=>opt (zd zz 86 a c) fun e=>rv [e,.bool false] c R
def Fa:=fun (h:za) d a b (R:VK)=>
 opt (nb [a] (some (Value.cells a).toList)) fun e=>nw h e 86 fun f g=>opt (nb [b] (some (Value.cells b).toList)) fun i=>nw g i 86 fun j k=>opt (xP zz 86) fun l=>nw k (Value.cells l).toList 86 fun c m=>BK (iX f m j d c R)
 (wu c R)
theorem Br (hw:Fa h t0 t1 t2 R):DC zz 69 [t0,t1,t2] h R:=vT (by kernel_rfl) hw
def rX:=fun a b c (R:VK) (h:List Value) (f:za)=>
 opt (nb [.int .i64 2,a,b] (yR zz 86 [(0,(.int .i64 2)),(1,a),(2,b)])) fun d=>opt (nb [d] (zk zz 86 c d f)) fun e=>opt (zd zz 86 c e) fun g=>rv [g] e R
def Fb:=fun (h:za) a g (R:VK)=>
 opt (xP zz 86) fun i=>nw h (Value.cells i).toList 86 fun b c=>opt (nb [a,.int .i64 1] (zf zz .lss 3 (.tmp 5) (ci 1) a (.int .i64 1))) fun j=>CD j (fun d=>opt (nb [] (yR zz 86 [])) fun e=>opt (nb [e] (zk zz 86 b e c)) fun f=>opt (zd zz 86 b f) fun k=>rv [k] f R)
 (fun d=>d [] c)
 (rX g a b R)
theorem BO (hw:Fb h t0 t1 R):DC zz 65 [t0,t1] h R:=vT (by kernel_rfl) hw
def lb:=fun b (R:VK) (l:List Value) (a:za)=>
 opt (xO b) fun d=>opt (zb zz 122 d 0) fun e=>opt (zd zz 30 e a) fun f=>opt (xO b) fun g=>opt (zb zz 122 g 1) fun h=>opt (zd zz 3 h a) fun c=>opt (nb [c,.int .i64 1] (zf zz .sub 3 (.tmp 27) (ci 1) c (.int .i64 1))) fun i=>opt (zA zz 30 f i) fun j=>opt (zd zz 2 j a) fun k=>rv [k] a R
def Bs:=fun (h:za) a (R:VK)=>
 opt (xO a) fun j=>opt (zb zz 122 j 1) fun k=>opt (zd zz 3 k h) fun c=>opt (nb [c,.int .i64 1] (zf zz .add 3 (.tmp 6) (ci 1) c (.int .i64 1))) fun d=>opt (xO a) fun l=>opt (zb zz 122 l 1) fun m=>opt (nb [d] (zk zz 3 m d h)) fun b=>opt (xO a) fun n=>opt (zb zz 122 n 1) fun o=>opt (zd zz 3 o b) fun e=>opt (xO a) fun p=>opt (zb zz 122 p 0) fun q=>opt (zd zz 30 q b) fun f=>xA (nb [f] (zo zz .len [30] 3 [f] b)) fun g _=>opt (nb [e,g] (zf zz .gtr 3 (.tmp 13) (.tmp 18) e g)) fun r=>CD r (fun i=>rv [.int .i64 0] b R)
 (fun i=>i [.int .i64 0] b)
 (lb a R)
theorem tA (hw:Bs h t0 R):DC zz 73 [t0] h R:=vT (by kernel_rfl) hw
def Qm:=fun b (R:VK) d (c:za)=>
 GD b true (fun e=>zR zz (fn 100) [d] c (fun a f=>e a f)) (fun a g=>opt (pk b a (.bool false)) fun h=>rv [h] g R) c
def rU:=fun (h:za) b (R:VK)=>
 opt (nb [b] (some (Value.cells b).toList)) fun f=>nw h f 86 fun c a=>opt (zb zz 86 c 0) fun g=>opt (zd zz 3 g a) fun d=>opt (nb [d,.int .i64 1] (zf zz .eql 3 (.tmp 4) (ci 1) d (.int .i64 1))) fun e=>GD e true (fun i=>opt (zd zz 86 c a) fun j=>i j a) (Qm e R) a
theorem ot (hw:rU h t0 R):DC zz 90 [t0] h R:=vT (by kernel_rfl) hw
def Qn:=fun b (R:VK) d (c:za)=>
 GD b true (fun e=>zR zz (fn 100) [d] c (fun a f=>e a f)) (fun a g=>opt (pk b a (.bool false)) fun h=>rv [h] g R) c
def rV:=fun (h:za) b (R:VK)=>
 opt (nb [b] (some (Value.cells b).toList)) fun f=>nw h f 86 fun c a=>opt (zb zz 86 c 0) fun g=>opt (zd zz 3 g a) fun d=>opt (nb [d,.int .i64 2] (zf zz .eql 3 (.tmp 4) (.const (.int .i64 2)) d (.int .i64 2))) fun e=>GD e true (fun i=>opt (zd zz 86 c a) fun j=>i j a) (Qn e R) a
theorem ou (hw:rV h t0 R):DC zz 92 [t0] h R:=vT (by kernel_rfl) hw
def X5:=fun a (d:za) (R:VK) (f:LK)=>
 opt (nb [] (yR zz 86 [])) fun b=>opt (nb [b] (zk zz 86 a b d)) fun c=>opt (zd zz 86 a c) fun e=>rv [e,.bool false] c R
def JH:=fun a b (f:za) c (R:VK) (j:LK)=>
 opt (nb [a,b] (zf zz .quo 2 (.tmp 43) (.tmp 44) a b)) fun g=>zR zz (fn 46) [g] f (fun d h=>opt (nb [d] (zk zz 86 c d h)) fun e=>opt (zd zz 86 c e) fun i=>rv [i,.bool true] e R)
def JI:=fun a b c (R:VK) (j:List Value) (f:za)=>
 opt (nb [a,b] (zf zz .rem 2 (.tmp 47) (.tmp 48) a b)) fun g=>zR zz (fn 46) [g] f (fun d h=>opt (nb [d] (zk zz 86 c d h)) fun e=>opt (zd zz 86 c e) fun i=>rv [i,.bool true] e R)
def X6:=fun a b c d (R:VK) f (e:za)=>
 opt (nb [a,.int .i64 14] (zf zz .eql 3 (.tmp 41) (.const (.int .i64 14)) a (.int .i64 14))) fun g=>CD g (JH b c e d R)
 (fun h=>h [nth f 0] e)
 (JI b c d R)
def jf:=fun b f c (R:VK) g h i j (d:za)=>
 GD b false (fun k=>opt (pk f j (.bool false)) fun a=>k a d) (fun a e=>opt (pk b (.bool true) a) fun l=>CD l (X5 c e R)
 (fun m=>m [.bool false] e)
 (X6 g h i c R)) d
def jg:=fun a d e (R:VK) f g h b (c:za)=>
 GD a true (fun i=>opt (nb [b,.int .i64 (-1)] (zf zz .eql 2 (.tmp 36) (.const (.int .i64 (-1))) b (.int .i64 (-1)))) fun j=>i j c) (jf d a e R f g h) c
def jh:=fun a c i (R:VK) j k d (e:za)=>
 GD a false (fun l=>opt (nb [d,.int .i64 (-9223372036854775808)] (zf zz .eql 2 (.tmp 33) (.const (.int .i64 (-9223372036854775808))) d (.int .i64 (-9223372036854775808)))) fun b=>l b e) (fun b f=>GD a false (fun m=>m b f) (fun g h=>GD g true (fun n=>n c h) (jg g a i R j k c) h) f) e
def X7:=fun a (d:za) (R:VK) (f:LK)=>
 opt (nb [] (yR zz 86 [])) fun b=>opt (nb [b] (zk zz 86 a b d)) fun c=>opt (zd zz 86 a c) fun e=>rv [e,.bool false] c R
def lI:=fun a b (f:za) c (R:VK) (j:LK)=>
 opt (nb [a,b] (zf zz .shl 2 (.tmp 81) (.tmp 82) a b)) fun g=>zR zz (fn 46) [g] f (fun d h=>opt (nb [d] (zk zz 86 c d h)) fun e=>opt (zd zz 86 c e) fun i=>rv [i,.bool true] e R)
def dR:=fun a b c (R:VK) (j:List Value) (f:za)=>
 opt (nb [a,b] (zf zz .shr 2 (.tmp 85) (.tmp 86) a b)) fun g=>zR zz (fn 46) [g] f (fun d h=>opt (nb [d] (zk zz 86 c d h)) fun e=>opt (zd zz 86 c e) fun i=>rv [i,.bool true] e R)
def Qk:=fun a b c d (R:VK) f (e:za)=>
 opt (nb [a,.int .i64 19] (zf zz .eql 3 (.tmp 79) (.const (.int .i64 19)) a (.int .i64 19))) fun g=>CD g (lI b c e d R)
 (fun h=>h [nth f 0] e)
 (dR b c d R)
def jA:=fun b c (R:VK) g h i d (e:za)=>
 GD b false (fun j=>opt (nb [d,.int .i64 63] (zf zz .gtr 2 (.tmp 75) (.const (.int .i64 63)) d (.int .i64 63))) fun a=>j a e) (fun a f=>opt (pk b (.bool true) a) fun k=>CD k (X7 c f R)
 (fun l=>l [.bool false] f)
 (Qk g h i c R)) e
def dS:=fun a b (f:za) c (R:VK) (j:LK)=>
 opt (nb [a,b] (zf zz .geq 2 (.tmp 121) (.tmp 122) a b)) fun g=>zR zz (fn 102) [g] f (fun d h=>opt (nb [d] (zk zz 86 c d h)) fun e=>opt (zd zz 86 c e) fun i=>rv [i,.bool true] e R)
def dU:=fun a b (f:za) c (R:VK) (j:LK)=>
 opt (nb [a,b] (zf zz .gtr 2 (.tmp 115) (.tmp 116) a b)) fun g=>zR zz (fn 102) [g] f (fun d h=>opt (nb [d] (zk zz 86 c d h)) fun e=>opt (zd zz 86 c e) fun i=>rv [i,.bool true] e R)
def Ql:=fun a c d (b:za) e (R:VK) (f:LK)=>
 opt (nb [a,.int .i64 26] (zf zz .eql 3 (.tmp 8) (.const (.int .i64 26)) a (.int .i64 26))) fun g=>CD g (dS c d b e R)
 (fun h=>h [.bool false] b)
 (fun i j=>f [nth i 0] j)
def dV:=fun a b (f:za) c (R:VK) (j:LK)=>
 opt (nb [a,b] (zf zz .leq 2 (.tmp 109) (.tmp 110) a b)) fun g=>zR zz (fn 102) [g] f (fun d h=>opt (nb [d] (zk zz 86 c d h)) fun e=>opt (zd zz 86 c e) fun i=>rv [i,.bool true] e R)
def WK:=fun a b c (d:za) e (R:VK) (f:LK)=>
 opt (nb [a,.int .i64 25] (zf zz .eql 3 (.tmp 8) (.const (.int .i64 25)) a (.int .i64 25))) fun g=>CD g (dU b c d e R)
 (Ql a b c d e R)
 (fun h i=>f [nth h 0] i)
def dW:=fun a b (f:za) c (R:VK) (j:LK)=>
 opt (nb [a,b] (zf zz .lss 2 (.tmp 103) (.tmp 104) a b)) fun g=>zR zz (fn 102) [g] f (fun d h=>opt (nb [d] (zk zz 86 c d h)) fun e=>opt (zd zz 86 c e) fun i=>rv [i,.bool true] e R)
def YQ:=fun a b c (d:za) e (R:VK) (f:LK)=>
 opt (nb [a,.int .i64 24] (zf zz .eql 3 (.tmp 8) (.const (.int .i64 24)) a (.int .i64 24))) fun g=>CD g (dV b c d e R)
 (WK a b c d e R)
 (fun h i=>f [nth h 0] i)
def dX:=fun a b (f:za) c (R:VK) (j:LK)=>
 opt (nb [a,b] (zf zz .neq 2 (.tmp 97) (.tmp 98) a b)) fun g=>zR zz (fn 102) [g] f (fun d h=>opt (nb [d] (zk zz 86 c d h)) fun e=>opt (zd zz 86 c e) fun i=>rv [i,.bool true] e R)
def ZK:=fun a b c (d:za) e (R:VK) (f:LK)=>
 opt (nb [a,.int .i64 23] (zf zz .eql 3 (.tmp 8) (.const (.int .i64 23)) a (.int .i64 23))) fun g=>CD g (dW b c d e R)
 (YQ a b c d e R)
 (fun h i=>f [nth h 0] i)
def dY:=fun a b (f:za) c (R:VK) (j:LK)=>
 opt (nb [a,b] (zf zz .eql 2 (.tmp 91) (.tmp 92) a b)) fun g=>zR zz (fn 102) [g] f (fun d h=>opt (nb [d] (zk zz 86 c d h)) fun e=>opt (zd zz 86 c e) fun i=>rv [i,.bool true] e R)
def jB:=fun a b c (d:za) e (R:VK) (f:LK)=>
 opt (nb [a,.int .i64 22] (zf zz .eql 3 (.tmp 8) (.const (.int .i64 22)) a (.int .i64 22))) fun g=>CD g (dX b c d e R)
 (ZK a b c d e R)
 (fun h i=>f [nth h 0] i)
def jC:=fun a (b:za) d (R:VK) e f (h:LK)=>
 opt (nb [a,.int .i64 0] (zf zz .lss 2 (.tmp 72) (ci 0) a (.int .i64 0))) fun c=>GD c false (fun g=>g a b) (jA c d R e f a) b
def kV:=fun a b c (d:za) e (R:VK) (f:LK)=>
 opt (nb [a,.int .i64 21] (zf zz .eql 3 (.tmp 8) (.const (.int .i64 21)) a (.int .i64 21))) fun g=>CD g (dY b c d e R)
 (jB a b c d e R)
 (fun h i=>f [nth h 0] i)
def dZ:=fun a b (f:za) c (R:VK) (j:LK)=>
 opt (nb [a,b] (zf zz .xor 2 (.tmp 65) (.tmp 66) a b)) fun g=>zR zz (fn 46) [g] f (fun d h=>opt (nb [d] (zk zz 86 c d h)) fun e=>opt (zd zz 86 c e) fun i=>rv [i,.bool true] e R)
def vu:=fun a (c:za) d e (R:VK) f (i:LK)=>
 opt (nb [a,.int .i64 19] (zf zz .eql 3 (.tmp 8) (.const (.int .i64 19)) a (.int .i64 19))) fun g=>CD g (fun b=>b [g] c)
 (fun b=>opt (nb [a,.int .i64 20] (zf zz .eql 3 (.tmp 8) (.const (.int .i64 20)) a (.int .i64 20))) fun j=>b [j] c)
 (fun k h=>CD (nth k 0) (jC d h e R a f)
 (kV a f d h e R)
 (fun l m=>i [nth l 0] m))
def eh:=fun a b (f:za) c (R:VK) (j:LK)=>
 opt (nb [a,b] (zf zz .or 2 (.tmp 59) (.tmp 60) a b)) fun g=>zR zz (fn 46) [g] f (fun d h=>opt (nb [d] (zk zz 86 c d h)) fun e=>opt (zd zz 86 c e) fun i=>rv [i,.bool true] e R)
def ve:=fun a b c (d:za) e (R:VK) (f:LK)=>
 opt (nb [a,.int .i64 18] (zf zz .eql 3 (.tmp 8) (.const (.int .i64 18)) a (.int .i64 18))) fun g=>CD g (dZ b c d e R)
 (vu a d c e R b)
 (fun h i=>f [nth h 0] i)
def ep:=fun a b (f:za) c (R:VK) (j:LK)=>
 opt (nb [a,b] (zf zz .and 2 (.tmp 53) (.tmp 54) a b)) fun g=>zR zz (fn 46) [g] f (fun d h=>opt (nb [d] (zk zz 86 c d h)) fun e=>opt (zd zz 86 c e) fun i=>rv [i,.bool true] e R)
def wZ:=fun a b c (d:za) e (R:VK) (f:LK)=>
 opt (nb [a,.int .i64 17] (zf zz .eql 3 (.tmp 8) (.const (.int .i64 17)) a (.int .i64 17))) fun g=>CD g (eh b c d e R)
 (ve a b c d e R)
 (fun h i=>f [nth h 0] i)
def qN:=fun a b (c:za) e (R:VK) f (h:LK)=>
 opt (nb [a,.int .i64 0] (zf zz .eql 2 (.tmp 30) (ci 0) a (.int .i64 0))) fun d=>GD d false (fun g=>g b c) (jh d a e R f b) c
def wH:=fun a b c (d:za) e (R:VK) (f:LK)=>
 opt (nb [a,.int .i64 16] (zf zz .eql 3 (.tmp 8) (.const (.int .i64 16)) a (.int .i64 16))) fun g=>CD g (ep b c d e R)
 (wZ a b c d e R)
 (fun h i=>f [nth h 0] i)
def eu:=fun a b (f:za) c (R:VK) (j:LK)=>
 opt (nb [a,b] (zf zz .mul 2 (.tmp 23) (.tmp 24) a b)) fun g=>zR zz (fn 46) [g] f (fun d h=>opt (nb [d] (zk zz 86 c d h)) fun e=>opt (zd zz 86 c e) fun i=>rv [i,.bool true] e R)
def xq:=fun a (c:za) d e f (R:VK) (i:LK)=>
 opt (nb [a,.int .i64 14] (zf zz .eql 3 (.tmp 8) (.const (.int .i64 14)) a (.int .i64 14))) fun g=>CD g (fun b=>b [g] c)
 (fun b=>opt (nb [a,.int .i64 15] (zf zz .eql 3 (.tmp 8) (.const (.int .i64 15)) a (.int .i64 15))) fun j=>b [j] c)
 (fun k h=>CD (nth k 0) (qN d e h f R a)
 (wH a e d h f R)
 (fun l m=>i [nth l 0] m))
def ew:=fun a b (f:za) c (R:VK) (j:LK)=>
 opt (nb [a,b] (zf zz .sub 2 (.tmp 17) (.tmp 18) a b)) fun g=>zR zz (fn 46) [g] f (fun d h=>opt (nb [d] (zk zz 86 c d h)) fun e=>opt (zd zz 86 c e) fun i=>rv [i,.bool true] e R)
def xl:=fun a b c (d:za) e (R:VK) (f:LK)=>
 opt (nb [a,.int .i64 13] (zf zz .eql 3 (.tmp 8) (.const (.int .i64 13)) a (.int .i64 13))) fun g=>CD g (eu b c d e R)
 (xq a d c b e R)
 (fun h i=>f [nth h 0] i)
def ey:=fun a b (f:za) c (R:VK) (j:LK)=>
 opt (nb [a,b] (zf zz .add 2 (.tmp 11) (.tmp 12) a b)) fun g=>zR zz (fn 46) [g] f (fun d h=>opt (nb [d] (zk zz 86 c d h)) fun e=>opt (zd zz 86 c e) fun i=>rv [i,.bool true] e R)
def y9:=fun a b c (d:za) e (R:VK) (f:LK)=>
 opt (nb [a,.int .i64 12] (zf zz .eql 3 (.tmp 8) (.const (.int .i64 12)) a (.int .i64 12))) fun g=>CD g (ew b c d e R)
 (xl a b c d e R)
 (fun h i=>f [nth h 0] i)
def y1:=fun a b c (d:za) e (R:VK) (f:LK)=>
 opt (nb [a,.int .i64 11] (zf zz .eql 3 (.tmp 8) (.const (.int .i64 11)) a (.int .i64 11))) fun g=>CD g (ey b c d e R)
 (y9 a b c d e R)
 (fun h i=>f [nth h 0] i)
def xr:=fun a (R:VK) (f:List Value) (d:za)=>
 opt (nb [] (yR zz 86 [])) fun b=>opt (nb [b] (zk zz 86 a b d)) fun c=>opt (zd zz 86 a c) fun e=>rv [e,.bool false] c R
def BL:=fun (h:za) b c d (R:VK)=>
 opt (xP zz 86) fun e=>nw h (Value.cells e).toList 86 fun a f=>BK (y1 b c d f a R)
 (xr a R)
theorem tJ (hw:BL h t0 t1 t2 R):DC zz 91 [t0,t1,t2] h R:=vT (by kernel_rfl) hw
def Qc:=fun e h (a:za) (i:LK) f=>
 opt (nb [e,f] (zf zz .eql 86 (.tmp 22) (.tmp 23) e f)) fun b=>GD b true (fun j=>opt (zd zz 86 h a) fun c=>j c a) (fun c g=>GD b true (fun k=>jj zz 92 [c] g (fun d l=>k d l)) (fun d m=>opt (pk b d (.bool false)) fun n=>i [n] m) g) a
def WD:=fun d e f (g:LK) h (a:za)=>
 opt (pk d h (.bool false)) fun c=>CD c (fun b=>b [c] a)
 (fun b=>opt (zd zz 86 e a) fun i=>qX zz 46 [.int .i64 0] a (Qc i f a b))
 (fun j k=>g [nth j 0] k)
def Qd:=fun b f g (h:LK) d (c:za)=>
 GD b true (fun i=>qX zz 46 [.int .i64 0] c (fun a=>i a c)) (fun a e=>GD b true (fun j=>opt (nb [d,a] (zf zz .eql 86 (.tmp 18) (.tmp 19) d a)) fun k=>j k e) (WD b f g h) e) c
def Qe:=fun b (c:za) d (f:LK)=>
 opt (zd zz 86 b c) fun g=>jj zz 92 [g] c (fun e a=>GD e true (fun h=>opt (zd zz 86 d a) fun i=>h i a) (Qd e b d f) a)
def Qf:=fun j (a:za) k b c (R:VK) (o:LK)=>
 opt (zd zz 86 j a) fun d=>opt (zd zz 86 k a) fun e=>opt (nb [d,e] (zf zz .eql 86 (.tmp 29) (.tmp 30) d e)) fun f=>opt (nb [b,.int .i64 21] (zf zz .eql 3 (.tmp 32) (.const (.int .i64 21)) b (.int .i64 21))) fun g=>opt (nb [f,g] (zf zz .eql 4 (.tmp 31) (.tmp 33) f g)) fun l=>zR zz (fn 102) [l] a (fun h m=>opt (nb [h] (zk zz 86 c h m)) fun i=>opt (zd zz 86 c i) fun n=>rv [n,.bool true] i R)
def WE:=fun f a b g h (R:VK) (i:LK) j (c:za)=>
 opt (pk f j (.bool false)) fun d=>CD d (fun k=>k [d] c)
 (Qe a c b)
 (fun l e=>CD (nth l 0) (Qf a e b g h R)
 (fun m=>m [.bool false] e)
 (fun n o=>i [nth n 0] o))
def Qg:=fun d f g h (R:VK) (i:LK) a (b:za)=>
 GD a true (fun j=>opt (zd zz 86 d b) fun c=>j c b) (fun c e=>GD a true (fun k=>zR zz (fn 92) [c] e (fun l m=>k l m)) (WE a f d g h R i) e) b
def Qh:=fun a (R:VK) (f:List Value) (d:za)=>
 opt (nb [] (yR zz 86 [])) fun b=>opt (nb [b] (zk zz 86 a b d)) fun c=>opt (zd zz 86 a c) fun e=>rv [e,.bool false] c R
def rR:=fun (h:za) f a b (R:VK)=>
 opt (nb [a] (some (Value.cells a).toList)) fun g=>nw h g 86 fun c i=>opt (nb [b] (some (Value.cells b).toList)) fun j=>nw i j 86 fun k l=>opt (xP zz 86) fun m=>nw l (Value.cells m).toList 86 fun d e=>BK (fun n=>opt (zd zz 86 c e) fun o=>zR zz (fn 92) [o] e (Qg k c f d R n))
 (Qh d R)
theorem n7 (hw:rR h t0 t1 t2 R):DC zz 93 [t0,t1,t2] h R:=vT (by kernel_rfl) hw
def e9:=fun (d:za) a (R:VK) (g:LK)=>
 zR zz (fn 46) [.int .i64 1] d (fun b e=>opt (nb [b] (zk zz 86 a b e)) fun c=>opt (zd zz 86 a c) fun f=>rv [f] c R)
def fe:=fun a (R:VK) (g:List Value) (d:za)=>
 zR zz (fn 46) [.int .i64 0] d (fun b e=>opt (nb [b] (zk zz 86 a b e)) fun c=>opt (zd zz 86 a c) fun f=>rv [f] c R)
def rW:=fun (h:za) c (R:VK)=>
 opt (xP zz 86) fun d=>nw h (Value.cells d).toList 86 fun a b=>CD c (e9 b a R)
 (fun e=>e [] b)
 (fe a R)
theorem oE (hw:rW h t0 R):DC zz 102 [t0] h R:=vT (by kernel_rfl) hw
def BM:=fun (h:za) c (R:VK)=>
 zR zz (fn 59) [c] h (fun a d=>opt (nb [a] (yR zz 122 [(0,a)])) fun b=>opt (nb [b] (some (Value.cells b).toList)) fun e=>nw d e 122 fun f g=>rv [f] g R)
theorem tR (hw:BM h t0 R):DC zz 43 [t0] h R:=vT (by kernel_rfl) hw
def dt:=fun (h:za) a (R:VK)=>
 opt (nb [a,.slice none 0 0] (zf zz .eql 30 (.tmp 3) (.const (.slice none 0 0)) a (.slice none 0 0))) fun d=>CD d (fun b=>rv [.slice none 0 0] h R)
 (fun b=>b [.slice none 0 0] h)
 (fun j e=>xA (nb [] (y8 zz 30 0 [] e)) fun c f=>xA (nb [c,a] (zo zz .append [30,30] 30 [c,a] f)) fun g i=>rv [g] i R)
theorem gh (hw:dt h t0 R):DC zz 59 [t0] h R:=vT (by kernel_rfl) hw
noncomputable def Wh:Array Field:=match Program.underlying Tryd.prog 86 with | some (.struct f)=>f | _ => #[]
theorem xz (b off:Nat) (h:za):zd Tryd.prog 2 (.pointer (some ⟨b,off,none⟩)) h=zL h b off:=yD (by kernel_rfl) b off h
theorem zu (b off:Nat) (h:za):zd Tryd.prog 3 (.pointer (some ⟨b,off,none⟩)) h=zL h b off:=yD (by kernel_rfl) b off h
theorem Fc (b off:Nat) (h:za):zd Tryd.prog 30 (.pointer (some ⟨b,off,none⟩)) h=zL h b off:=yD (by kernel_rfl) b off h
theorem zn (b off:Nat) (h:za):zd Tryd.prog 86 (.pointer (some ⟨b,off,none⟩)) h=yb h b off 3:=v7 (by kernel_rfl) (by kernel_rfl) b off h
theorem HH (r:TypeId) (v x:Value) (n:Nat) (new:List Value) (h:za) (h1:ZQ x=some n) (h2:wW h n 1 x=some new) (h3:new.all xE=true) (h4:new.length=n * 1):zo Tryd.prog .append [30,30] r [v,x] h=Xv h 2 1 8 n new v:=jK (e:=2) (e2:=2) (by kernel_rfl) (by kernel_rfl) (by kernel_rfl) (by kernel_rfl) (by decide) h1 h2 h3 h4
theorem ZV (b off:Nat) (v:Int) (h:za):zk Tryd.prog 3 (.pointer (some ⟨b,off,none⟩)) (.int .i64 v) h=xU h b off [(.int .i64 v)]:=wV (by kernel_rfl) b off _ h rfl
theorem zF (b off:Nat) (l:List Value) (h:za) (hv:l.length=3):zk Tryd.prog 86 (.pointer (some ⟨b,off,none⟩)) (.agg l.toArray) h=xU h b off l:=qb (by kernel_rfl) b off l h hv
theorem wi:xP Tryd.prog 86=some (.agg #[(.int .i64 0),(.int .i64 0),(.int .i64 0)]):=zI (by kernel_rfl)
theorem Cn (v0:Option Addr) (v0l v0c:Nat):yR Tryd.prog 122 [(0,(.slice v0 v0l v0c))]=some (.agg #[(.slice v0 v0l v0c),(.int .i64 0)]):=zI (by kernel_rfl)
theorem yA:yR Tryd.prog 86 []=some (.agg #[(.int .i64 0),(.int .i64 0),(.int .i64 0)]):=zI (by kernel_rfl)
theorem ml (v0:Int) (v1:Int) (v2:Int):yR Tryd.prog 86 [(0,(.int .i64 v0)),(1,(.int .i64 v1)),(2,(.int .i64 v2))]=some (.agg #[(.int .i64 v0),(.int .i64 v1),(.int .i64 v2)]):=zI (by kernel_rfl)
theorem Cs (h:za):y8 Tryd.prog 30 0 [] h=some (.slice (some ⟨h.next,0,none⟩) 0 2,h.push (.cells [] 2)):=zI (by kernel_rfl)
theorem jl (n:Int) (h:za):vn Tryd.prog 173 2 (.int .i8 n) h=some (.int .i64 (IntKind.wrap .i64 n),h):=zI (by kernel_rfl)
theorem ki (n:Int) (h:za):vn Tryd.prog 21 2 (.int .i32 n) h=some (.int .i64 (IntKind.wrap .i64 n),h):=zI (by kernel_rfl)
theorem Cx (n:Int) (h:za):vn Tryd.prog 2 173 (.int .i64 n) h=some (.int .i8 (IntKind.wrap .i8 n),h):=zI (by kernel_rfl)
theorem KU (n:Int) (h:za):vn Tryd.prog 2 21 (.int .i64 n) h=some (.int .i32 (IntKind.wrap .i32 n),h):=zI (by kernel_rfl)
theorem Ea (x y:Operand):zf Tryd.prog .eql 30 x y (.slice none 0 0) (.slice none 0 0)=some (.bool true):=zI (by kernel_rfl)
theorem Gu (x y:Operand) (a:Addr) (n c:Nat):zf Tryd.prog .eql 30 x y (.slice (some a) n c) (.slice none 0 0)=some (.bool false):=G1 (e:=2) (by kernel_rfl) a n c
theorem HX (x y:Operand) (a b:Bool):zf Tryd.prog .eql 4 x y (.bool a) (.bool b)=some (.bool (a == b)):=zI (by kernel_rfl)
theorem YF (x y:Operand) (a0:Int) (a1:Int) (a2:Int) (b0:Int) (b1:Int) (b2:Int):zf Tryd.prog .eql 86 x y (.agg #[(.int .i64 a0),(.int .i64 a1),(.int .i64 a2)]) (.agg #[(.int .i64 b0),(.int .i64 b1),(.int .i64 b2)])=some (.bool ((a0 == b0) && ((a1 == b1) && ((a2 == b2))))):=(ji (fs:=Wh) (r:=(a0 == b0) && ((a1 == b1) && ((a2 == b2)))) (by kernel_rfl) (by kernel_rfl) (by kernel_rfl) rfl rfl (Eq.trans (b:=(cond (a0 == b0) (cond (a1 == b1) (cond (a2 == b2) (some true) (some false)) (some false)) (some false))) (by kernel_rfl) (by cases (a0 == b0) <;> cases (a1 == b1) <;> cases (a2 == b2) <;> rfl))).1
theorem mK (b off:Nat):zb Tryd.prog 122 (.pointer (some ⟨b,off,none⟩)) 0=some (.pointer (some ⟨b,off,none⟩)):=zI (by kernel_rfl)
theorem aD (b off:Nat):zb Tryd.prog 122 (.pointer (some ⟨b,off,none⟩)) 1=some (.pointer (some ⟨b,off + 1,none⟩)):=zI (by kernel_rfl)
theorem xk (b off:Nat):zb Tryd.prog 86 (.pointer (some ⟨b,off,none⟩)) 0=some (.pointer (some ⟨b,off,none⟩)):=zI (by kernel_rfl)
theorem xi (b off:Nat):zb Tryd.prog 86 (.pointer (some ⟨b,off,none⟩)) 1=some (.pointer (some ⟨b,off + 1,none⟩)):=zI (by kernel_rfl)
theorem wO (b off:Nat):zb Tryd.prog 86 (.pointer (some ⟨b,off,none⟩)) 2=some (.pointer (some ⟨b,off + 2,none⟩)):=zI (by kernel_rfl)
theorem CT (b off len c:Nat) (k:IntKind) (i:Int):zA Tryd.prog 30 (.slice (some ⟨b,off,none⟩) len c) (.int k i)=if 0<=i/\i < len then some (.pointer (some ⟨b,off + i.toNat * 1,none⟩)) else none:=xN (e:=2) (by kernel_rfl) (by kernel_rfl)
theorem bB (r:TypeId) (a:Option Addr) (n c:Nat) (h:za):zo Tryd.prog .len [30] r [.slice a n c] h=some (.int .i64 n,h):=zI (by kernel_rfl)
end Go.Rm
namespace Go.Rtl
open Go.Ai Go.Proofs
def w7 (b:Bool) (v:Value) (_:za):Prop:=v = .bool b
theorem xG {f:FuncId} {args:List Value} {h:za} {b:Bool} (d:DC Tryd.prog f args h.lock (w7 b)):wS Tryd.prog f args h (.bool b):=wS.of rfl d
structure Old (h h':za):Prop where
 next:h.next<=h'.next
 ro:h'.ro=h.ro
 get:∀ b,b < h.next->h'.get b=h.get b
theorem Old.refl (h:za):Old h h:=⟨MI _,rfl,fun _ _=>rfl⟩
theorem Old.trans {a b c:za} (x:Old a b) (y:Old b c):Old a c:=⟨Nm x.next y.next,y.ro.trans x.ro,fun i hi=>(y.get i (ML hi x.next)).trans (x.get i hi)⟩
theorem Old.push (h:za) (o:xS):Old h (h.push o):=⟨N7 _,rfl,fun b hb=>zO hb⟩
theorem Old.set {h h':za} (x:Old h h') {b:Nat} (hb:h.next<=b) (o:Option xS):Old h (h'.set b o):=⟨x.next,x.ro,fun c hc=>(zN (by omega)).trans (x.get c hc)⟩
def zG (h:za) (sv:Value) (zs:List Int):Prop:=(sv = .slice none 0 0/\zs = []) \/ ∃ b off cp,sv = .slice (some ⟨b,off,none⟩) zs.length cp/\(zs ≠ []->∃ c t,b < h.next/\h.get b=some (.cells c t) /\ ∀ (i:Nat) z,zs[i]? = some z->c[off + i]? = some (.int .i64 z))
section
variable {h h':za} {sv:Value} {zs:List Int}
theorem zG.Ye (S:zG h sv zs):yc sv=false:=by
 rcases S with ⟨rfl,_⟩ | ⟨b,off,cp,rfl,_⟩ <;> rfl
theorem zG.nO (S:zG h sv zs):xE sv=true:=by
 rcases S with ⟨rfl,_⟩ | ⟨b,off,cp,rfl,_⟩ <;> rfl
theorem zG.old (S:zG h sv zs) (e:Old h h'):zG h' sv zs:=by
 rcases S with a | ⟨b,off,cp,rfl,hc⟩
 ·exact .inl a
 ·refine .inr ⟨b,off,cp,rfl,fun hz => ?_⟩
  obtain ⟨c,t,hb,hg,hat⟩:=hc hz
  exact ⟨c,t,ML hb e.next,by rw [e.get b hb];exact hg,hat⟩
theorem zG.lock (S:zG h sv zs):zG h.lock sv zs:=by
 rcases S with a | ⟨b,off,cp,rfl,hc⟩
 ·exact .inl a
 ·refine .inr ⟨b,off,cp,rfl,fun hz => ?_⟩
  obtain ⟨c,t,hb,hg,hat⟩:=hc hz
  exact ⟨c,t,hb,by rw [UJ];exact hg,hat⟩
end
theorem inc {i:Nat} (h:i < 4611686018427387904):IntKind.wrap .i64 ((i:Int) + 1)=((i + 1:Nat):Int):=by
 simp only [IntKind.wrap,IntKind.bits,IntKind.signed];simp;omega
def zX (h:za) (sv:Value) (n:Nat) (rows:List (List Value)):Prop:=(sv = .slice none 0 0/\rows = []) \/ ∃ b off cp,sv = .slice (some ⟨b,off,none⟩) rows.length cp /\
 (rows ≠ []->∃ c t,b < h.next/\h.get b=some (.cells c t) /\ ∀ (i:Nat) r,rows[i]? = some r->off + i * n + n<=c.length/\(c.drop (off + i * n)).take n=r)
section
variable {h h':za} {sv:Value} {n:Nat} {rows:List (List Value)}
theorem zX.Ye (S:zX h sv n rows):yc sv=false:=by
 rcases S with ⟨rfl,_⟩ | ⟨b,off,cp,rfl,_⟩ <;> rfl
theorem zX.nO (S:zX h sv n rows):xE sv=true:=by
 rcases S with ⟨rfl,_⟩ | ⟨b,off,cp,rfl,_⟩ <;> rfl
theorem zX.old (S:zX h sv n rows) (e:Old h h'):zX h' sv n rows:=by
 rcases S with a | ⟨b,off,cp,rfl,hc⟩
 ·exact .inl a
 ·refine .inr ⟨b,off,cp,rfl,fun hz => ?_⟩
  obtain ⟨c,t,hb,hg,hat⟩:=hc hz
  exact ⟨c,t,ML hb e.next,by rw [e.get b hb];exact hg,hat⟩
theorem zX.lock (S:zX h sv n rows):zX h.lock sv n rows:=by
 rcases S with a | ⟨b,off,cp,rfl,hc⟩
 ·exact .inl a
 ·refine .inr ⟨b,off,cp,rfl,fun hz => ?_⟩
  obtain ⟨c,t,hb,hg,hat⟩:=hc hz
  exact ⟨c,t,hb,by rw [UJ];exact hg,hat⟩
theorem zX.spot (S:zX h sv n rows) {i:Nat} {r:List Value} (hr:rows[i]? = some r) (hn:r.length=n):∃ b o c t,(∃ off cp,sv = .slice (some ⟨b,off,none⟩) rows.length cp/\o=off + i * n)/\i < rows.length/\b < h.next/\h.get b=some (.cells c t)/\o + n<=c.length/\(c.drop o).take n=r /\ ∀ k,k < n->c[o + k]? = r[k]?:=by
 rcases S with ⟨rfl,rfl⟩ | ⟨b,off,cp,rfl,hc⟩
 ·cases hr
 ·have hlt:i < rows.length:=by
   rcases MX i rows.length with a | a
   ·exact a
   ·rw [MO a] at hr;cases hr
  obtain ⟨c,t,hb,hg,hat⟩:=hc (by intro e;subst e;cases hr)
  obtain ⟨h1,h2⟩:=hat i r hr
  refine ⟨b,off + i * n,c,t,⟨off,cp,rfl,rfl⟩,hlt,hb,hg,h1,h2,fun k hk => ?_⟩
  ·rw [<- h2,Nv hk,Nn]
end
theorem Bg {step:List Value->za->(List Value->za->Prop)->Prop} (Q:za->Prop) {v:Value} (n:Nat) (G:Nat->Bool) {h:za} (h0:Q h)
  (hs:∀ i h J,i<=n->Q h->(∀ k,k < i->G k=true)->(∀ h',i < n->G i=true->Q h'->J [v,.int .i64 ((i + 1:Nat):Int)] h')->step [v,.int .i64 (i:Nat)] h J):LP step [v,.int .i64 0] h:=by
 refine kD (fun m vs h => ∃ i,i<=n/\m=n - i/\vs = [v,.int .i64 (i:Nat)]/\Q h /\ ∀ k,k < i->G k=true) n ⟨0,NG _,rfl,rfl,h0,fun k hk=>absurd hk (Nat.not_lt_zero _)⟩ ?_
 rintro m vs h ⟨i,hi,rfl,rfl,e,g⟩
 refine hs i h _ hi e g fun h' hlt hg e'=>⟨n - (i + 1),by omega,i + 1,hlt,rfl,rfl,e',fun k hk => ?_⟩
 rcases MX k i with q | q
 ·exact g k q
 ·have:k=i:=by omega
  subst this;exact hg
def Cg {α:Type} (l:List α) (B:α->Bool) (k:Nat):Bool:=match l[k]? with
 | some x=>B x
 | none=>true
theorem YW {α:Type} {l:List α} {B:α->Bool} (h:∀ k,k < l.length->Cg l B k=true):l.all B=true:=by
 rw [Ni]
 intro x hx
 obtain ⟨k,hk,rfl⟩:=List.getElem_of_mem hx
 have:=h k hk
 simpa only [Cg,MF hk] using this
theorem UR {α:Type} {l:List α} {B:α->Bool} {k:Nat} {x:α} (hx:l[k]? = some x) (hb:B x=false):l.all B=false:=by
 rw [List.all_eq_false]
 exact ⟨x,Np hx,by simp [hb]⟩
theorem JZ {α:Type} {l:List α} {B:α->Bool} {k:Nat} {x:α} (hx:l[k]? = some x):Cg l B k=B x:=by simp only [Cg,hx]
theorem get_some {α:Type} {l:List α} {k:Nat} (h:k < l.length):∃ x,l[k]? = some x/\x ∈ l:=⟨l[k],MF h,List.getElem_mem h⟩
structure Sub (h h':za):Prop where
 next:h.next<=h'.next
 get:∀ b o,b < h.next->h.get b=some o->h'.get b=some o
theorem Sub.refl (h:za):Sub h h:=⟨MI _,fun _ _ _ e=>e⟩
theorem Sub.trans {a b c:za} (x:Sub a b) (y:Sub b c):Sub a c:=⟨Nm x.next y.next,fun i o hi e=>y.get i o (ML hi x.next) (x.get i o hi e)⟩
theorem Old.sub {h h':za} (e:Old h h'):Sub h h':=⟨e.next,fun b o hb g=>by rw [e.get b hb];exact g⟩
section
variable {h h':za}
theorem zG.sub {sv:Value} {zs:List Int} (S:zG h sv zs) (e:Sub h h'):zG h' sv zs:=by
 rcases S with a | ⟨b,off,cp,rfl,hc⟩
 ·exact .inl a
 ·refine .inr ⟨b,off,cp,rfl,fun hz => ?_⟩
  obtain ⟨c,t,hb,hg,hat⟩:=hc hz
  exact ⟨c,t,ML hb e.next,e.get b _ hb hg,hat⟩
theorem zX.sub {sv:Value} {n:Nat} {rows:List (List Value)} (S:zX h sv n rows) (e:Sub h h'):zX h' sv n rows:=by
 rcases S with a | ⟨b,off,cp,rfl,hc⟩
 ·exact .inl a
 ·refine .inr ⟨b,off,cp,rfl,fun hz => ?_⟩
  obtain ⟨c,t,hb,hg,hat⟩:=hc hz
  exact ⟨c,t,ML hb e.next,e.get b _ hb hg,hat⟩
theorem zX.DW {sv:Value} {n:Nat} {rows:List (List Value)} (S:zX h sv n rows):ZQ sv=some rows.length:=by
 rcases S with ⟨rfl,rfl⟩ | ⟨b,off,cp,rfl,hc⟩ <;> rfl
theorem EZ {c:List Value} {off:Nat} {l:List Value} (h:∀ (i:Nat) v,l[i]? = some v->c[off + i]? = some v):(l = []\/off + l.length<=c.length)/\(c.drop off).take l.length=l:=by
 have hle:l = []\/off + l.length<=c.length:=by
  cases hl:l.length with
  | zero=>exact .inl (Oh.1 hl)
  | succ n=>
    have:=h n l[n] (MF (by omega))
    rcases MX (off + n) c.length with q | q
    ·exact .inr (by omega)
    ·rw [MO q] at this;cases this
 refine ⟨hle,N1 fun i => ?_⟩
 rw [List.getElem?_take,Nn]
 by_cases hi:i < l.length
 ·rw [MK hi,MF hi];exact h i _ (MF hi)
 ·rw [MJ hi,MO (by omega)]
theorem WX {n:Nat}:∀ {rows:List (List Value)},(∀ r,r ∈ rows->r.length=n)->∀ {i:Nat} {r:List Value} {k:Nat},rows[i]? = some r->k < n->rows.flatten[i * n + k]? = r[k]?
 | [],_,i,r,k,hr,_=>by cases hr
 | r0 :: rows,hn,0,r,k,hr,hk=>by
   simp only [MD,My] at hr
   subst hr
   rw [List.flatten_cons,NC (by rw [hn _ (by simp)];omega)]
   simp
 | r0 :: rows,hn,i + 1,r,k,hr,hk=>by
   have h0:=hn r0 (by simp)
   rw [List.flatten_cons,NM (by rw [h0,OK];omega),h0,show (i + 1) * n + k - n=i * n + k by rw [OK];omega]
   exact WX (fun r hr=>hn r (by simp [hr])) (by simpa using hr) hk
theorem xC {n:Nat}:∀ {rows:List (List Value)},(∀ r,r ∈ rows->r.length=n)->rows.flatten.length=rows.length * n
 | [],_=>by simp
 | r0 :: rows,hn=>by
   rw [List.flatten_cons,OF,xC (fun r hr=>hn r (by simp [hr])),hn r0 (by simp),MY,OK];omega
theorem wM {n:Nat} {rows:List (List Value)} (hn:∀ r,r ∈ rows->r.length=n) {i:Nat} {r:List Value} (hr:rows[i]? = some r):i * n + n<=rows.flatten.length/\(rows.flatten.drop (i * n)).take n=r:=by
 have hi:i < rows.length:=by
  rcases MX i rows.length with a | a
  ·exact a
  ·rw [MO a] at hr;cases hr
 have hl:r.length=n:=hn r (Np hr)
 constructor
 ·rw [xC hn]
  have:=N3 n (Nat.succ_le_of_lt hi)
  rw [Nat.succ_mul] at this
  exact this
 ·refine N1 fun k => ?_
  rw [List.getElem?_take,Nn]
  by_cases hk:k < n
  ·rw [MK hk];exact WX hn hr hk
  ·rw [MJ hk,MO (by omega)]
theorem zX.first {sv:Value} {n:Nat} {rows:List (List Value)} (S:zX h sv n rows) (h0:0 < n) (hn:∀ r,r ∈ rows->r.length=n):wW h rows.length n sv=some rows.flatten:=by
 rcases S with ⟨rfl,rfl⟩ | ⟨b,off,cp,rfl,hc⟩
 ·rfl
 ·cases rows with
  | nil=>unfold wW;simp only [M0,OM];rfl
  | cons r0 rows=>
    obtain ⟨c,t,hb,hg,hat⟩:=hc (by simp)
    obtain ⟨h1,h2⟩:=EZ (c:=c) (off:=off) (l:=(r0 :: rows).flatten) (fun j v hv=>by
     have hj:j < (r0 :: rows).length * n:=by
      rcases MX j ((r0 :: rows).flatten.length) with a | a
      ·rw [xC hn] at a;exact a
      ·rw [MO a] at hv;cases hv
     have hi:j / n < (r0 :: rows).length:=(Nat.div_lt_iff_lt_mul h0).2 hj
     have hk:j % n < n:=Nat.mod_lt _ h0
     have hr:(r0 :: rows)[j / n]? = some (r0 :: rows)[j / n]:=MF hi
     have e:j=j / n * n + j % n:=by rw [Nat.mul_comm];exact (Nat.div_add_mod j n).symm
     rw [e,WX hn hr hk] at hv
     obtain ⟨_,h4⟩:=hat _ _ hr
     rw [<- h4,List.getElem?_take,MK hk,Nn] at hv
     rw [e,<- Oy];exact hv)
    have hl:=xC hn
    rw [hl] at h1 h2
    have hne:(r0 :: rows).length * n ≠ 0:=by rw [MY];exact Nat.mul_ne_zero (by omega) (by omega)
    have h3:off + (r0 :: rows).length * n<=c.length:=by
     rcases h1 with e | e
     ·rw [e] at hl;exact absurd hl.symm hne
     ·exact e
    unfold wW
    simp only [hg]
    rw [show Nat.beq ((r0 :: rows).length * n) 0=false by rw [<- OA,OH];exact hne,M7,Nat.ble_eq_true_of_le h3,MV,h2]
end
end Go.Rtl
namespace Go.Rm
open Go.Ai Go.Proofs Go.Mem
def isInt (a:V):Bool:=decide (a.k=1) && Wm a
def wR (a:V):Bool:=decide (a.k=2) && Wm a
def vJ (n:Int):V:=⟨1,n,0⟩
def Zp (b:Bool):V:=if b=true then vJ 1 else vJ 0
abbrev kC (n:Int):Int:=IntKind.wrap .i64 n
def Zs (f:BitVec 64->BitVec 64->BitVec 64) (a b:Int):Int:=kC (f (BitVec.ofInt 64 a) (BitVec.ofInt 64 b)).toNat
def qv (op a b:Int):Option V :=
 if op=11 then some (vJ (kC (a + b))) else if op=12 then some (vJ (kC (a - b))) else if op=13 then some (vJ (kC (a * b)))
 else if op=14\/op=15 then (if b=0\/(a = -9223372036854775808/\b = -1) then none else if op=14 then some (vJ (kC (a.tdiv b))) else some (vJ (a.tmod b)))
 else if op=16 then some (vJ (Zs (· &&& ·) a b)) else if op=17 then some (vJ (Zs (· ||| ·) a b)) else if op=18 then some (vJ (Zs (· ^^^ ·) a b))
 else if op=19\/op=20 then (if b < 0\/63 < b then none else if op=19 then some (vJ (kC (a * 2 ^ b.toNat))) else some (vJ (a.fdiv (2 ^ b.toNat))))
 else if op=21 then some (Zp (decide (a=b))) else if op=22 then some (Zp (!decide (a=b))) else if op=23 then some (Zp (decide (a < b)))
 else if op=24 then some (Zp (decide (a<=b))) else if op=25 then some (Zp (decide (b < a))) else if op=26 then some (Zp (decide (b<=a))) else none
def vD (op:Int) (a b:V):Option V :=
 if (wR a && wR b) || ((wR a && decide (b=vJ 0)) || (decide (a=vJ 0) && wR b)) then some (Zp (decide (a=b) == decide (op=21))) else none
def yf (op:Int) (a b:V):Option V :=
 if isInt a && isInt b then qv op a.n b.n
 else if decide (op=11) && (wR a && isInt b) then some (fw a.b (kC (a.n + b.n)))
 else if decide (op=11) && (isInt a && wR b) then some (fw b.b (kC (a.n + b.n)))
 else if decide (op=12) && (wR a && isInt b) then some (fw a.b (kC (a.n - b.n)))
 else if op=21\/op=22 then vD op a b else none
def notM (a:Int):Int:=kC (BitVec.ofInt 64 (-1) ^^^ BitVec.ofInt 64 a).toNat
def KJ (op:Int) (a:V):Option V :=
 if isInt a=true then (if op=1 then some (vJ (kC (0 - a.n))) else if op=2 then some (vJ (notM a.n)) else if op=3 then some (vJ (kC (IntKind.wrap .i8 a.n))) else if op=4 then some (vJ (kC (IntKind.wrap .i32 a.n))) else none) else none
def pA (l:List V) (r:Int):V:=if r < 0 then v0 else l.getD r.toNat v0
def kd (world:List Int) (used:Int):Int:=if used < 0 then 0 else world.getD used.toNat 0
def wB:List Int->MM->List Int->MM × List Int
 | [],M,l=>(M,l)
 | n :: ns,M,l=>wB ns ((Xb (xJ M n).1 (xJ M n).2.1).getD (xJ M n).1) (l ++ [(xJ M n).2.1])
abbrev vv (a:V):Value := .agg #[.int .i64 a.k,.int .i64 a.n,.int .i64 a.b]
def jZ (u:Value) (v:Value) (_:za):Prop:=v=u
theorem jr {f:FuncId} {args:List Value} {h:za} {u:Value} (hs:Q1 u=true) (d:DC Tryd.prog f args h.lock (jZ u)):wS Tryd.prog f args h u:=wS.of hs d
def vj (o:Option V):Value := .tuple #[vv (o.getD v0),.bool o.isSome]
theorem qS (n:Int) (h:za):wS Tryd.prog 46 [.int .i64 n] h (vv (vJ n)):=jr rfl ((Go.Mem.qS n h.lock).mono fun v h1 e=>e.1)
theorem VH (a:V) (h:za):wS Tryd.prog 100 [vv a] h (.bool (Wm a)):=Go.Mem.VH a h
theorem Ch (b n:Int) (h:za):wS Tryd.prog 65 [.int .i64 b,.int .i64 n] h (vv (fw b n)):=by
 apply jr rfl
 apply BO
 unfold Fb fw
 by_cases h1:b < 1
 ·simp -implicitDefEqProofs only [EE,↓nw,Value.cells,ze,MA,Nat.reduceAdd,xU,yb,zn,zF,wi,yA,h1];rfl
 ·simp -implicitDefEqProofs only [EE,↓nw,Value.cells,ze,MA,MS,Nat.reduceAdd,xU,yb,zn,zF,wi,ml,rX,h1];rfl
theorem xQ (a:V) (h:za):wS Tryd.prog 90 [vv a] h (.bool (isInt a)):=by
 apply jr rfl
 apply ot
 unfold rU isInt
 by_cases h1:a.k=1
 ·simp -implicitDefEqProofs only [EE,↓nw,Value.cells,MA,Nat.reduceAdd,yb,zL,zu,zn,xk,Qm,h1]
  refine zj (by kernel_rfl) rfl (VH ⟨1,a.n,a.b⟩ _) ?_
  simp -implicitDefEqProofs only [EE]
  have:a=⟨1,a.n,a.b⟩:=by rw [<- h1]
  rw [<- this];simp [jZ,h1]
 ·simp -implicitDefEqProofs only [EE,↓nw,Value.cells,zL,zu,xk,Qm,h1];simp [jZ]
theorem wP (a:V) (h:za):wS Tryd.prog 92 [vv a] h (.bool (wR a)):=by
 apply jr rfl
 apply ou
 unfold rV wR
 by_cases h1:a.k=2
 ·simp -implicitDefEqProofs only [EE,↓nw,Value.cells,MA,Nat.reduceAdd,yb,zL,zu,zn,xk,Qn,h1]
  refine zj (by kernel_rfl) rfl (VH ⟨2,a.n,a.b⟩ _) ?_
  simp -implicitDefEqProofs only [EE]
  have:a=⟨2,a.n,a.b⟩:=by rw [<- h1]
  rw [<- this];simp [jZ,h1]
 ·simp -implicitDefEqProofs only [EE,↓nw,Value.cells,zL,zu,xk,Qn,h1];simp [jZ]
theorem XR (b:Bool) (h:za):wS Tryd.prog 102 [.bool b] h (vv (Zp b)):=by
 apply jr rfl
 apply oE
 unfold rW Zp
 cases b with
 | true=>
   simp -implicitDefEqProofs only [EE,↓nw,Value.cells,wi,e9]
   refine zj (by kernel_rfl) rfl (qS 1 _) ?_
   simp -implicitDefEqProofs only [EE,ze,MA,Nat.reduceAdd,xU,yb,zn,zF];rfl
 | false=>
   simp -implicitDefEqProofs only [EE,↓nw,Value.cells,wi,fe]
   refine zj (by kernel_rfl) rfl (qS 0 _) ?_
   simp -implicitDefEqProofs only [EE,ze,MA,Nat.reduceAdd,xU,yb,zn,zF];rfl
theorem aW (op a b:Int) (h:za):wS Tryd.prog 91 [.int .i64 op,.int .i64 a,.int .i64 b] h (vj (qv op a b)):=by
 apply jr rfl
 apply tJ
 unfold BL
 by_cases o11:op=11
 ·subst o11
  simp -implicitDefEqProofs only [EE,↓nw,Value.cells,↓BK,wi,ey,y1]
  refine zj (by kernel_rfl) rfl (qS (kC (a + b)) _) ?_
  simp -implicitDefEqProofs only [EE,ze,MA,Nat.reduceAdd,xU,yb,zn,zF];rfl
 by_cases o12:op=12
 ·subst o12
  simp -implicitDefEqProofs only [EE,↓nw,Value.cells,↓BK,Int.reduceEq,wi,ew,y9,y1]
  refine zj (by kernel_rfl) rfl (qS (kC (a - b)) _) ?_
  simp -implicitDefEqProofs only [EE,ze,MA,Nat.reduceAdd,xU,yb,zn,zF];rfl
 by_cases o13:op=13
 ·subst o13
  simp -implicitDefEqProofs only [EE,↓nw,Value.cells,↓BK,Int.reduceEq,wi,eu,xl,y9,y1]
  refine zj (by kernel_rfl) rfl (qS (kC (a * b)) _) ?_
  simp -implicitDefEqProofs only [EE,ze,MA,Nat.reduceAdd,xU,yb,zn,zF];rfl
 by_cases o14:op=14
 ·subst o14
  by_cases b0:b=0
  ·simp -implicitDefEqProofs only [EE,nth,↓nw,Value.cells,↓BK,ze,MA,Nat.reduceAdd,Int.reduceEq,xU,yb,zn,zF,wi,yA,X5,jf,jg,jh,qN,xq,xl,y9,y1,xr,b0];simp [jZ,vj,qv,v0]
  by_cases am:a = -9223372036854775808
  ·by_cases b1:b = -1
   ·simp -implicitDefEqProofs only [EE,nth,↓nw,Value.cells,↓BK,ze,MA,Nat.reduceAdd,Int.reduceEq,Int.reduceNeg,xU,yb,zn,zF,wi,yA,X5,jf,jg,jh,qN,xq,xl,y9,y1,xr,am,b1];simp [jZ,vj,qv,v0]
   ·simp -implicitDefEqProofs only [EE,nth,↓nw,Value.cells,↓BK,ze,Nat.reduceAdd,Int.reduceEq,Int.reduceNeg,xU,zF,wi,yA,JH,X6,jf,jg,jh,qN,xq,xl,y9,y1,xr,b0,am,b1]
    refine zj (by kernel_rfl) rfl (qS (kC (Int.tdiv (-9223372036854775808) b)) _) ?_
    simp -implicitDefEqProofs only [EE,ze,MA,Nat.reduceAdd,Int.reduceNeg,xU,yb,zn,zF]
    simp [jZ,vj,qv,b0,b1]
  ·simp -implicitDefEqProofs only [EE,nth,↓nw,Value.cells,↓BK,ze,Nat.reduceAdd,Int.reduceEq,Int.reduceNeg,xU,zF,wi,yA,JH,X6,jf,jg,jh,qN,xq,xl,y9,y1,xr,b0,am]
   refine zj (by kernel_rfl) rfl (qS (kC (a.tdiv b)) _) ?_
   simp -implicitDefEqProofs only [EE,ze,MA,Nat.reduceAdd,xU,yb,zn,zF]
   simp [jZ,vj,qv,b0,am]
 by_cases o15:op=15
 ·subst o15
  by_cases b0:b=0
  ·simp -implicitDefEqProofs only [EE,nth,↓nw,Value.cells,↓BK,ze,MA,Nat.reduceAdd,Int.reduceEq,xU,yb,zn,zF,wi,yA,X5,jf,jg,jh,qN,xq,xl,y9,y1,xr,b0];simp [jZ,vj,qv,v0]
  by_cases am:a = -9223372036854775808
  ·by_cases b1:b = -1
   ·simp -implicitDefEqProofs only [EE,nth,↓nw,Value.cells,↓BK,ze,MA,Nat.reduceAdd,Int.reduceEq,Int.reduceNeg,xU,yb,zn,zF,wi,yA,X5,jf,jg,jh,qN,xq,xl,y9,y1,xr,am,b1];simp [jZ,vj,qv,v0]
   ·simp -implicitDefEqProofs only [EE,nth,↓nw,Value.cells,↓BK,ze,Nat.reduceAdd,Int.reduceEq,Int.reduceNeg,xU,zF,wi,yA,JI,X6,jf,jg,jh,qN,xq,xl,y9,y1,xr,b0,am,b1]
    refine zj (by kernel_rfl) rfl (qS ((Int.tmod (-9223372036854775808) b)) _) ?_
    simp -implicitDefEqProofs only [EE,ze,MA,Nat.reduceAdd,Int.reduceNeg,xU,yb,zn,zF]
    simp [jZ,vj,qv,b0,b1]
  ·simp -implicitDefEqProofs only [EE,nth,↓nw,Value.cells,↓BK,ze,Nat.reduceAdd,Int.reduceEq,Int.reduceNeg,xU,zF,wi,yA,JI,X6,jf,jg,jh,qN,xq,xl,y9,y1,xr,b0,am]
   refine zj (by kernel_rfl) rfl (qS ((a.tmod b)) _) ?_
   simp -implicitDefEqProofs only [EE,ze,MA,Nat.reduceAdd,xU,yb,zn,zF]
   simp [jZ,vj,qv,b0,am]
 by_cases o16:op=16
 ·subst o16
  simp -implicitDefEqProofs only [EE,nth,↓nw,Value.cells,↓BK,ze,Nat.reduceAdd,Int.reduceEq,xU,zF,wi,yA,ep,wH,xq,xl,y9,y1,xr]
  refine zj (by kernel_rfl) rfl (qS (Zs (· &&& ·) a b) _) ?_
  simp -implicitDefEqProofs only [EE,ze,MA,Nat.reduceAdd,xU,yb,zn,zF];rfl
 by_cases o17:op=17
 ·subst o17
  simp -implicitDefEqProofs only [EE,nth,↓nw,Value.cells,↓BK,ze,Nat.reduceAdd,Int.reduceEq,xU,zF,wi,yA,eh,wZ,wH,xq,xl,y9,y1,xr]
  refine zj (by kernel_rfl) rfl (qS (Zs (· ||| ·) a b) _) ?_
  simp -implicitDefEqProofs only [EE,ze,MA,Nat.reduceAdd,xU,yb,zn,zF];rfl
 by_cases o18:op=18
 ·subst o18
  simp -implicitDefEqProofs only [EE,nth,↓nw,Value.cells,↓BK,ze,Nat.reduceAdd,Int.reduceEq,xU,zF,wi,yA,dZ,ve,wZ,wH,xq,xl,y9,y1,xr]
  refine zj (by kernel_rfl) rfl (qS (Zs (· ^^^ ·) a b) _) ?_
  simp -implicitDefEqProofs only [EE,ze,MA,Nat.reduceAdd,xU,yb,zn,zF];rfl
 by_cases o19:op=19
 ·subst o19
  by_cases b0:b < 0
  ·simp -implicitDefEqProofs only [EE,nth,↓nw,Value.cells,↓BK,ze,MA,Nat.reduceAdd,Int.reduceEq,xU,yb,zn,zF,wi,yA,X7,jA,jC,vu,ve,wZ,wH,xq,xl,y9,y1,xr,b0];simp [jZ,vj,qv,v0,b0]
  by_cases b1:63 < b
  ·simp -implicitDefEqProofs only [EE,nth,↓nw,Value.cells,↓BK,ze,MA,Nat.reduceAdd,Int.reduceEq,xU,yb,zn,zF,wi,yA,X7,jA,jC,vu,ve,wZ,wH,xq,xl,y9,y1,xr,b0,b1];simp [jZ,vj,qv,v0,b1]
  have b2:0<=b:=by omega
  have b3:min b.toNat 64=b.toNat:=by omega
  simp -implicitDefEqProofs only [EE,nth,↓nw,Value.cells,↓BK,ze,Nat.reduceAdd,Int.reduceEq,xU,zF,wi,yA,lI,Qk,jA,jC,vu,ve,wZ,wH,xq,xl,y9,y1,xr,b0,b1,b2,IntKind.bits,b3]
  refine zj (by kernel_rfl) rfl (qS (kC (a * 2 ^ b.toNat)) _) ?_
  simp -implicitDefEqProofs only [EE,ze,MA,Nat.reduceAdd,xU,yb,zn,zF]
  simp [jZ,vj,qv,b0,b1]
 by_cases o20:op=20
 ·subst o20
  by_cases b0:b < 0
  ·simp -implicitDefEqProofs only [EE,nth,↓nw,Value.cells,↓BK,ze,MA,Nat.reduceAdd,Int.reduceEq,xU,yb,zn,zF,wi,yA,X7,jA,jC,vu,ve,wZ,wH,xq,xl,y9,y1,xr,b0];simp [jZ,vj,qv,v0,b0]
  by_cases b1:63 < b
  ·simp -implicitDefEqProofs only [EE,nth,↓nw,Value.cells,↓BK,ze,MA,Nat.reduceAdd,Int.reduceEq,xU,yb,zn,zF,wi,yA,X7,jA,jC,vu,ve,wZ,wH,xq,xl,y9,y1,xr,b0,b1];simp [jZ,vj,qv,v0,b1]
  have b2:0<=b:=by omega
  have b3:min b.toNat 64=b.toNat:=by omega
  simp -implicitDefEqProofs only [EE,nth,↓nw,Value.cells,↓BK,ze,Nat.reduceAdd,Int.reduceEq,xU,zF,wi,yA,dR,Qk,jA,jC,vu,ve,wZ,wH,xq,xl,y9,y1,xr,b0,b1,b2,IntKind.bits,b3]
  refine zj (by kernel_rfl) rfl (qS (a.fdiv (2 ^ b.toNat)) _) ?_
  simp -implicitDefEqProofs only [EE,ze,MA,Nat.reduceAdd,xU,yb,zn,zF]
  simp [jZ,vj,qv,b0,b1]
 by_cases o21:op=21
 ·subst o21
  simp -implicitDefEqProofs only [EE,nth,↓nw,Value.cells,↓BK,ze,Nat.reduceAdd,Int.reduceEq,xU,zF,wi,yA,dY,kV,vu,ve,wZ,wH,xq,xl,y9,y1,xr]
  refine zj (by kernel_rfl) rfl (XR (decide (a=b)) _) ?_
  simp -implicitDefEqProofs only [EE,ze,MA,Nat.reduceAdd,xU,yb,zn,zF];rfl
 by_cases o22:op=22
 ·subst o22
  simp -implicitDefEqProofs only [EE,nth,↓nw,Value.cells,↓BK,ze,Nat.reduceAdd,Int.reduceEq,xU,zF,wi,yA,dX,jB,kV,vu,ve,wZ,wH,xq,xl,y9,y1,xr]
  refine zj (by kernel_rfl) rfl (XR (!decide (a=b)) _) ?_
  simp -implicitDefEqProofs only [EE,ze,MA,Nat.reduceAdd,xU,yb,zn,zF];rfl
 by_cases o23:op=23
 ·subst o23
  simp -implicitDefEqProofs only [EE,nth,↓nw,Value.cells,↓BK,ze,Nat.reduceAdd,Int.reduceEq,xU,zF,wi,yA,dW,ZK,jB,kV,vu,ve,wZ,wH,xq,xl,y9,y1,xr]
  refine zj (by kernel_rfl) rfl (XR (decide (a < b)) _) ?_
  simp -implicitDefEqProofs only [EE,ze,MA,Nat.reduceAdd,xU,yb,zn,zF];rfl
 by_cases o24:op=24
 ·subst o24
  simp -implicitDefEqProofs only [EE,nth,↓nw,Value.cells,↓BK,ze,Nat.reduceAdd,Int.reduceEq,xU,zF,wi,yA,dV,YQ,ZK,jB,kV,vu,ve,wZ,wH,xq,xl,y9,y1,xr]
  refine zj (by kernel_rfl) rfl (XR (decide (a<=b)) _) ?_
  simp -implicitDefEqProofs only [EE,ze,MA,Nat.reduceAdd,xU,yb,zn,zF];rfl
 by_cases o25:op=25
 ·subst o25
  simp -implicitDefEqProofs only [EE,nth,↓nw,Value.cells,↓BK,ze,Nat.reduceAdd,Int.reduceEq,xU,zF,wi,yA,dU,WK,YQ,ZK,jB,kV,vu,ve,wZ,wH,xq,xl,y9,y1,xr]
  refine zj (by kernel_rfl) rfl (XR (decide (b < a)) _) ?_
  simp -implicitDefEqProofs only [EE,ze,MA,Nat.reduceAdd,xU,yb,zn,zF];rfl
 by_cases o26:op=26
 ·subst o26
  simp -implicitDefEqProofs only [EE,nth,↓nw,Value.cells,↓BK,ze,Nat.reduceAdd,Int.reduceEq,xU,zF,wi,yA,dS,Ql,WK,YQ,ZK,jB,kV,vu,ve,wZ,wH,xq,xl,y9,y1,xr]
  refine zj (by kernel_rfl) rfl (XR (decide (b<=a)) _) ?_
  simp -implicitDefEqProofs only [EE,ze,MA,Nat.reduceAdd,xU,yb,zn,zF];rfl
 simp -implicitDefEqProofs only [EE,nth,↓nw,Value.cells,↓BK,ze,MA,Nat.reduceAdd,xU,yb,zn,zF,wi,yA,Ql,WK,YQ,ZK,jB,kV,vu,ve,wZ,wH,xq,xl,y9,y1,xr,o11,o12,o13,o14,o15,o16,o17,o18,o19,o20,o21,o22,o23,o24,o25,o26]
 simp [jZ,vj,qv,v0,o11,o12,o13,o14,o15,o16,o17,o18,o19,o20,o21,o22,o23,o24,o25,o26]
theorem pW (a:V):((a.k == (1:Int)) && ((a.n == (0:Int)) && (a.b == (0:Int))))=decide (a=vJ 0):=Ln a (vJ 0)
theorem uO (op:Int) (a b:V) (h:za):wS Tryd.prog 93 [.int .i64 op,vv a,vv b] h (vj (vD op a b)):=by
 apply jr rfl
 apply n7
 unfold rR
 simp -implicitDefEqProofs only [EE,↓nw,Value.cells,↓BK,MA,Nat.reduceAdd,yb,zn,wi]
 refine zj (by kernel_rfl) rfl (wP a _) ?_
 have g4:(((h.lock.push (.cells [.int .i64 a.k,.int .i64 a.n,.int .i64 a.b] 86)).push (.cells [.int .i64 b.k,.int .i64 b.n,.int .i64 b.b] 86)).push (.cells [.int .i64 0,.int .i64 0,.int .i64 0] 86)).get h.next=some (.cells [.int .i64 a.k,.int .i64 a.n,.int .i64 a.b] 86):=by
  rw [zO (by show h.next < h.next + 1 + 1;omega),zO (by show h.next < h.next + 1;omega)];exact z7
 have g5:(((h.lock.push (.cells [.int .i64 a.k,.int .i64 a.n,.int .i64 a.b] 86)).push (.cells [.int .i64 b.k,.int .i64 b.n,.int .i64 b.b] 86)).push (.cells [.int .i64 0,.int .i64 0,.int .i64 0] 86)).get (h.next + 1)=some (.cells [.int .i64 b.k,.int .i64 b.n,.int .i64 b.b] 86):=by
  rw [zO (by show h.next + 1 < h.next + 1 + 1;omega)];exact z7
 have g6:(((h.lock.push (.cells [.int .i64 a.k,.int .i64 a.n,.int .i64 a.b] 86)).push (.cells [.int .i64 b.k,.int .i64 b.n,.int .i64 b.b] 86)).push (.cells [.int .i64 0,.int .i64 0,.int .i64 0] 86)).get (h.next + 1 + 1)=some (.cells [.int .i64 0,.int .i64 0,.int .i64 0] 86):=z7
 have r6:(((h.lock.push (.cells [.int .i64 a.k,.int .i64 a.n,.int .i64 a.b] 86)).push (.cells [.int .i64 b.k,.int .i64 b.n,.int .i64 b.b] 86)).push (.cells [.int .i64 0,.int .i64 0,.int .i64 0] 86)).ro<=h.next + 1 + 1:=by show h.next<=h.next + 1 + 1;omega
 generalize (((h.lock.push (.cells [.int .i64 a.k,.int .i64 a.n,.int .i64 a.b] 86)).push (.cells [.int .i64 b.k,.int .i64 b.n,.int .i64 b.b] 86)).push (.cells [.int .i64 0,.int .i64 0,.int .i64 0] 86))=H at g4 g5 g6 r6 ⊢
 have g2:∀ v h',v=Value.tuple #[vv (Zp (decide (a=b) == decide (op=21))),.bool true]->((wR a && wR b) || ((wR a && decide (b=vJ 0)) || (decide (a=vJ 0) && wR b)))=true->jZ (vj (vD op a b)) v h':=by
  intro v h' e1 e2
  subst e1
  unfold vD
  rw [MK e2];rfl
 have g1:∀ h',((wR a && wR b) || ((wR a && decide (b=vJ 0)) || (decide (a=vJ 0) && wR b)))=false->jZ (vj (vD op a b)) (.tuple #[vv v0,.bool false]) h':=by
  intro h' e2
  unfold vD
  rw [MJ (by rw [e2];decide)];rfl
 have yes:∀ J,((wR a && wR b) || ((wR a && decide (b=vJ 0)) || (decide (a=vJ 0) && wR b)))=true->Qf (.pointer (some ⟨h.next,0,none⟩)) H (.pointer (some ⟨h.next + 1,0,none⟩)) (.int .i64 op) (.pointer (some ⟨h.next + 1 + 1,0,none⟩)) (jZ (vj (vD op a b))) J:=by
  intro J e
  simp -implicitDefEqProofs only [EE,MA,Nat.reduceAdd,yb,zn,HX,YF,Qf,g4,g5]
  rw [Ln a b]
  refine zj (by kernel_rfl) rfl (XR _ _) ?_
  simp -implicitDefEqProofs only [EE,ze,MA,Nat.reduceAdd,xU,yb,zn,zF,g6,r6]
  exact g2 _ _ rfl e
 have no:∀ vs,((wR a && wR b) || ((wR a && decide (b=vJ 0)) || (decide (a=vJ 0) && wR b)))=false->Qh (.pointer (some ⟨h.next + 1 + 1,0,none⟩)) (jZ (vj (vD op a b))) vs H:=by
  intro vs e
  simp -implicitDefEqProofs only [EE,ze,MA,Nat.reduceAdd,xU,yb,zn,zF,yA,Qh,g6,r6]
  exact g1 _ e
 cases pa:wR a with
 | true=>
   simp -implicitDefEqProofs only [EE,MA,Nat.reduceAdd,yb,zn,Qg,g5]
   refine zj (by kernel_rfl) rfl (wP b _) ?_
   cases pb:wR b with
   | true=>
     simp -implicitDefEqProofs only [EE,nth,WE]
     exact yes _ (by rw [pa,pb];rfl)
   | false=>
     simp -implicitDefEqProofs only [EE,MA,Nat.reduceAdd,yb,zn,Qe,WE,g4]
     refine vF (by kernel_rfl) rfl (wP a _).dc ?_
     rintro _ _ ⟨rfl,rfl⟩
     rw [pa]
     simp -implicitDefEqProofs only [EE,MA,Nat.reduceAdd,yb,zn,Qd,g5]
     refine vU (by kernel_rfl) rfl (qS 0 _) ?_
     simp -implicitDefEqProofs only [EE,YF,vJ]
     rw [pW b]
     cases eb:decide (b=vJ 0) with
     | true=>
       simp -implicitDefEqProofs only [EE,nth,WD]
       exact yes _ (by rw [pa,pb,eb];rfl)
     | false=>
       simp -implicitDefEqProofs only [EE,MA,Nat.reduceAdd,yb,zn,WD,g4]
       refine vU (by kernel_rfl) rfl (qS 0 _) ?_
       simp -implicitDefEqProofs only [EE,YF,Qc,vJ]
       rw [pW a]
       cases ea:decide (a=vJ 0) with
       | true=>
         simp -implicitDefEqProofs only [EE,MA,Nat.reduceAdd,yb,zn,g5]
         refine vF (by kernel_rfl) rfl (wP b _).dc ?_
         rintro _ _ ⟨rfl,rfl⟩
         rw [pb]
         simp -implicitDefEqProofs only [EE,nth]
         exact no _ (by rw [pa,pb,eb,ea];rfl)
       | false=>
         simp -implicitDefEqProofs only [EE,nth]
         exact no _ (by rw [pa,pb,eb,ea];rfl)
 | false=>
   simp -implicitDefEqProofs only [EE,MA,Nat.reduceAdd,yb,zn,Qe,WE,Qg,g4]
   refine vF (by kernel_rfl) rfl (wP a _).dc ?_
   rintro _ _ ⟨rfl,rfl⟩
   rw [pa]
   simp -implicitDefEqProofs only [EE,MA,Nat.reduceAdd,yb,zn,WD,Qd,g4]
   refine vU (by kernel_rfl) rfl (qS 0 _) ?_
   simp -implicitDefEqProofs only [EE,YF,Qc,vJ]
   rw [pW a]
   cases ea:decide (a=vJ 0) with
   | true=>
     simp -implicitDefEqProofs only [EE,MA,Nat.reduceAdd,yb,zn,g5]
     refine vF (by kernel_rfl) rfl (wP b _).dc ?_
     rintro _ _ ⟨rfl,rfl⟩
     cases pb:wR b with
     | true=>
       simp -implicitDefEqProofs only [EE,nth]
       exact yes _ (by rw [pa,pb,ea];cases decide (b=vJ 0) <;> rfl)
     | false=>
       simp -implicitDefEqProofs only [EE,nth]
       exact no _ (by rw [pa,pb,ea];rfl)
   | false=>
     simp -implicitDefEqProofs only [EE,nth]
     exact no _ (by rw [pa,ea];rfl)
theorem I7 (a:Int):KE Tryd.prog .xor (.int .i64 a)=some (.int .i64 (notM a)):=rfl
theorem L9 (op:Int) (a:V) (h:za):wS Tryd.prog 89 [.int .i64 op,vv a] h (vj (KJ op a)):=by
 apply jr rfl
 apply DQ
 unfold HA
 simp -implicitDefEqProofs only [EE,↓nw,Value.cells,MA,Nat.reduceAdd,yb,zn,wi]
 refine zj (by kernel_rfl) rfl (xQ a _) ?_
 have g3:((h.lock.push (.cells [.int .i64 a.k,.int .i64 a.n,.int .i64 a.b] 86)).push (.cells [.int .i64 0,.int .i64 0,.int .i64 0] 86)).get h.next=some (.cells [.int .i64 a.k,.int .i64 a.n,.int .i64 a.b] 86):=by
  rw [zO (by show h.next < h.next + 1;omega)];exact z7
 have g4:((h.lock.push (.cells [.int .i64 a.k,.int .i64 a.n,.int .i64 a.b] 86)).push (.cells [.int .i64 0,.int .i64 0,.int .i64 0] 86)).get (h.next + 1)=some (.cells [.int .i64 0,.int .i64 0,.int .i64 0] 86):=z7
 have r4:((h.lock.push (.cells [.int .i64 a.k,.int .i64 a.n,.int .i64 a.b] 86)).push (.cells [.int .i64 0,.int .i64 0,.int .i64 0] 86)).ro<=h.next + 1:=by show h.next<=h.next + 1;omega
 generalize ((h.lock.push (.cells [.int .i64 a.k,.int .i64 a.n,.int .i64 a.b] 86)).push (.cells [.int .i64 0,.int .i64 0,.int .i64 0] 86))=H at g3 g4 r4 ⊢
 cases hi:isInt a with
 | false=>
   simp -implicitDefEqProofs only [EE,ze,MA,Nat.reduceAdd,xU,yb,zn,zF,yA,Bw,g4,r4]
   simp [jZ,vj,KJ,hi,v0]
 | true=>
   simp -implicitDefEqProofs only [EE,↓BK]
   by_cases o1:op=1
   ·subst o1
    simp -implicitDefEqProofs only [EE,zL,xz,xi,BA,Qb,g3]
    refine zj (by kernel_rfl) rfl (qS (kC (0 - a.n)) _) ?_
    simp -implicitDefEqProofs only [EE,ze,MA,Nat.reduceAdd,xU,yb,zn,zF,g4,r4]
    simp [jZ,vj,KJ,hi,kC]
   by_cases o2:op=2
   ·subst o2
    simp -implicitDefEqProofs only [EE,Int.reduceEq,zL,xz,xi,Bz,Jj,Qb,g3,I7]
    refine zj (by kernel_rfl) rfl (qS (notM a.n) _) ?_
    simp -implicitDefEqProofs only [EE,ze,MA,Nat.reduceAdd,xU,yb,zn,zF,g4,r4]
    simp [jZ,vj,KJ,hi]
   by_cases o3:op=3
   ·subst o3
    simp -implicitDefEqProofs only [EE,Int.reduceEq,zL,xz,jl,Cx,xi,By,gx,Jj,Qb,g3]
    refine zj (by kernel_rfl) rfl (qS (kC (IntKind.wrap .i8 a.n)) _) ?_
    simp -implicitDefEqProofs only [EE,ze,MA,Nat.reduceAdd,xU,yb,zn,zF,g4,r4]
    simp [jZ,vj,KJ,hi,kC]
   by_cases o4:op=4
   ·subst o4
    simp -implicitDefEqProofs only [EE,Int.reduceEq,zL,xz,ki,KU,xi,Bx,n6,gx,Jj,Qb,g3]
    refine zj (by kernel_rfl) rfl (qS (kC (IntKind.wrap .i32 a.n)) _) ?_
    simp -implicitDefEqProofs only [EE,ze,MA,Nat.reduceAdd,xU,yb,zn,zF,g4,r4]
    simp [jZ,vj,KJ,hi,kC]
   simp -implicitDefEqProofs only [EE,ze,MA,Nat.reduceAdd,xU,yb,zn,zF,yA,n6,gx,Jj,Qb,rQ,g4,r4,o1,o2,o3,o4]
   simp [jZ,vj,KJ,hi,v0,o1,o2,o3,o4]
theorem yS (o:Option V):vj o = .tuple #[.agg #[.int .i64 (o.getD v0).k,.int .i64 (o.getD v0).n,.int .i64 (o.getD v0).b],.bool o.isSome]:=rfl
theorem kinds (a:V):(isInt a=true/\wR a=false)\/(isInt a=false/\wR a=true)\/(isInt a=false/\wR a=false):=by
 unfold isInt wR
 by_cases h1:a.k=1
 ·have h2:¬ a.k=2:=by omega
  cases Wm a <;> simp [h1]
 ·by_cases h2:a.k=2
  ·cases Wm a <;> simp [h2]
  ·simp [h1,h2]
theorem Cr (op:Int) (a b:V) (h:za):wS Tryd.prog 69 [.int .i64 op,vv a,vv b] h (vj (yf op a b)):=by
 apply jr rfl
 apply Br
 unfold Fa
 simp -implicitDefEqProofs only [EE,↓nw,Value.cells,↓BK,MA,Nat.reduceAdd,yb,zn,wi,iX]
 refine zj (by kernel_rfl) rfl (xQ a _) ?_
 have g4:(((h.lock.push (.cells [.int .i64 a.k,.int .i64 a.n,.int .i64 a.b] 86)).push (.cells [.int .i64 b.k,.int .i64 b.n,.int .i64 b.b] 86)).push (.cells [.int .i64 0,.int .i64 0,.int .i64 0] 86)).get h.next=some (.cells [.int .i64 a.k,.int .i64 a.n,.int .i64 a.b] 86):=by
  rw [zO (by show h.next < h.next + 1 + 1;omega),zO (by show h.next < h.next + 1;omega)];exact z7
 have g5:(((h.lock.push (.cells [.int .i64 a.k,.int .i64 a.n,.int .i64 a.b] 86)).push (.cells [.int .i64 b.k,.int .i64 b.n,.int .i64 b.b] 86)).push (.cells [.int .i64 0,.int .i64 0,.int .i64 0] 86)).get (h.next + 1)=some (.cells [.int .i64 b.k,.int .i64 b.n,.int .i64 b.b] 86):=by
  rw [zO (by show h.next + 1 < h.next + 1 + 1;omega)];exact z7
 have g6:(((h.lock.push (.cells [.int .i64 a.k,.int .i64 a.n,.int .i64 a.b] 86)).push (.cells [.int .i64 b.k,.int .i64 b.n,.int .i64 b.b] 86)).push (.cells [.int .i64 0,.int .i64 0,.int .i64 0] 86)).get (h.next + 1 + 1)=some (.cells [.int .i64 0,.int .i64 0,.int .i64 0] 86):=z7
 have r6:(((h.lock.push (.cells [.int .i64 a.k,.int .i64 a.n,.int .i64 a.b] 86)).push (.cells [.int .i64 b.k,.int .i64 b.n,.int .i64 b.b] 86)).push (.cells [.int .i64 0,.int .i64 0,.int .i64 0] 86)).ro<=h.next + 1 + 1:=by show h.next<=h.next + 1 + 1;omega
 generalize (((h.lock.push (.cells [.int .i64 a.k,.int .i64 a.n,.int .i64 a.b] 86)).push (.cells [.int .i64 b.k,.int .i64 b.n,.int .i64 b.b] 86)).push (.cells [.int .i64 0,.int .i64 0,.int .i64 0] 86))=H at g4 g5 g6 r6 ⊢
 have xa:(isInt a=true/\wR a=false)\/(isInt a=false/\wR a=true)\/(isInt a=false/\wR a=false):=kinds a
 have xb:(isInt b=true/\wR b=false)\/(isInt b=false/\wR b=true)\/(isInt b=false/\wR b=false):=kinds b
 by_cases o11:op=11
 ·subst o11
  rcases xa with ⟨ia,pa⟩ | ⟨ia,pa⟩ | ⟨ia,pa⟩ <;> rcases xb with ⟨ib,pb⟩ | ⟨ib,pb⟩ | ⟨ib,pb⟩
  ·have e:yf 11 a b=qv 11 a.n b.n:=by simp [yf,ia,ib]
   rw [e]
   simp -implicitDefEqProofs only [EE,MA,Nat.reduceAdd,yb,zn,zY,g5,ia]
   repeat (first | (refine zj (by kernel_rfl) rfl (xQ b H) ?_;simp -implicitDefEqProofs only [EE,zL,xz,xi,YO,g4,g5,ia,ib]))
   refine zj (by kernel_rfl) rfl (aW _ a.n b.n H) ?_
   simp only [yS,EE,ze,MA,Nat.reduceAdd,xU,yb,zn,zF,WC,g6,r6];rfl
  ·simp -implicitDefEqProofs only [EE,MA,Nat.reduceAdd,yb,zn,zY,g5,ia]
   repeat (first | (refine zj (by kernel_rfl) rfl (xQ a H) ?_;simp -implicitDefEqProofs only [EE,MA,Nat.reduceAdd,yb,zn,yk,g5,ia]) | (refine zj (by kernel_rfl) rfl (xQ b H) ?_;simp -implicitDefEqProofs only [EE,MA,Nat.reduceAdd,yb,zn,yi,yj,g4,ia,ib]) | (refine zj (by kernel_rfl) rfl (wP a H) ?_;simp -implicitDefEqProofs only [EE,MA,Nat.reduceAdd,yb,zn,ym,yn,yh,g4,pa]) | (refine zj (by kernel_rfl) rfl (wP b H) ?_;simp -implicitDefEqProofs only [EE,zL,xz,zu,xi,wO,rP,g4,g5,pb]))
   refine zj (by kernel_rfl) rfl (Ch b.b (kC (a.n + b.n)) H) ?_
   simp -implicitDefEqProofs only [EE,ze,MA,Nat.reduceAdd,xU,yb,zn,zF,g6,r6]
   simp [jZ,vj,yf,ia,ib,pa,pb]
  ·simp -implicitDefEqProofs only [EE,MA,Nat.reduceAdd,yb,zn,zY,g5,ia]
   repeat (first | (refine zj (by kernel_rfl) rfl (xQ a H) ?_;simp -implicitDefEqProofs only [EE,MA,Nat.reduceAdd,yb,zn,yk,g5,ia]) | (refine zj (by kernel_rfl) rfl (xQ b H) ?_;simp -implicitDefEqProofs only [EE,MA,Nat.reduceAdd,yb,zn,yi,yj,g4,ia,ib]) | (refine zj (by kernel_rfl) rfl (wP a H) ?_;simp -implicitDefEqProofs only [EE,MA,Nat.reduceAdd,yb,zn,ym,yn,yh,g4,pa]) | (refine zj (by kernel_rfl) rfl (wP b H) ?_;simp -implicitDefEqProofs only [EE,ze,MA,Nat.reduceAdd,Int.reduceEq,xU,yb,zn,zF,yA,xf,xg,xh,y5,y6,yr,wu,g6,r6,pb]))
   simp [jZ,vj,yf,ia,ib,pa,pb,v0]
  ·simp -implicitDefEqProofs only [EE,MA,Nat.reduceAdd,yb,zn,yi,yj,zY,g4,ia]
   repeat (first | (refine zj (by kernel_rfl) rfl (xQ b H) ?_;simp -implicitDefEqProofs only [EE,zL,xz,zu,xi,wO,iW,g4,g5,ib]) | (refine zj (by kernel_rfl) rfl (wP a H) ?_;simp -implicitDefEqProofs only [EE,MA,Nat.reduceAdd,yb,zn,yh,g5,pa]))
   refine zj (by kernel_rfl) rfl (Ch a.b (kC (a.n + b.n)) H) ?_
   simp -implicitDefEqProofs only [EE,ze,MA,Nat.reduceAdd,xU,yb,zn,zF,g6,r6]
   simp [jZ,vj,yf,ia,ib,pa]
  ·simp -implicitDefEqProofs only [EE,MA,Nat.reduceAdd,yb,zn,yi,yj,zY,g4,ia]
   repeat (first | (refine zj (by kernel_rfl) rfl (xQ a H) ?_;simp -implicitDefEqProofs only [EE,ze,MA,Nat.reduceAdd,Int.reduceEq,xU,yb,zn,zF,yA,xf,xg,xh,y5,y6,yr,yk,wu,g6,r6,ia]) | (refine zj (by kernel_rfl) rfl (xQ b H) ?_;simp -implicitDefEqProofs only [EE,MA,Nat.reduceAdd,yb,zn,ym,yn,g4,ib]) | (refine zj (by kernel_rfl) rfl (wP a H) ?_;simp -implicitDefEqProofs only [EE,MA,Nat.reduceAdd,yb,zn,yh,g5,pa]))
   simp [jZ,vj,yf,ia,ib,pa,pb,v0]
  ·simp -implicitDefEqProofs only [EE,MA,Nat.reduceAdd,yb,zn,yi,yj,zY,g4,ia]
   repeat (first | (refine zj (by kernel_rfl) rfl (xQ a H) ?_;simp -implicitDefEqProofs only [EE,ze,MA,Nat.reduceAdd,Int.reduceEq,xU,yb,zn,zF,yA,xf,xg,xh,y5,y6,yr,yk,wu,g6,r6,ia]) | (refine zj (by kernel_rfl) rfl (xQ b H) ?_;simp -implicitDefEqProofs only [EE,MA,Nat.reduceAdd,yb,zn,ym,yn,g4,ib]) | (refine zj (by kernel_rfl) rfl (wP a H) ?_;simp -implicitDefEqProofs only [EE,MA,Nat.reduceAdd,yb,zn,yh,g5,pa]))
   simp [jZ,vj,yf,ia,ib,pa,pb,v0]
  ·simp -implicitDefEqProofs only [EE,MA,Nat.reduceAdd,yb,zn,yi,yj,zY,g4,ia]
   repeat (first | (refine zj (by kernel_rfl) rfl (xQ a H) ?_;simp -implicitDefEqProofs only [EE,ze,MA,Nat.reduceAdd,Int.reduceEq,xU,yb,zn,zF,yA,xf,xg,xh,y5,y6,yr,yk,wu,g6,r6,ia]) | (refine zj (by kernel_rfl) rfl (wP a H) ?_;simp -implicitDefEqProofs only [EE,MA,Nat.reduceAdd,yb,zn,ym,yn,yh,g4,pa]))
   simp [jZ,vj,yf,ia,ib,pa,pb,v0]
  ·simp -implicitDefEqProofs only [EE,MA,Nat.reduceAdd,yb,zn,yi,yj,zY,g4,ia]
   repeat (first | (refine zj (by kernel_rfl) rfl (xQ a H) ?_;simp -implicitDefEqProofs only [EE,ze,MA,Nat.reduceAdd,Int.reduceEq,xU,yb,zn,zF,yA,xf,xg,xh,y5,y6,yr,yk,wu,g6,r6,ia]) | (refine zj (by kernel_rfl) rfl (wP a H) ?_;simp -implicitDefEqProofs only [EE,MA,Nat.reduceAdd,yb,zn,ym,yn,yh,g4,pa]))
   simp [jZ,vj,yf,ia,ib,pa,pb,v0]
  ·simp -implicitDefEqProofs only [EE,MA,Nat.reduceAdd,yb,zn,yi,yj,zY,g4,ia]
   repeat (first | (refine zj (by kernel_rfl) rfl (xQ a H) ?_;simp -implicitDefEqProofs only [EE,ze,MA,Nat.reduceAdd,Int.reduceEq,xU,yb,zn,zF,yA,xf,xg,xh,y5,y6,yr,yk,wu,g6,r6,ia]) | (refine zj (by kernel_rfl) rfl (wP a H) ?_;simp -implicitDefEqProofs only [EE,MA,Nat.reduceAdd,yb,zn,ym,yn,yh,g4,pa]))
   simp [jZ,vj,yf,ia,ib,pa,pb,v0]
 by_cases o12:op=12
 ·subst o12
  rcases xa with ⟨ia,pa⟩ | ⟨ia,pa⟩ | ⟨ia,pa⟩ <;> rcases xb with ⟨ib,pb⟩ | ⟨ib,pb⟩ | ⟨ib,pb⟩
  ·have e:yf 12 a b=qv 12 a.n b.n:=by simp [yf,ia,ib]
   rw [e]
   simp -implicitDefEqProofs only [EE,MA,Nat.reduceAdd,yb,zn,zY,g5,ia]
   repeat (first | (refine zj (by kernel_rfl) rfl (xQ b H) ?_;simp -implicitDefEqProofs only [EE,zL,xz,xi,YO,g4,g5,ia,ib]))
   refine zj (by kernel_rfl) rfl (aW _ a.n b.n H) ?_
   simp only [yS,EE,ze,MA,Nat.reduceAdd,xU,yb,zn,zF,WC,g6,r6];rfl
  ·simp -implicitDefEqProofs only [EE,MA,Nat.reduceAdd,yb,zn,zY,g5,ia]
   repeat (first | (refine zj (by kernel_rfl) rfl (xQ b H) ?_;simp -implicitDefEqProofs only [EE,MA,Nat.reduceAdd,Int.reduceEq,yb,zn,y6,yr,yk,ym,yn,yh,yi,yj,g4,ia,ib]) | (refine zj (by kernel_rfl) rfl (wP a H) ?_;simp -implicitDefEqProofs only [EE,ze,MA,Nat.reduceAdd,Int.reduceEq,xU,yb,zn,zF,yA,xf,xg,xh,y5,wu,g6,r6,pa]))
   simp [jZ,vj,yf,ia,ib,pa,pb,v0]
  ·simp -implicitDefEqProofs only [EE,MA,Nat.reduceAdd,yb,zn,zY,g5,ia]
   repeat (first | (refine zj (by kernel_rfl) rfl (xQ b H) ?_;simp -implicitDefEqProofs only [EE,MA,Nat.reduceAdd,Int.reduceEq,yb,zn,y6,yr,yk,ym,yn,yh,yi,yj,g4,ia,ib]) | (refine zj (by kernel_rfl) rfl (wP a H) ?_;simp -implicitDefEqProofs only [EE,ze,MA,Nat.reduceAdd,Int.reduceEq,xU,yb,zn,zF,yA,xf,xg,xh,y5,wu,g6,r6,pa]))
   simp [jZ,vj,yf,ia,ib,pa,pb,v0]
  ·simp -implicitDefEqProofs only [EE,MA,Nat.reduceAdd,Int.reduceEq,yb,zn,y6,yr,yk,ym,yn,yh,yi,yj,zY,g4,ia]
   repeat (first | (refine zj (by kernel_rfl) rfl (xQ b H) ?_;simp -implicitDefEqProofs only [EE,zL,xz,zu,xi,wO,rO,g4,g5,ib]) | (refine zj (by kernel_rfl) rfl (wP a H) ?_;simp -implicitDefEqProofs only [EE,MA,Nat.reduceAdd,yb,zn,y5,g5,pa]))
   refine zj (by kernel_rfl) rfl (Ch a.b (kC (a.n - b.n)) H) ?_
   simp -implicitDefEqProofs only [EE,ze,MA,Nat.reduceAdd,xU,yb,zn,zF,g6,r6]
   simp [jZ,vj,yf,ia,ib,pa,pb]
  ·simp -implicitDefEqProofs only [EE,MA,Nat.reduceAdd,Int.reduceEq,yb,zn,y6,yr,yk,ym,yn,yh,yi,yj,zY,g4,ia]
   repeat (first | (refine zj (by kernel_rfl) rfl (xQ b H) ?_;simp -implicitDefEqProofs only [EE,ze,MA,Nat.reduceAdd,Int.reduceEq,xU,yb,zn,zF,yA,xf,xg,xh,wu,g6,r6,ib]) | (refine zj (by kernel_rfl) rfl (wP a H) ?_;simp -implicitDefEqProofs only [EE,MA,Nat.reduceAdd,yb,zn,y5,g5,pa]))
   simp [jZ,vj,yf,ia,ib,pa,pb,v0]
  ·simp -implicitDefEqProofs only [EE,MA,Nat.reduceAdd,Int.reduceEq,yb,zn,y6,yr,yk,ym,yn,yh,yi,yj,zY,g4,ia]
   repeat (first | (refine zj (by kernel_rfl) rfl (xQ b H) ?_;simp -implicitDefEqProofs only [EE,ze,MA,Nat.reduceAdd,Int.reduceEq,xU,yb,zn,zF,yA,xf,xg,xh,wu,g6,r6,ib]) | (refine zj (by kernel_rfl) rfl (wP a H) ?_;simp -implicitDefEqProofs only [EE,MA,Nat.reduceAdd,yb,zn,y5,g5,pa]))
   simp [jZ,vj,yf,ia,ib,pa,pb,v0]
  ·simp -implicitDefEqProofs only [EE,MA,Nat.reduceAdd,Int.reduceEq,yb,zn,y6,yr,yk,ym,yn,yh,yi,yj,zY,g4,ia]
   repeat (first | (refine zj (by kernel_rfl) rfl (wP a H) ?_;simp -implicitDefEqProofs only [EE,ze,MA,Nat.reduceAdd,Int.reduceEq,xU,yb,zn,zF,yA,xf,xg,xh,y5,wu,g6,r6,pa]))
   simp [jZ,vj,yf,ia,ib,pa,pb,v0]
  ·simp -implicitDefEqProofs only [EE,MA,Nat.reduceAdd,Int.reduceEq,yb,zn,y6,yr,yk,ym,yn,yh,yi,yj,zY,g4,ia]
   repeat (first | (refine zj (by kernel_rfl) rfl (wP a H) ?_;simp -implicitDefEqProofs only [EE,ze,MA,Nat.reduceAdd,Int.reduceEq,xU,yb,zn,zF,yA,xf,xg,xh,y5,wu,g6,r6,pa]))
   simp [jZ,vj,yf,ia,ib,pa,pb,v0]
  ·simp -implicitDefEqProofs only [EE,MA,Nat.reduceAdd,Int.reduceEq,yb,zn,y6,yr,yk,ym,yn,yh,yi,yj,zY,g4,ia]
   repeat (first | (refine zj (by kernel_rfl) rfl (wP a H) ?_;simp -implicitDefEqProofs only [EE,ze,MA,Nat.reduceAdd,Int.reduceEq,xU,yb,zn,zF,yA,xf,xg,xh,y5,wu,g6,r6,pa]))
   simp [jZ,vj,yf,ia,ib,pa,pb,v0]
 by_cases o21:op=21
 ·subst o21
  rcases xa with ⟨ia,pa⟩ | ⟨ia,pa⟩ | ⟨ia,pa⟩ <;> rcases xb with ⟨ib,pb⟩ | ⟨ib,pb⟩ | ⟨ib,pb⟩
  ·have e:yf 21 a b=qv 21 a.n b.n:=by simp [yf,ia,ib]
   rw [e]
   simp -implicitDefEqProofs only [EE,MA,Nat.reduceAdd,yb,zn,zY,g5,ia]
   repeat (first | (refine zj (by kernel_rfl) rfl (xQ b H) ?_;simp -implicitDefEqProofs only [EE,zL,xz,xi,YO,g4,g5,ia,ib]))
   refine zj (by kernel_rfl) rfl (aW _ a.n b.n H) ?_
   simp only [yS,EE,ze,MA,Nat.reduceAdd,xU,yb,zn,zF,WC,g6,r6];rfl
  ·have e:yf 21 a b=vD 21 a b:=by simp [yf,ia,ib,pa,pb]
   rw [e]
   simp -implicitDefEqProofs only [EE,MA,Nat.reduceAdd,yb,zn,zY,g5,ia]
   repeat (first | (refine zj (by kernel_rfl) rfl (xQ b H) ?_;simp -implicitDefEqProofs only [EE,MA,Nat.reduceAdd,Int.reduceEq,yb,zn,xf,xg,xh,y5,y6,yr,yk,ym,yn,yh,yi,yj,g4,g5,ia,ib]))
   refine zj (by kernel_rfl) rfl (uO _ a b H) ?_
   simp only [yS,EE,ze,MA,Nat.reduceAdd,xU,yb,zn,zF,v9,g6,r6];rfl
  ·have e:yf 21 a b=vD 21 a b:=by simp [yf,ia,ib,pa,pb]
   rw [e]
   simp -implicitDefEqProofs only [EE,MA,Nat.reduceAdd,yb,zn,zY,g5,ia]
   repeat (first | (refine zj (by kernel_rfl) rfl (xQ b H) ?_;simp -implicitDefEqProofs only [EE,MA,Nat.reduceAdd,Int.reduceEq,yb,zn,xf,xg,xh,y5,y6,yr,yk,ym,yn,yh,yi,yj,g4,g5,ia,ib]))
   refine zj (by kernel_rfl) rfl (uO _ a b H) ?_
   simp only [yS,EE,ze,MA,Nat.reduceAdd,xU,yb,zn,zF,v9,g6,r6];rfl
  ·have e:yf 21 a b=vD 21 a b:=by simp [yf,ia,ib,pa,pb]
   rw [e]
   simp -implicitDefEqProofs only [EE,MA,Nat.reduceAdd,Int.reduceEq,yb,zn,xf,xg,xh,y5,y6,yr,yk,ym,yn,yh,yi,yj,zY,g4,g5,ia]
   skip
   refine zj (by kernel_rfl) rfl (uO _ a b H) ?_
   simp only [yS,EE,ze,MA,Nat.reduceAdd,xU,yb,zn,zF,v9,g6,r6];rfl
  ·have e:yf 21 a b=vD 21 a b:=by simp [yf,ia,ib,pa,pb]
   rw [e]
   simp -implicitDefEqProofs only [EE,MA,Nat.reduceAdd,Int.reduceEq,yb,zn,xf,xg,xh,y5,y6,yr,yk,ym,yn,yh,yi,yj,zY,g4,g5,ia]
   skip
   refine zj (by kernel_rfl) rfl (uO _ a b H) ?_
   simp only [yS,EE,ze,MA,Nat.reduceAdd,xU,yb,zn,zF,v9,g6,r6];rfl
  ·have e:yf 21 a b=vD 21 a b:=by simp [yf,ia,ib,pa,pb]
   rw [e]
   simp -implicitDefEqProofs only [EE,MA,Nat.reduceAdd,Int.reduceEq,yb,zn,xf,xg,xh,y5,y6,yr,yk,ym,yn,yh,yi,yj,zY,g4,g5,ia]
   skip
   refine zj (by kernel_rfl) rfl (uO _ a b H) ?_
   simp only [yS,EE,ze,MA,Nat.reduceAdd,xU,yb,zn,zF,v9,g6,r6];rfl
  ·have e:yf 21 a b=vD 21 a b:=by simp [yf,ia,ib,pa,pb]
   rw [e]
   simp -implicitDefEqProofs only [EE,MA,Nat.reduceAdd,Int.reduceEq,yb,zn,xf,xg,xh,y5,y6,yr,yk,ym,yn,yh,yi,yj,zY,g4,g5,ia]
   skip
   refine zj (by kernel_rfl) rfl (uO _ a b H) ?_
   simp only [yS,EE,ze,MA,Nat.reduceAdd,xU,yb,zn,zF,v9,g6,r6];rfl
  ·have e:yf 21 a b=vD 21 a b:=by simp [yf,ia,ib,pa,pb]
   rw [e]
   simp -implicitDefEqProofs only [EE,MA,Nat.reduceAdd,Int.reduceEq,yb,zn,xf,xg,xh,y5,y6,yr,yk,ym,yn,yh,yi,yj,zY,g4,g5,ia]
   skip
   refine zj (by kernel_rfl) rfl (uO _ a b H) ?_
   simp only [yS,EE,ze,MA,Nat.reduceAdd,xU,yb,zn,zF,v9,g6,r6];rfl
  ·have e:yf 21 a b=vD 21 a b:=by simp [yf,ia,ib,pa,pb]
   rw [e]
   simp -implicitDefEqProofs only [EE,MA,Nat.reduceAdd,Int.reduceEq,yb,zn,xf,xg,xh,y5,y6,yr,yk,ym,yn,yh,yi,yj,zY,g4,g5,ia]
   skip
   refine zj (by kernel_rfl) rfl (uO _ a b H) ?_
   simp only [yS,EE,ze,MA,Nat.reduceAdd,xU,yb,zn,zF,v9,g6,r6];rfl
 by_cases o22:op=22
 ·subst o22
  rcases xa with ⟨ia,pa⟩ | ⟨ia,pa⟩ | ⟨ia,pa⟩ <;> rcases xb with ⟨ib,pb⟩ | ⟨ib,pb⟩ | ⟨ib,pb⟩
  ·have e:yf 22 a b=qv 22 a.n b.n:=by simp [yf,ia,ib]
   rw [e]
   simp -implicitDefEqProofs only [EE,MA,Nat.reduceAdd,yb,zn,zY,g5,ia]
   repeat (first | (refine zj (by kernel_rfl) rfl (xQ b H) ?_;simp -implicitDefEqProofs only [EE,zL,xz,xi,YO,g4,g5,ia,ib]))
   refine zj (by kernel_rfl) rfl (aW _ a.n b.n H) ?_
   simp only [yS,EE,ze,MA,Nat.reduceAdd,xU,yb,zn,zF,WC,g6,r6];rfl
  ·have e:yf 22 a b=vD 22 a b:=by simp [yf,ia,ib,pa,pb]
   rw [e]
   simp -implicitDefEqProofs only [EE,MA,Nat.reduceAdd,yb,zn,zY,g5,ia]
   repeat (first | (refine zj (by kernel_rfl) rfl (xQ b H) ?_;simp -implicitDefEqProofs only [EE,MA,Nat.reduceAdd,Int.reduceEq,yb,zn,xf,xg,xh,y5,y6,yr,yk,ym,yn,yh,yi,yj,g4,g5,ia,ib]))
   refine zj (by kernel_rfl) rfl (uO _ a b H) ?_
   simp only [yS,EE,ze,MA,Nat.reduceAdd,xU,yb,zn,zF,v9,g6,r6];rfl
  ·have e:yf 22 a b=vD 22 a b:=by simp [yf,ia,ib,pa,pb]
   rw [e]
   simp -implicitDefEqProofs only [EE,MA,Nat.reduceAdd,yb,zn,zY,g5,ia]
   repeat (first | (refine zj (by kernel_rfl) rfl (xQ b H) ?_;simp -implicitDefEqProofs only [EE,MA,Nat.reduceAdd,Int.reduceEq,yb,zn,xf,xg,xh,y5,y6,yr,yk,ym,yn,yh,yi,yj,g4,g5,ia,ib]))
   refine zj (by kernel_rfl) rfl (uO _ a b H) ?_
   simp only [yS,EE,ze,MA,Nat.reduceAdd,xU,yb,zn,zF,v9,g6,r6];rfl
  ·have e:yf 22 a b=vD 22 a b:=by simp [yf,ia,ib,pa,pb]
   rw [e]
   simp -implicitDefEqProofs only [EE,MA,Nat.reduceAdd,Int.reduceEq,yb,zn,xf,xg,xh,y5,y6,yr,yk,ym,yn,yh,yi,yj,zY,g4,g5,ia]
   skip
   refine zj (by kernel_rfl) rfl (uO _ a b H) ?_
   simp only [yS,EE,ze,MA,Nat.reduceAdd,xU,yb,zn,zF,v9,g6,r6];rfl
  ·have e:yf 22 a b=vD 22 a b:=by simp [yf,ia,ib,pa,pb]
   rw [e]
   simp -implicitDefEqProofs only [EE,MA,Nat.reduceAdd,Int.reduceEq,yb,zn,xf,xg,xh,y5,y6,yr,yk,ym,yn,yh,yi,yj,zY,g4,g5,ia]
   skip
   refine zj (by kernel_rfl) rfl (uO _ a b H) ?_
   simp only [yS,EE,ze,MA,Nat.reduceAdd,xU,yb,zn,zF,v9,g6,r6];rfl
  ·have e:yf 22 a b=vD 22 a b:=by simp [yf,ia,ib,pa,pb]
   rw [e]
   simp -implicitDefEqProofs only [EE,MA,Nat.reduceAdd,Int.reduceEq,yb,zn,xf,xg,xh,y5,y6,yr,yk,ym,yn,yh,yi,yj,zY,g4,g5,ia]
   skip
   refine zj (by kernel_rfl) rfl (uO _ a b H) ?_
   simp only [yS,EE,ze,MA,Nat.reduceAdd,xU,yb,zn,zF,v9,g6,r6];rfl
  ·have e:yf 22 a b=vD 22 a b:=by simp [yf,ia,ib,pa,pb]
   rw [e]
   simp -implicitDefEqProofs only [EE,MA,Nat.reduceAdd,Int.reduceEq,yb,zn,xf,xg,xh,y5,y6,yr,yk,ym,yn,yh,yi,yj,zY,g4,g5,ia]
   skip
   refine zj (by kernel_rfl) rfl (uO _ a b H) ?_
   simp only [yS,EE,ze,MA,Nat.reduceAdd,xU,yb,zn,zF,v9,g6,r6];rfl
  ·have e:yf 22 a b=vD 22 a b:=by simp [yf,ia,ib,pa,pb]
   rw [e]
   simp -implicitDefEqProofs only [EE,MA,Nat.reduceAdd,Int.reduceEq,yb,zn,xf,xg,xh,y5,y6,yr,yk,ym,yn,yh,yi,yj,zY,g4,g5,ia]
   skip
   refine zj (by kernel_rfl) rfl (uO _ a b H) ?_
   simp only [yS,EE,ze,MA,Nat.reduceAdd,xU,yb,zn,zF,v9,g6,r6];rfl
  ·have e:yf 22 a b=vD 22 a b:=by simp [yf,ia,ib,pa,pb]
   rw [e]
   simp -implicitDefEqProofs only [EE,MA,Nat.reduceAdd,Int.reduceEq,yb,zn,xf,xg,xh,y5,y6,yr,yk,ym,yn,yh,yi,yj,zY,g4,g5,ia]
   skip
   refine zj (by kernel_rfl) rfl (uO _ a b H) ?_
   simp only [yS,EE,ze,MA,Nat.reduceAdd,xU,yb,zn,zF,v9,g6,r6];rfl
 ·skip
  rcases xa with ⟨ia,pa⟩ | ⟨ia,pa⟩ | ⟨ia,pa⟩ <;> rcases xb with ⟨ib,pb⟩ | ⟨ib,pb⟩ | ⟨ib,pb⟩
  ·have e:yf op a b=qv op a.n b.n:=by simp [yf,ia,ib]
   rw [e]
   simp -implicitDefEqProofs only [EE,MA,Nat.reduceAdd,yb,zn,zY,g5,ia]
   repeat (first | (refine zj (by kernel_rfl) rfl (xQ b H) ?_;simp -implicitDefEqProofs only [EE,zL,xz,xi,YO,g4,g5,ia,ib]))
   refine zj (by kernel_rfl) rfl (aW _ a.n b.n H) ?_
   simp only [yS,EE,ze,MA,Nat.reduceAdd,xU,yb,zn,zF,WC,g6,r6];rfl
  ·simp -implicitDefEqProofs only [EE,MA,Nat.reduceAdd,yb,zn,zY,g5,ia]
   repeat (first | (refine zj (by kernel_rfl) rfl (xQ b H) ?_;simp -implicitDefEqProofs only [EE,ze,MA,Nat.reduceAdd,xU,yb,zn,zF,yA,xf,xg,xh,y5,y6,yr,yk,ym,yn,yh,yi,yj,wu,g6,r6,ia,ib,o11,o12,o21,o22]))
   simp [jZ,vj,yf,ia,ib,pa,pb,v0,o11,o12,o21,o22]
  ·simp -implicitDefEqProofs only [EE,MA,Nat.reduceAdd,yb,zn,zY,g5,ia]
   repeat (first | (refine zj (by kernel_rfl) rfl (xQ b H) ?_;simp -implicitDefEqProofs only [EE,ze,MA,Nat.reduceAdd,xU,yb,zn,zF,yA,xf,xg,xh,y5,y6,yr,yk,ym,yn,yh,yi,yj,wu,g6,r6,ia,ib,o11,o12,o21,o22]))
   simp [jZ,vj,yf,ia,ib,pa,pb,v0,o11,o12,o21,o22]
  ·simp -implicitDefEqProofs only [EE,ze,MA,Nat.reduceAdd,xU,yb,zn,zF,yA,xf,xg,xh,y5,y6,yr,yk,ym,yn,yh,yi,yj,zY,wu,g6,r6,ia,o11,o12,o21,o22]
   skip
   simp [jZ,vj,yf,ia,ib,pa,pb,v0,o11,o12,o21,o22]
  ·simp -implicitDefEqProofs only [EE,ze,MA,Nat.reduceAdd,xU,yb,zn,zF,yA,xf,xg,xh,y5,y6,yr,yk,ym,yn,yh,yi,yj,zY,wu,g6,r6,ia,o11,o12,o21,o22]
   skip
   simp [jZ,vj,yf,ia,ib,pa,pb,v0,o11,o12,o21,o22]
  ·simp -implicitDefEqProofs only [EE,ze,MA,Nat.reduceAdd,xU,yb,zn,zF,yA,xf,xg,xh,y5,y6,yr,yk,ym,yn,yh,yi,yj,zY,wu,g6,r6,ia,o11,o12,o21,o22]
   skip
   simp [jZ,vj,yf,ia,ib,pa,pb,v0,o11,o12,o21,o22]
  ·simp -implicitDefEqProofs only [EE,ze,MA,Nat.reduceAdd,xU,yb,zn,zF,yA,xf,xg,xh,y5,y6,yr,yk,ym,yn,yh,yi,yj,zY,wu,g6,r6,ia,o11,o12,o21,o22]
   skip
   simp [jZ,vj,yf,ia,ib,pa,pb,v0,o11,o12,o21,o22]
  ·simp -implicitDefEqProofs only [EE,ze,MA,Nat.reduceAdd,xU,yb,zn,zF,yA,xf,xg,xh,y5,y6,yr,yk,ym,yn,yh,yi,yj,zY,wu,g6,r6,ia,o11,o12,o21,o22]
   skip
   simp [jZ,vj,yf,ia,ib,pa,pb,v0,o11,o12,o21,o22]
  ·simp -implicitDefEqProofs only [EE,ze,MA,Nat.reduceAdd,xU,yb,zn,zF,yA,xf,xg,xh,y5,y6,yr,yk,ym,yn,yh,yi,yj,zY,wu,g6,r6,ia,o11,o12,o21,o22]
   skip
   simp [jZ,vj,yf,ia,ib,pa,pb,v0,o11,o12,o21,o22]
end Go.Rm
