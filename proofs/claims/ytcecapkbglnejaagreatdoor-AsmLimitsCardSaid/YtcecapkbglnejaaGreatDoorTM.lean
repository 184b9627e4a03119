/- A part of the proof. -/
import Derived.Test.YtcecapkbglnejaaGreatDoorTL
import Derived.Test.YtcecapkbglnejaaGreatDoorTJ
import Derived.Test.YtcecapkbglnejaaGreatDoorChecked
import Derived.KernelRfl
import Derived.Test.YtcecapkbglnejaaGreatDoorTH
import Derived.Test.YtcecapkbglnejaaGreatDoorTI
import Derived.Test.YtcecapkbglnejaaGreatDoorTG
set_option linter.unusedVariables false
set_option linter.unusedSimpArgs false
set_option maxRecDepth 100000
namespace Go.As
open Go.Ai Go.Proofs
noncomputable def Qf:Array Field:=match Program.underlying Tryz.prog 64 with | some (.struct f)=>f | _ => #[]
theorem Bt (b off:Nat) (h:za):zd Tryz.prog 103 (.pointer (some ⟨b,off,none⟩)) h=zw h b off:=yn (by kernel_rfl) b off h
theorem cC (b off:Nat) (h:za):zd Tryz.prog 104 (.pointer (some ⟨b,off,none⟩)) h=zw h b off:=yn (by kernel_rfl) b off h
theorem Mt (b off:Nat) (h:za):zd Tryz.prog 105 (.pointer (some ⟨b,off,none⟩)) h=zw h b off:=yn (by kernel_rfl) b off h
theorem oQ (b off:Nat) (h:za):zd Tryz.prog 106 (.pointer (some ⟨b,off,none⟩)) h=zw h b off:=yn (by kernel_rfl) b off h
theorem Gq (b off:Nat) (h:za):zd Tryz.prog 129 (.pointer (some ⟨b,off,none⟩)) h=zw h b off:=yn (by kernel_rfl) b off h
theorem yQ (b off:Nat) (h:za):zd Tryz.prog 2 (.pointer (some ⟨b,off,none⟩)) h=zw h b off:=yn (by kernel_rfl) b off h
theorem u9 (b off:Nat) (h:za):zd Tryz.prog 22 (.pointer (some ⟨b,off,none⟩)) h=zw h b off:=yn (by kernel_rfl) b off h
theorem qa (b off:Nat) (h:za):zd Tryz.prog 23 (.pointer (some ⟨b,off,none⟩)) h=zw h b off:=yn (by kernel_rfl) b off h
theorem VE (b off:Nat) (h:za):zd Tryz.prog 25 (.pointer (some ⟨b,off,none⟩)) h=ye h b off 4:=qi (by kernel_rfl) (by kernel_rfl) b off h
theorem zi (b off:Nat) (h:za):zd Tryz.prog 3 (.pointer (some ⟨b,off,none⟩)) h=zw h b off:=yn (by kernel_rfl) b off h
theorem CW (b off:Nat) (h:za):zd Tryz.prog 30 (.pointer (some ⟨b,off,none⟩)) h=zw h b off:=yn (by kernel_rfl) b off h
theorem nh (b off:Nat) (h:za):zd Tryz.prog 31 (.pointer (some ⟨b,off,none⟩)) h=zw h b off:=yn (by kernel_rfl) b off h
theorem Ky (b off:Nat) (h:za):zd Tryz.prog 33 (.pointer (some ⟨b,off,none⟩)) h=ye h b off 5:=qi (by kernel_rfl) (by kernel_rfl) b off h
theorem Bu (b off:Nat) (h:za):zd Tryz.prog 4 (.pointer (some ⟨b,off,none⟩)) h=zw h b off:=yn (by kernel_rfl) b off h
theorem ZX (b off:Nat) (h:za):zd Tryz.prog 45 (.pointer (some ⟨b,off,none⟩)) h=zw h b off:=yn (by kernel_rfl) b off h
theorem U9 (b off:Nat) (h:za):zd Tryz.prog 47 (.pointer (some ⟨b,off,none⟩)) h=ye h b off 2:=qi (by kernel_rfl) (by kernel_rfl) b off h
theorem vS (b off:Nat) (h:za):zd Tryz.prog 50 (.pointer (some ⟨b,off,none⟩)) h=ye h b off 7:=qi (by kernel_rfl) (by kernel_rfl) b off h
theorem zq (b off:Nat) (h:za):zd Tryz.prog 64 (.pointer (some ⟨b,off,none⟩)) h=ye h b off 3:=qi (by kernel_rfl) (by kernel_rfl) b off h
theorem Mw (r:TypeId) (v x:Value) (n:Nat) (new:List Value) (h:za) (h1:Ws x=some n) (h2:uJ h n 1 x=some new) (h3:new.all wZ=true) (h4:new.length=n * 1):zn Tryz.prog .append [103,103] r [v,x] h=Uh h 129 1 8 n new v:=Xd (e:=129) (e2:=129) (by kernel_rfl) (by kernel_rfl) (by kernel_rfl) (by kernel_rfl) (by decide) h1 h2 h3 h4
theorem Mx (r:TypeId) (v x:Value) (n:Nat) (new:List Value) (h:za) (h1:Ws x=some n) (h2:uJ h n 7 x=some new) (h3:new.all wZ=true) (h4:new.length=n * 7):zn Tryz.prog .append [106,106] r [v,x] h=Uh h 134 7 56 n new v:=Xd (e:=134) (e2:=134) (by kernel_rfl) (by kernel_rfl) (by kernel_rfl) (by kernel_rfl) (by decide) h1 h2 h3 h4
theorem Oc (r:TypeId) (v x:Value) (n:Nat) (new:List Value) (h:za) (h1:Ws x=some n) (h2:uJ h n 1 x=some new) (h3:new.all wZ=true) (h4:new.length=n * 1):zn Tryz.prog .append [22,22] r [v,x] h=Uh h 3 1 8 n new v:=Xd (e:=3) (e2:=3) (by kernel_rfl) (by kernel_rfl) (by kernel_rfl) (by kernel_rfl) (by decide) h1 h2 h3 h4
theorem Oe (r:TypeId) (v x:Value) (n:Nat) (new:List Value) (h:za) (h1:Ws x=some n) (h2:uJ h n 2 x=some new) (h3:new.all wZ=true) (h4:new.length=n * 2):zn Tryz.prog .append [30,30] r [v,x] h=Uh h 85 2 16 n new v:=Xd (e:=85) (e2:=85) (by kernel_rfl) (by kernel_rfl) (by kernel_rfl) (by kernel_rfl) (by decide) h1 h2 h3 h4
theorem Of (r:TypeId) (v x:Value) (n:Nat) (new:List Value) (h:za) (h1:Ws x=some n) (h2:uJ h n 3 x=some new) (h3:new.all wZ=true) (h4:new.length=n * 3):zn Tryz.prog .append [31,31] r [v,x] h=Uh h 80 3 24 n new v:=Xd (e:=80) (e2:=80) (by kernel_rfl) (by kernel_rfl) (by kernel_rfl) (by kernel_rfl) (by decide) h1 h2 h3 h4
theorem MD (b off:Nat) (v:Option Addr) (vl vc:Nat) (h:za):zl Tryz.prog 103 (.pointer (some ⟨b,off,none⟩)) (.slice v vl vc) h=vf h b off [(.slice v vl vc)]:=uI (by kernel_rfl) b off _ h rfl
theorem GA (b off:Nat) (v:Option Addr) (vl vc:Nat) (h:za):zl Tryz.prog 106 (.pointer (some ⟨b,off,none⟩)) (.slice v vl vc) h=vf h b off [(.slice v vl vc)]:=uI (by kernel_rfl) b off _ h rfl
theorem ME (b off:Nat) (l:List Value) (h:za) (hv:l.length=6):zl Tryz.prog 130 (.pointer (some ⟨b,off,none⟩)) (.agg l.toArray) h=vf h b off l:=qP (by kernel_rfl) b off l h hv
theorem P0 (b off:Nat) (v:Int) (h:za):zl Tryz.prog 2 (.pointer (some ⟨b,off,none⟩)) (.int .i64 v) h=vf h b off [(.int .i64 v)]:=uI (by kernel_rfl) b off _ h rfl
theorem Oh (b off:Nat) (v:Option Addr) (vl vc:Nat) (h:za):zl Tryz.prog 22 (.pointer (some ⟨b,off,none⟩)) (.slice v vl vc) h=vf h b off [(.slice v vl vc)]:=uI (by kernel_rfl) b off _ h rfl
theorem Wx (b off:Nat) (v:Int) (h:za):zl Tryz.prog 3 (.pointer (some ⟨b,off,none⟩)) (.int .i64 v) h=vf h b off [(.int .i64 v)]:=uI (by kernel_rfl) b off _ h rfl
theorem Oi (b off:Nat) (v:Option Addr) (vl vc:Nat) (h:za):zl Tryz.prog 30 (.pointer (some ⟨b,off,none⟩)) (.slice v vl vc) h=vf h b off [(.slice v vl vc)]:=uI (by kernel_rfl) b off _ h rfl
theorem Oj (b off:Nat) (v:Option Addr) (vl vc:Nat) (h:za):zl Tryz.prog 31 (.pointer (some ⟨b,off,none⟩)) (.slice v vl vc) h=vf h b off [(.slice v vl vc)]:=uI (by kernel_rfl) b off _ h rfl
theorem UJ (b off:Nat) (l:List Value) (h:za) (hv:l.length=5):zl Tryz.prog 33 (.pointer (some ⟨b,off,none⟩)) (.agg l.toArray) h=vf h b off l:=qP (by kernel_rfl) b off l h hv
theorem Iu (b off:Nat) (v:Bool) (h:za):zl Tryz.prog 4 (.pointer (some ⟨b,off,none⟩)) (.bool v) h=vf h b off [(.bool v)]:=uI (by kernel_rfl) b off _ h rfl
theorem CZ (b off:Nat) (l:List Value) (h:za) (hv:l.length=2):zl Tryz.prog 47 (.pointer (some ⟨b,off,none⟩)) (.agg l.toArray) h=vf h b off l:=qP (by kernel_rfl) b off l h hv
theorem nk (b off:Nat) (l:List Value) (h:za) (hv:l.length=7):zl Tryz.prog 50 (.pointer (some ⟨b,off,none⟩)) (.agg l.toArray) h=vf h b off l:=qP (by kernel_rfl) b off l h hv
theorem zL (b off:Nat) (l:List Value) (h:za) (hv:l.length=3):zl Tryz.prog 64 (.pointer (some ⟨b,off,none⟩)) (.agg l.toArray) h=vf h b off l:=qP (by kernel_rfl) b off l h hv
theorem MJ:wY Tryz.prog 130=some (.agg #[(.int .i64 0),(.int .i64 0),(.int .i64 0),(.int .i64 0),(.int .i64 0),(.int .i64 0)]):=zH (by kernel_rfl)
theorem KA:wY Tryz.prog 33=some (.agg #[(.int .i64 0),(.int .i64 0),(.slice none 0 0),(.slice none 0 0),(.int .i64 0)]):=zH (by kernel_rfl)
theorem C1:wY Tryz.prog 47=some (.agg #[(.string ⟨#[]⟩),(.slice none 0 0)]):=zH (by kernel_rfl)
theorem nq:wY Tryz.prog 50=some (.agg #[(.int .i64 0),(.int .i64 0),(.int .i64 0),(.int .i64 0),(.int .i64 0),(.int .i64 0),(.int .i64 0)]):=zH (by kernel_rfl)
theorem vG:wY Tryz.prog 64=some (.agg #[(.int .i64 0),(.int .i64 0),(.int .i64 0)]):=zH (by kernel_rfl)
theorem GG (v0:Int):xo Tryz.prog 134 [(0,(.int .i64 v0))]=some (.agg #[(.int .i64 v0),(.int .i64 0),(.int .i64 0),(.int .i64 0),(.int .i64 0),(.int .i64 0),(.int .i64 0)]):=zH (by kernel_rfl)
theorem ML:xo Tryz.prog 33 []=some (.agg #[(.int .i64 0),(.int .i64 0),(.slice none 0 0),(.slice none 0 0),(.int .i64 0)]):=zH (by kernel_rfl)
theorem sQ (v0:Int) (v1:Int) (v2:Int):xo Tryz.prog 80 [(0,(.int .i64 v0)),(1,(.int .i64 v1)),(2,(.int .i64 v2))]=some (.agg #[(.int .i64 v0),(.int .i64 v1),(.int .i64 v2)]):=zH (by kernel_rfl)
theorem Er (v0:Int) (v1:Int):xo Tryz.prog 85 [(0,(.int .i64 v0)),(1,(.int .i64 v1))]=some (.agg #[(.int .i64 v0),(.int .i64 v1)]):=zH (by kernel_rfl)
theorem BE (v0:Option Nat) (h:za):xU Tryz.prog 103 1 [(0,(.map v0))] h=some (.slice (some ⟨h.next,0,none⟩) 1 3,h.push (.cells [(.map v0)] 129)):=zH (by kernel_rfl)
theorem BF (v00:Int) (v01:Int) (v02:Int) (v03:Int) (v040:Int) (v041:Int) (v042:Int) (h:za):xU Tryz.prog 106 1 [(0,(.agg #[(.int .i64 v00),(.int .i64 v01),(.int .i64 v02),(.int .i64 v03),(.int .i64 v040),(.int .i64 v041),(.int .i64 v042)]))] h=some (.slice (some ⟨h.next,0,none⟩) 1 3,h.push (.cells [(.int .i64 v00),(.int .i64 v01),(.int .i64 v02),(.int .i64 v03),(.int .i64 v040),(.int .i64 v041),(.int .i64 v042)] 134)):=zH (by kernel_rfl)
theorem Eu (v0:Int) (h:za):xU Tryz.prog 22 1 [(0,(.int .i64 v0))] h=some (.slice (some ⟨h.next,0,none⟩) 1 3,h.push (.cells [(.int .i64 v0)] 3)):=zH (by kernel_rfl)
theorem Ev (v00:Int) (v01:Int) (h:za):xU Tryz.prog 30 1 [(0,(.agg #[(.int .i64 v00),(.int .i64 v01)]))] h=some (.slice (some ⟨h.next,0,none⟩) 1 3,h.push (.cells [(.int .i64 v00),(.int .i64 v01)] 85)):=zH (by kernel_rfl)
theorem Ew (v00:Int) (v01:Int) (v02:Int) (h:za):xU Tryz.prog 31 1 [(0,(.agg #[(.int .i64 v00),(.int .i64 v01),(.int .i64 v02)]))] h=some (.slice (some ⟨h.next,0,none⟩) 1 3,h.push (.cells [(.int .i64 v00),(.int .i64 v01),(.int .i64 v02)] 80)):=zH (by kernel_rfl)
theorem Z4 (n:Int) (h:za):u5 Tryz.prog 21 2 (.int .i32 n) h=some (.int .i64 (IntKind.wrap .i64 n),h):=zH (by kernel_rfl)
theorem eJ (n:Int) (h:za):u5 Tryz.prog 2 21 (.int .i64 n) h=some (.int .i32 (IntKind.wrap .i32 n),h):=zH (by kernel_rfl)
theorem tn (b off:Nat):zb Tryz.prog 108 (.pointer (some ⟨b,off,none⟩)) 0=some (.pointer (some ⟨b,off,none⟩)):=zH (by kernel_rfl)
theorem gU (b off:Nat):zb Tryz.prog 108 (.pointer (some ⟨b,off,none⟩)) 1=some (.pointer (some ⟨b,off + 4,none⟩)):=zH (by kernel_rfl)
theorem Q4 (b off:Nat):zb Tryz.prog 108 (.pointer (some ⟨b,off,none⟩)) 10=some (.pointer (some ⟨b,off + 66,none⟩)):=zH (by kernel_rfl)
theorem VI (b off:Nat):zb Tryz.prog 108 (.pointer (some ⟨b,off,none⟩)) 11=some (.pointer (some ⟨b,off + 69,none⟩)):=zH (by kernel_rfl)
theorem nE (b off:Nat):zb Tryz.prog 108 (.pointer (some ⟨b,off,none⟩)) 12=some (.pointer (some ⟨b,off + 70,none⟩)):=zH (by kernel_rfl)
theorem nF (b off:Nat):zb Tryz.prog 108 (.pointer (some ⟨b,off,none⟩)) 13=some (.pointer (some ⟨b,off + 71,none⟩)):=zH (by kernel_rfl)
theorem VJ (b off:Nat):zb Tryz.prog 108 (.pointer (some ⟨b,off,none⟩)) 2=some (.pointer (some ⟨b,off + 5,none⟩)):=zH (by kernel_rfl)
theorem G4 (b off:Nat):zb Tryz.prog 108 (.pointer (some ⟨b,off,none⟩)) 3=some (.pointer (some ⟨b,off + 6,none⟩)):=zH (by kernel_rfl)
theorem jZ (b off:Nat):zb Tryz.prog 108 (.pointer (some ⟨b,off,none⟩)) 4=some (.pointer (some ⟨b,off + 7,none⟩)):=zH (by kernel_rfl)
theorem tp (b off:Nat):zb Tryz.prog 108 (.pointer (some ⟨b,off,none⟩)) 5=some (.pointer (some ⟨b,off + 12,none⟩)):=zH (by kernel_rfl)
theorem JZ (b off:Nat):zb Tryz.prog 108 (.pointer (some ⟨b,off,none⟩)) 6=some (.pointer (some ⟨b,off + 13,none⟩)):=zH (by kernel_rfl)
theorem xV (b off:Nat):zb Tryz.prog 108 (.pointer (some ⟨b,off,none⟩)) 7=some (.pointer (some ⟨b,off + 14,none⟩)):=zH (by kernel_rfl)
theorem XM (b off:Nat):zb Tryz.prog 108 (.pointer (some ⟨b,off,none⟩)) 8=some (.pointer (some ⟨b,off + 62,none⟩)):=zH (by kernel_rfl)
theorem J0 (b off:Nat):zb Tryz.prog 108 (.pointer (some ⟨b,off,none⟩)) 9=some (.pointer (some ⟨b,off + 63,none⟩)):=zH (by kernel_rfl)
theorem gV (b off:Nat):zb Tryz.prog 134 (.pointer (some ⟨b,off,none⟩)) 0=some (.pointer (some ⟨b,off,none⟩)):=zH (by kernel_rfl)
theorem VL (b off:Nat):zb Tryz.prog 134 (.pointer (some ⟨b,off,none⟩)) 1=some (.pointer (some ⟨b,off + 1,none⟩)):=zH (by kernel_rfl)
theorem WC (b off:Nat):zb Tryz.prog 134 (.pointer (some ⟨b,off,none⟩)) 2=some (.pointer (some ⟨b,off + 2,none⟩)):=zH (by kernel_rfl)
theorem J1 (b off:Nat):zb Tryz.prog 134 (.pointer (some ⟨b,off,none⟩)) 3=some (.pointer (some ⟨b,off + 3,none⟩)):=zH (by kernel_rfl)
theorem tt (b off:Nat):zb Tryz.prog 134 (.pointer (some ⟨b,off,none⟩)) 4=some (.pointer (some ⟨b,off + 4,none⟩)):=zH (by kernel_rfl)
theorem w5 (b off:Nat):zb Tryz.prog 25 (.pointer (some ⟨b,off,none⟩)) 0=some (.pointer (some ⟨b,off,none⟩)):=zH (by kernel_rfl)
theorem wF (b off:Nat):zb Tryz.prog 25 (.pointer (some ⟨b,off,none⟩)) 1=some (.pointer (some ⟨b,off + 1,none⟩)):=zH (by kernel_rfl)
theorem j7 (b off:Nat):zb Tryz.prog 25 (.pointer (some ⟨b,off,none⟩)) 2=some (.pointer (some ⟨b,off + 2,none⟩)):=zH (by kernel_rfl)
theorem ZJ (b off:Nat):zb Tryz.prog 25 (.pointer (some ⟨b,off,none⟩)) 3=some (.pointer (some ⟨b,off + 3,none⟩)):=zH (by kernel_rfl)
theorem YL (b off:Nat):zb Tryz.prog 33 (.pointer (some ⟨b,off,none⟩)) 0=some (.pointer (some ⟨b,off,none⟩)):=zH (by kernel_rfl)
theorem ph (b off:Nat):zb Tryz.prog 33 (.pointer (some ⟨b,off,none⟩)) 1=some (.pointer (some ⟨b,off + 1,none⟩)):=zH (by kernel_rfl)
theorem eL (b off:Nat):zb Tryz.prog 33 (.pointer (some ⟨b,off,none⟩)) 2=some (.pointer (some ⟨b,off + 2,none⟩)):=zH (by kernel_rfl)
theorem Q5 (b off:Nat):zb Tryz.prog 33 (.pointer (some ⟨b,off,none⟩)) 3=some (.pointer (some ⟨b,off + 3,none⟩)):=zH (by kernel_rfl)
theorem C9 (b off:Nat):zb Tryz.prog 33 (.pointer (some ⟨b,off,none⟩)) 4=some (.pointer (some ⟨b,off + 4,none⟩)):=zH (by kernel_rfl)
theorem u7 (b off:Nat):zb Tryz.prog 47 (.pointer (some ⟨b,off,none⟩)) 1=some (.pointer (some ⟨b,off + 1,none⟩)):=zH (by kernel_rfl)
theorem zg (b off:Nat):zb Tryz.prog 50 (.pointer (some ⟨b,off,none⟩)) 0=some (.pointer (some ⟨b,off,none⟩)):=zH (by kernel_rfl)
theorem wG (b off:Nat):zb Tryz.prog 50 (.pointer (some ⟨b,off,none⟩)) 1=some (.pointer (some ⟨b,off + 1,none⟩)):=zH (by kernel_rfl)
theorem xJ (b off:Nat):zb Tryz.prog 50 (.pointer (some ⟨b,off,none⟩)) 2=some (.pointer (some ⟨b,off + 2,none⟩)):=zH (by kernel_rfl)
theorem zD (b off:Nat):zb Tryz.prog 50 (.pointer (some ⟨b,off,none⟩)) 3=some (.pointer (some ⟨b,off + 3,none⟩)):=zH (by kernel_rfl)
theorem Up (b off:Nat):zb Tryz.prog 50 (.pointer (some ⟨b,off,none⟩)) 4=some (.pointer (some ⟨b,off + 4,none⟩)):=zH (by kernel_rfl)
theorem vB (b off:Nat):zb Tryz.prog 50 (.pointer (some ⟨b,off,none⟩)) 5=some (.pointer (some ⟨b,off + 5,none⟩)):=zH (by kernel_rfl)
theorem zQ (b off:Nat):zb Tryz.prog 50 (.pointer (some ⟨b,off,none⟩)) 6=some (.pointer (some ⟨b,off + 6,none⟩)):=zH (by kernel_rfl)
theorem wm (b off:Nat):zb Tryz.prog 64 (.pointer (some ⟨b,off,none⟩)) 0=some (.pointer (some ⟨b,off,none⟩)):=zH (by kernel_rfl)
theorem wi (b off:Nat):zb Tryz.prog 64 (.pointer (some ⟨b,off,none⟩)) 1=some (.pointer (some ⟨b,off + 1,none⟩)):=zH (by kernel_rfl)
theorem uB (b off:Nat):zb Tryz.prog 64 (.pointer (some ⟨b,off,none⟩)) 2=some (.pointer (some ⟨b,off + 2,none⟩)):=zH (by kernel_rfl)
theorem M7 (b off len c:Nat) (k:IntKind) (i:Int):zA Tryz.prog 103 (.slice (some ⟨b,off,none⟩) len c) (.int k i)=if 0<=i/\i < len then some (.pointer (some ⟨b,off + i.toNat * 1,none⟩)) else none:=wk (e:=129) (by kernel_rfl) (by kernel_rfl)
theorem M8 (b off len c:Nat) (k:IntKind) (i:Int):zA Tryz.prog 106 (.slice (some ⟨b,off,none⟩) len c) (.int k i)=if 0<=i/\i < len then some (.pointer (some ⟨b,off + i.toNat * 7,none⟩)) else none:=wk (e:=134) (by kernel_rfl) (by kernel_rfl)
theorem M9 (b off:Nat) (k:IntKind) (i:Int):zA Tryz.prog 130 (.pointer (some ⟨b,off,none⟩)) (.int k i)=if 0<=i/\i < 6 then some (.pointer (some ⟨b,off + i.toNat * 1,none⟩)) else none:=Ud (e:=3) (len:=6) (by kernel_rfl) (by kernel_rfl)
theorem Hh (b off len c:Nat) (k:IntKind) (i:Int):zA Tryz.prog 22 (.slice (some ⟨b,off,none⟩) len c) (.int k i)=if 0<=i/\i < len then some (.pointer (some ⟨b,off + i.toNat * 1,none⟩)) else none:=wk (e:=3) (by kernel_rfl) (by kernel_rfl)
theorem Hi (b off len c:Nat) (k:IntKind) (i:Int):zA Tryz.prog 23 (.slice (some ⟨b,off,none⟩) len c) (.int k i)=if 0<=i/\i < len then some (.pointer (some ⟨b,off + i.toNat * 2,none⟩)) else none:=wk (e:=47) (by kernel_rfl) (by kernel_rfl)
theorem Hj (b off len c:Nat) (k:IntKind) (i:Int):zA Tryz.prog 26 (.slice (some ⟨b,off,none⟩) len c) (.int k i)=if 0<=i/\i < len then some (.pointer (some ⟨b,off + i.toNat * 1,none⟩)) else none:=wk (e:=2) (by kernel_rfl) (by kernel_rfl)
theorem Hk (b off len c:Nat) (k:IntKind) (i:Int):zA Tryz.prog 45 (.slice (some ⟨b,off,none⟩) len c) (.int k i)=if 0<=i/\i < len then some (.pointer (some ⟨b,off + i.toNat * 7,none⟩)) else none:=wk (e:=50) (by kernel_rfl) (by kernel_rfl)
theorem qD (b off:Nat) (k:IntKind) (i:Int):zA Tryz.prog 65 (.pointer (some ⟨b,off,none⟩)) (.int k i)=if 0<=i/\i < 16 then some (.pointer (some ⟨b,off + i.toNat * 3,none⟩)) else none:=Ud (e:=64) (len:=16) (by kernel_rfl) (by kernel_rfl)
theorem pF (r:TypeId) (a:Option Addr) (n c:Nat) (h:za):zn Tryz.prog .len [106] r [.slice a n c] h=some (.int .i64 n,h):=zH (by kernel_rfl)
theorem pG (r:TypeId) (a:Option Addr) (n c:Nat) (h:za):zn Tryz.prog .len [22] r [.slice a n c] h=some (.int .i64 n,h):=zH (by kernel_rfl)
theorem pH (r:TypeId) (a:Option Addr) (n c:Nat) (h:za):zn Tryz.prog .len [23] r [.slice a n c] h=some (.int .i64 n,h):=zH (by kernel_rfl)
theorem iz (r:TypeId) (a:Option Addr) (n c:Nat) (h:za):zn Tryz.prog .len [26] r [.slice a n c] h=some (.int .i64 n,h):=zH (by kernel_rfl)
theorem pI (r:TypeId) (a:Option Addr) (n c:Nat) (h:za):zn Tryz.prog .len [45] r [.slice a n c] h=some (.int .i64 n,h):=zH (by kernel_rfl)
theorem Hv (x y:Operand) (a0:Int) (a1:Int) (a2:Int) (b0:Int) (b1:Int) (b2:Int):ze Tryz.prog .neq 64 x y (.agg #[(.int .i64 a0),(.int .i64 a1),(.int .i64 a2)]) (.agg #[(.int .i64 b0),(.int .i64 b1),(.int .i64 b2)])=some (.bool (!((a0 == b0) && ((a1 == b1) && ((a2 == b2)))))):=(YH (fs:=Qf) (r:=(a0 == b0) && ((a1 == b1) && ((a2 == b2)))) (by kernel_rfl) (by kernel_rfl) (by kernel_rfl) rfl rfl (Eq.trans (b:=(cond (a0 == b0) (cond (a1 == b1) (cond (a2 == b2) (some true) (some false)) (some false)) (some false))) (by kernel_rfl) (by cases (a0 == b0) <;> cases (a1 == b1) <;> cases (a2 == b2) <;> rfl))).2
theorem NG (b off len c:Nat) (lo hi:Option Value) (h:za):GC Tryz.prog 106 (.slice (some ⟨b,off,none⟩) len c) lo hi h=(qz hi len len).bind fun hh=>(qz lo 0 hh).bind fun l=>some (.slice (some ⟨b,off + l * 7,none⟩) (hh - l) (cond (wide Tryz.prog h b 7) (K8 c l) 0)):=Ei (e:=134) (by kernel_rfl) (by kernel_rfl)
end Go.As
namespace Go.Rm
open Go.Ai Go.Proofs Go.Proofs.Tryz
noncomputable abbrev zz:=prog
abbrev VK:=Value->za->Prop
abbrev LK:=List Value->za->Prop
abbrev ci (n:Int):Operand := .const (.int .i64 n)
abbrev fn (n:Nat):Value := .func (.func n) #[] #[]
variable {h:za} {t0 t1 t2 t3 t4 t5 t6:Value} {R:VK}
def qs:FuncId->Nat:=fun g=>[0,0,0,0,0,0,0,0,0,0,0,0,0,0,0,0,0,0,0,0,0,0,0,0,0,0,0,0,0,0,0,0,0,0,0,0,0,0,0,0,0,0,0,0,0,0,0,0,0,0,0,0,0,0,0,0,0,0,0,0,3,3,0,0,2,0,0,0,0,0,0,0,0,0,0,0,0,0,0,0,0,0,0,0,0,0,0,2,0,0,0,2,0,0,0,0,0,0,0,0,0,0,0,0,0,0,0,0,0,2].getD g 0
theorem mixed:prog.follows .mixedOrders=true:=aau Tryz.checked
theorem qQ {f:FuncId} {args:List Value} {X:Prop} (e:WT zz (v7 zz qs) 200 f args h R=X) (hw:X):DC zz f args h R:=yP mixed (q:=qs) (n:=200) (Eq.mpr e hw)
def FL:=fun a (d:za) (R:VK) (f:LK)=>
 opt (nb [] (xo zz 64 [])) fun b=>opt (nb [b] (zl zz 64 a b d)) fun c=>opt (zd zz 64 a c) fun e=>rv [e,.bool false] c R
def FM:=fun g (a:za) b (R:VK) (n:LK)=>
 opt (zb zz 64 g 1) fun h=>opt (zd zz 2 h a) fun c=>xZ (nb [c] (u5 zz 2 21 c a)) fun d i=>xZ (nb [d] (u5 zz 21 2 d i)) fun j k=>zO zz (fn 64) [j] k (fun e l=>opt (nb [e] (zl zz 64 b e l)) fun f=>opt (zd zz 64 b f) fun m=>rv [m,.bool true] f R)
def FO:=fun g (a:za) b (R:VK) (n:LK)=>
 opt (zb zz 64 g 1) fun h=>opt (zd zz 2 h a) fun c=>xZ (nb [c] (u5 zz 2 196 c a)) fun d i=>xZ (nb [d] (u5 zz 196 2 d i)) fun j k=>zO zz (fn 64) [j] k (fun e l=>opt (nb [e] (zl zz 64 b e l)) fun f=>opt (zd zz 64 b f) fun m=>rv [m,.bool true] f R)
def AO:=fun a c (b:za) d (R:VK) e (f:LK)=>
 opt (nb [a,.int .i64 4] (ze zz .eql 3 (.tmp 10) (.const (.int .i64 4)) a (.int .i64 4))) fun g=>CD g (FM c b d R)
 (fun h=>h [nth e 0] b)
 (fun i j=>f [nth i 0] j)
def FP:=fun e (a:za) b (R:VK) (k:LK)=>
 opt (zb zz 64 e 1) fun f=>opt (zd zz 2 f a) fun g=>opt (JR zz .xor g) fun h=>zO zz (fn 64) [h] a (fun c i=>opt (nb [c] (zl zz 64 b c i)) fun d=>opt (zd zz 64 b d) fun j=>rv [j,.bool true] d R)
def og:=fun a b (c:za) d (R:VK) e (f:LK)=>
 opt (nb [a,.int .i64 3] (ze zz .eql 3 (.tmp 10) (.const (.int .i64 3)) a (.int .i64 3))) fun g=>CD g (FO b c d R)
 (AO a b c d R e)
 (fun h i=>f [nth h 0] i)
def FQ:=fun e (a:za) b (R:VK) (k:LK)=>
 opt (zb zz 64 e 1) fun f=>opt (zd zz 2 f a) fun g=>opt (JR zz .neg g) fun h=>zO zz (fn 64) [h] a (fun c i=>opt (nb [c] (zl zz 64 b c i)) fun d=>opt (zd zz 64 b d) fun j=>rv [j,.bool true] d R)
def fo:=fun a b (c:za) d (R:VK) e (f:LK)=>
 opt (nb [a,.int .i64 2] (ze zz .eql 3 (.tmp 10) (.const (.int .i64 2)) a (.int .i64 2))) fun g=>CD g (FP b c d R)
 (og a b c d R e)
 (fun h i=>f [nth h 0] i)
def bB:=fun a b (c:za) d (R:VK) e (f:LK)=>
 opt (nb [a,.int .i64 1] (ze zz .eql 3 (.tmp 10) (ci 1) a (.int .i64 1))) fun g=>CD g (FQ b c d R)
 (fo a b c d R e)
 (fun h i=>f [nth h 0] i)
def CM:=fun a (R:VK) (f:List Value) (d:za)=>
 opt (nb [] (xo zz 64 [])) fun b=>opt (nb [b] (zl zz 64 a b d)) fun c=>opt (zd zz 64 a c) fun e=>rv [e,.bool false] c R
def N6:=fun (h:za) f b (R:VK)=>
 opt (nb [b] (some (Value.cells b).toList)) fun g=>nw h g 64 fun c i=>opt (wY zz 64) fun j=>nw i (Value.cells j).toList 64 fun a d=>opt (zd zz 64 c d) fun k=>zO zz (fn 110) [k] d (fun l e=>opt (JR zz .not l) fun m=>CD m (FL a e R)
 (fun n=>n [.bool false] e)
 (fun o p=>BK (bB f c p a R o)
 (CM a R)))
theorem Il (hw:N6 h t0 t1 R):DC zz 109 [t0,t1] h R:=qQ (by kernel_rfl) hw
def QB:=fun a (R:VK) b (e:za)=>
 opt (YW b 0) fun c=>opt (YW b 1) fun f=>opt (nb [c] (zl zz 64 a c e)) fun d=>opt (zd zz 64 a d) fun g=>rv [g,f] d R
def q9:=fun a (R:VK) b (e:za)=>
 opt (YW b 0) fun c=>opt (YW b 1) fun f=>opt (nb [c] (zl zz 64 a c e)) fun d=>opt (zd zz 64 a d) fun g=>rv [g,f] d R
def wa:=fun c d e f g (R:VK) (h:LK) i (a:za)=>
 opt (pk c (.bool true) i) fun j=>CD j (fun b=>opt (zd zz 64 d a) fun k=>opt (zd zz 64 e a) fun l=>zO zz (fn 113) [f,k,l] a (q9 g R))
 (fun b=>b [.bool false] a)
 (fun m n=>h [nth m 0] n)
def wg:=fun a d e f g (R:VK) (h:LK) b (c:za)=>
 GD a false (fun i=>opt (nb [b,.int .i64 22] (ze zz .eql 3 (.tmp 84) (.const (.int .i64 22)) b (.int .i64 22))) fun j=>i j c) (wa a d e f g R h) c
def CK:=fun b (a:za) h c (R:VK) (p:LK)=>
 opt (zb zz 64 b 2) fun i=>opt (zd zz 3 i a) fun j=>opt (zb zz 64 b 1) fun k=>opt (zd zz 2 k a) fun d=>opt (zb zz 64 h 1) fun l=>opt (zd zz 2 l a) fun e=>opt (nb [d,e] (ze zz .sub 2 (.tmp 75) (.tmp 77) d e)) fun m=>zO zz (fn 87) [j,m] a (fun f n=>opt (nb [f] (zl zz 64 c f n)) fun g=>opt (zd zz 64 c g) fun o=>rv [o,.bool true] g R)
def wh:=fun a (b:za) d e f (R:VK) (g:LK)=>
 opt (nb [a,.int .i64 21] (ze zz .eql 3 (.tmp 81) (.const (.int .i64 21)) a (.int .i64 21))) fun c=>GD c false (fun h=>h a b) (wg c d e a f R g) b
def xN:=fun b c d e (R:VK) h (i:LK) j (f:za)=>
 GD b true (fun k=>zO zz (fn 110) [j] f (fun a l=>k a l)) (fun a g=>opt (pk b a (.bool false)) fun m=>CD m (CK c g d e R)
 (wh h g c d e R)
 (fun n o=>i [nth n 0] o)) f
def xO:=fun c d g h (R:VK) i (j:LK) k (e:za)=>
 GD c true (fun l=>zO zz (fn 112) [k] e (fun a m=>l a m)) (fun a b=>opt (pk c a (.bool false)) fun f=>GD f true (fun n=>opt (zd zz 64 d b) fun o=>n o b) (xN f g d h R i j) b) e
def CL:=fun b (a:za) h c (R:VK) (p:LK)=>
 opt (zb zz 64 b 2) fun i=>opt (zd zz 3 i a) fun j=>opt (zb zz 64 h 1) fun k=>opt (zd zz 2 k a) fun d=>opt (zb zz 64 b 1) fun l=>opt (zd zz 2 l a) fun e=>opt (nb [d,e] (ze zz .add 2 (.tmp 56) (.tmp 58) d e)) fun m=>zO zz (fn 87) [j,m] a (fun f n=>opt (nb [f] (zl zz 64 c f n)) fun g=>opt (zd zz 64 c g) fun o=>rv [o,.bool true] g R)
def yH:=fun a c (b:za) e f (R:VK) (g:LK)=>
 opt (nb [a,.int .i64 12] (ze zz .eql 3 (.tmp 62) (.const (.int .i64 12)) a (.int .i64 12))) fun d=>GD d true (fun h=>opt (zd zz 64 c b) fun i=>h i b) (xO d e c f R a g) b
def yA:=fun b c d e (R:VK) h (i:LK) j (f:za)=>
 GD b true (fun k=>zO zz (fn 112) [j] f (fun a l=>k a l)) (fun a g=>opt (pk b a (.bool false)) fun m=>CD m (CL c g d e R)
 (yH h d g c e R)
 (fun n o=>i [nth n 0] o)) f
def yB:=fun c d g h (R:VK) i (j:LK) k (e:za)=>
 GD c true (fun l=>zO zz (fn 110) [k] e (fun a m=>l a m)) (fun a b=>opt (pk c a (.bool false)) fun f=>GD f true (fun n=>opt (zd zz 64 d b) fun o=>n o b) (yA f d g h R i j) b) e
def rj:=fun b (a:za) h c (R:VK) (p:LK)=>
 opt (zb zz 64 b 2) fun i=>opt (zd zz 3 i a) fun j=>opt (zb zz 64 b 1) fun k=>opt (zd zz 2 k a) fun d=>opt (zb zz 64 h 1) fun l=>opt (zd zz 2 l a) fun e=>opt (nb [d,e] (ze zz .add 2 (.tmp 37) (.tmp 39) d e)) fun m=>zO zz (fn 87) [j,m] a (fun f n=>opt (nb [f] (zl zz 64 c f n)) fun g=>opt (zd zz 64 c g) fun o=>rv [o,.bool true] g R)
def yC:=fun a c (b:za) e f (R:VK) (g:LK)=>
 opt (nb [a,.int .i64 11] (ze zz .eql 3 (.tmp 43) (.const (.int .i64 11)) a (.int .i64 11))) fun d=>GD d true (fun h=>opt (zd zz 64 c b) fun i=>h i b) (yB d e c f R a g) b
def yx:=fun b c d e (R:VK) h (i:LK) j (f:za)=>
 GD b true (fun k=>zO zz (fn 110) [j] f (fun a l=>k a l)) (fun a g=>opt (pk b a (.bool false)) fun m=>CD m (rj c g d e R)
 (yC h c g d e R)
 (fun n o=>i [nth n 0] o)) f
def yy:=fun c d g h (R:VK) i (j:LK) k (e:za)=>
 GD c true (fun l=>zO zz (fn 112) [k] e (fun a m=>l a m)) (fun a b=>opt (pk c a (.bool false)) fun f=>GD f true (fun n=>opt (zd zz 64 d b) fun o=>n o b) (yx f g d h R i j) b) e
def Vw:=fun b (a:za) c d e (R:VK) (j:LK)=>
 opt (zb zz 64 b 1) fun f=>opt (zd zz 2 f a) fun g=>opt (zb zz 64 c 1) fun h=>opt (zd zz 2 h a) fun i=>zO zz (fn 111) [d,g,i] a (QB e R)
def yz:=fun a c (b:za) e f (R:VK) (g:LK)=>
 opt (nb [a,.int .i64 11] (ze zz .eql 3 (.tmp 24) (.const (.int .i64 11)) a (.int .i64 11))) fun d=>GD d true (fun h=>opt (zd zz 64 c b) fun i=>h i b) (yy d e c f R a g) b
def yf:=fun b c d e f (R:VK) (i:LK) j (g:za)=>
 GD b true (fun k=>zO zz (fn 110) [j] g (fun a l=>k a l)) (fun a h=>opt (pk b a (.bool false)) fun m=>CD m (Vw c h d e f R)
 (yz e c h d f R)
 (fun n o=>i [nth n 0] o)) g
def rk:=fun b (c:za) d f g (R:VK) (h:LK)=>
 opt (zd zz 64 b c) fun i=>zO zz (fn 110) [i] c (fun e a=>GD e true (fun j=>opt (zd zz 64 d a) fun k=>j k a) (yf e b d f g R h) a)
def vK:=fun a (R:VK) (f:List Value) (d:za)=>
 opt (nb [] (xo zz 64 [])) fun b=>opt (nb [b] (zl zz 64 a b d)) fun c=>opt (zd zz 64 a c) fun e=>rv [e,.bool false] c R
def LO:=fun (h:za) d a b (R:VK)=>
 opt (nb [a] (some (Value.cells a).toList)) fun e=>nw h e 64 fun f g=>opt (nb [b] (some (Value.cells b).toList)) fun i=>nw g i 64 fun j k=>opt (wY zz 64) fun l=>nw k (Value.cells l).toList 64 fun c m=>BK (rk f m j d c R)
 (vK c R)
theorem FG (hw:LO h t0 t1 t2 R):DC zz 91 [t0,t1,t2] h R:=qQ (by kernel_rfl) hw
def CT:=fun a b c (R:VK) (h:List Value) (f:za)=>
 opt (nb [.int .i64 2,a,b] (xo zz 64 [(0,(.int .i64 2)),(1,a),(2,b)])) fun d=>opt (nb [d] (zl zz 64 c d f)) fun e=>opt (zd zz 64 c e) fun g=>rv [g] e R
def LQ:=fun (h:za) a g (R:VK)=>
 opt (wY zz 64) fun i=>nw h (Value.cells i).toList 64 fun b c=>opt (nb [a,.int .i64 1] (ze zz .lss 3 (.tmp 5) (ci 1) a (.int .i64 1))) fun j=>CD j (fun d=>opt (nb [] (xo zz 64 [])) fun e=>opt (nb [e] (zl zz 64 b e c)) fun f=>opt (zd zz 64 b f) fun k=>rv [k] f R)
 (fun d=>d [] c)
 (CT g a b R)
theorem Gb (hw:LQ h t0 t1 R):DC zz 87 [t0,t1] h R:=qQ (by kernel_rfl) hw
def rD:=fun b (R:VK) (l:List Value) (a:za)=>
 opt (ve b) fun d=>opt (zb zz 151 d 0) fun e=>opt (zd zz 26 e a) fun f=>opt (ve b) fun g=>opt (zb zz 151 g 1) fun h=>opt (zd zz 3 h a) fun c=>opt (nb [c,.int .i64 1] (ze zz .sub 3 (.tmp 27) (ci 1) c (.int .i64 1))) fun i=>opt (zA zz 26 f i) fun j=>opt (zd zz 2 j a) fun k=>rv [k] a R
def FH:=fun (h:za) a (R:VK)=>
 opt (ve a) fun j=>opt (zb zz 151 j 1) fun k=>opt (zd zz 3 k h) fun c=>opt (nb [c,.int .i64 1] (ze zz .add 3 (.tmp 6) (ci 1) c (.int .i64 1))) fun d=>opt (ve a) fun l=>opt (zb zz 151 l 1) fun m=>opt (nb [d] (zl zz 3 m d h)) fun b=>opt (ve a) fun n=>opt (zb zz 151 n 1) fun o=>opt (zd zz 3 o b) fun e=>opt (ve a) fun p=>opt (zb zz 151 p 0) fun q=>opt (zd zz 26 q b) fun f=>xZ (nb [f] (zn zz .len [26] 3 [f] b)) fun g _=>opt (nb [e,g] (ze zz .gtr 3 (.tmp 13) (.tmp 18) e g)) fun r=>CD r (fun i=>rv [.int .i64 0] b R)
 (fun i=>i [.int .i64 0] b)
 (rD a R)
theorem DO (hw:FH h t0 R):DC zz 95 [t0] h R:=qQ (by kernel_rfl) hw
def bM:=fun b (R:VK) d (c:za)=>
 GD b true (fun e=>zO zz (fn 125) [d] c (fun a f=>e a f)) (fun a g=>opt (pk b a (.bool false)) fun h=>rv [h] g R) c
def CQ:=fun (h:za) b (R:VK)=>
 opt (nb [b] (some (Value.cells b).toList)) fun f=>nw h f 64 fun c a=>opt (zb zz 64 c 0) fun g=>opt (zd zz 3 g a) fun d=>opt (nb [d,.int .i64 1] (ze zz .eql 3 (.tmp 4) (ci 1) d (.int .i64 1))) fun e=>GD e true (fun i=>opt (zd zz 64 c a) fun j=>i j a) (bM e R) a
theorem A8 (hw:CQ h t0 R):DC zz 110 [t0] h R:=qQ (by kernel_rfl) hw
def bN:=fun b (R:VK) d (c:za)=>
 GD b true (fun e=>zO zz (fn 125) [d] c (fun a f=>e a f)) (fun a g=>opt (pk b a (.bool false)) fun h=>rv [h] g R) c
def CR:=fun (h:za) b (R:VK)=>
 opt (nb [b] (some (Value.cells b).toList)) fun f=>nw h f 64 fun c a=>opt (zb zz 64 c 0) fun g=>opt (zd zz 3 g a) fun d=>opt (nb [d,.int .i64 2] (ze zz .eql 3 (.tmp 4) (.const (.int .i64 2)) d (.int .i64 2))) fun e=>GD e true (fun i=>opt (zd zz 64 c a) fun j=>i j a) (bN e R) a
theorem A9 (hw:CR h t0 R):DC zz 112 [t0] h R:=qQ (by kernel_rfl) hw
def U4:=fun a (d:za) (R:VK) (f:LK)=>
 opt (nb [] (xo zz 64 [])) fun b=>opt (nb [b] (zl zz 64 a b d)) fun c=>opt (zd zz 64 a c) fun e=>rv [e,.bool false] c R
def fY:=fun a b (f:za) c (R:VK) (j:LK)=>
 opt (nb [a,b] (ze zz .quo 2 (.tmp 43) (.tmp 44) a b)) fun g=>zO zz (fn 64) [g] f (fun d h=>opt (nb [d] (zl zz 64 c d h)) fun e=>opt (zd zz 64 c e) fun i=>rv [i,.bool true] e R)
def fZ:=fun a b c (R:VK) (j:List Value) (f:za)=>
 opt (nb [a,b] (ze zz .rem 2 (.tmp 47) (.tmp 48) a b)) fun g=>zO zz (fn 64) [g] f (fun d h=>opt (nb [d] (zl zz 64 c d h)) fun e=>opt (zd zz 64 c e) fun i=>rv [i,.bool true] e R)
def U5:=fun a b c d (R:VK) f (e:za)=>
 opt (nb [a,.int .i64 14] (ze zz .eql 3 (.tmp 41) (.const (.int .i64 14)) a (.int .i64 14))) fun g=>CD g (fY b c e d R)
 (fun h=>h [nth f 0] e)
 (fZ b c d R)
def YE:=fun b f c (R:VK) g h i j (d:za)=>
 GD b false (fun k=>opt (pk f j (.bool false)) fun a=>k a d) (fun a e=>opt (pk b (.bool true) a) fun l=>CD l (U4 c e R)
 (fun m=>m [.bool false] e)
 (U5 g h i c R)) d
def YF:=fun a d e (R:VK) f g h b (c:za)=>
 GD a true (fun i=>opt (nb [b,.int .i64 (-1)] (ze zz .eql 2 (.tmp 36) (.const (.int .i64 (-1))) b (.int .i64 (-1)))) fun j=>i j c) (YE d a e R f g h) c
def YG:=fun a c i (R:VK) j k d (e:za)=>
 GD a false (fun l=>opt (nb [d,.int .i64 (-9223372036854775808)] (ze zz .eql 2 (.tmp 33) (.const (.int .i64 (-9223372036854775808))) d (.int .i64 (-9223372036854775808)))) fun b=>l b e) (fun b f=>GD a false (fun m=>m b f) (fun g h=>GD g true (fun n=>n c h) (YF g a i R j k c) h) f) e
def U6:=fun a (d:za) (R:VK) (f:LK)=>
 opt (nb [] (xo zz 64 [])) fun b=>opt (nb [b] (zl zz 64 a b d)) fun c=>opt (zd zz 64 a c) fun e=>rv [e,.bool false] c R
def rZ:=fun a b (f:za) c (R:VK) (j:LK)=>
 opt (nb [a,b] (ze zz .shl 2 (.tmp 81) (.tmp 82) a b)) fun g=>zO zz (fn 64) [g] f (fun d h=>opt (nb [d] (zl zz 64 c d h)) fun e=>opt (zd zz 64 c e) fun i=>rv [i,.bool true] e R)
def mj:=fun a b c (R:VK) (j:List Value) (f:za)=>
 opt (nb [a,b] (ze zz .shr 2 (.tmp 85) (.tmp 86) a b)) fun g=>zO zz (fn 64) [g] f (fun d h=>opt (nb [d] (zl zz 64 c d h)) fun e=>opt (zd zz 64 c e) fun i=>rv [i,.bool true] e R)
def bK:=fun a b c d (R:VK) f (e:za)=>
 opt (nb [a,.int .i64 19] (ze zz .eql 3 (.tmp 79) (.const (.int .i64 19)) a (.int .i64 19))) fun g=>CD g (rZ b c e d R)
 (fun h=>h [nth f 0] e)
 (mj b c d R)
def Y0:=fun b c (R:VK) g h i d (e:za)=>
 GD b false (fun j=>opt (nb [d,.int .i64 63] (ze zz .gtr 2 (.tmp 75) (.const (.int .i64 63)) d (.int .i64 63))) fun a=>j a e) (fun a f=>opt (pk b (.bool true) a) fun k=>CD k (U6 c f R)
 (fun l=>l [.bool false] f)
 (bK g h i c R)) e
def ml:=fun a b (f:za) c (R:VK) (j:LK)=>
 opt (nb [a,b] (ze zz .geq 2 (.tmp 121) (.tmp 122) a b)) fun g=>zO zz (fn 127) [g] f (fun d h=>opt (nb [d] (zl zz 64 c d h)) fun e=>opt (zd zz 64 c e) fun i=>rv [i,.bool true] e R)
def mm:=fun a b (f:za) c (R:VK) (j:LK)=>
 opt (nb [a,b] (ze zz .gtr 2 (.tmp 115) (.tmp 116) a b)) fun g=>zO zz (fn 127) [g] f (fun d h=>opt (nb [d] (zl zz 64 c d h)) fun e=>opt (zd zz 64 c e) fun i=>rv [i,.bool true] e R)
def bL:=fun a c d (b:za) e (R:VK) (f:LK)=>
 opt (nb [a,.int .i64 26] (ze zz .eql 3 (.tmp 8) (.const (.int .i64 26)) a (.int .i64 26))) fun g=>CD g (ml c d b e R)
 (fun h=>h [.bool false] b)
 (fun i j=>f [nth i 0] j)
def mq:=fun a b (f:za) c (R:VK) (j:LK)=>
 opt (nb [a,b] (ze zz .leq 2 (.tmp 109) (.tmp 110) a b)) fun g=>zO zz (fn 127) [g] f (fun d h=>opt (nb [d] (zl zz 64 c d h)) fun e=>opt (zd zz 64 c e) fun i=>rv [i,.bool true] e R)
def QS:=fun a b c (d:za) e (R:VK) (f:LK)=>
 opt (nb [a,.int .i64 25] (ze zz .eql 3 (.tmp 8) (.const (.int .i64 25)) a (.int .i64 25))) fun g=>CD g (mm b c d e R)
 (bL a b c d e R)
 (fun h i=>f [nth h 0] i)
def mr:=fun a b (f:za) c (R:VK) (j:LK)=>
 opt (nb [a,b] (ze zz .lss 2 (.tmp 103) (.tmp 104) a b)) fun g=>zO zz (fn 127) [g] f (fun d h=>opt (nb [d] (zl zz 64 c d h)) fun e=>opt (zd zz 64 c e) fun i=>rv [i,.bool true] e R)
def Vy:=fun a b c (d:za) e (R:VK) (f:LK)=>
 opt (nb [a,.int .i64 24] (ze zz .eql 3 (.tmp 8) (.const (.int .i64 24)) a (.int .i64 24))) fun g=>CD g (mq b c d e R)
 (QS a b c d e R)
 (fun h i=>f [nth h 0] i)
def mw:=fun a b (f:za) c (R:VK) (j:LK)=>
 opt (nb [a,b] (ze zz .neq 2 (.tmp 97) (.tmp 98) a b)) fun g=>zO zz (fn 127) [g] f (fun d h=>opt (nb [d] (zl zz 64 c d h)) fun e=>opt (zd zz 64 c e) fun i=>rv [i,.bool true] e R)
def Wh:=fun a b c (d:za) e (R:VK) (f:LK)=>
 opt (nb [a,.int .i64 23] (ze zz .eql 3 (.tmp 8) (.const (.int .i64 23)) a (.int .i64 23))) fun g=>CD g (mr b c d e R)
 (Vy a b c d e R)
 (fun h i=>f [nth h 0] i)
def mz:=fun a b (f:za) c (R:VK) (j:LK)=>
 opt (nb [a,b] (ze zz .eql 2 (.tmp 91) (.tmp 92) a b)) fun g=>zO zz (fn 127) [g] f (fun d h=>opt (nb [d] (zl zz 64 c d h)) fun e=>opt (zd zz 64 c e) fun i=>rv [i,.bool true] e R)
def Y3:=fun a b c (d:za) e (R:VK) (f:LK)=>
 opt (nb [a,.int .i64 22] (ze zz .eql 3 (.tmp 8) (.const (.int .i64 22)) a (.int .i64 22))) fun g=>CD g (mw b c d e R)
 (Wh a b c d e R)
 (fun h i=>f [nth h 0] i)
def Y4:=fun a (b:za) d (R:VK) e f (h:LK)=>
 opt (nb [a,.int .i64 0] (ze zz .lss 2 (.tmp 72) (ci 0) a (.int .i64 0))) fun c=>GD c false (fun g=>g a b) (Y0 c d R e f a) b
def Ys:=fun a b c (d:za) e (R:VK) (f:LK)=>
 opt (nb [a,.int .i64 21] (ze zz .eql 3 (.tmp 8) (.const (.int .i64 21)) a (.int .i64 21))) fun g=>CD g (mz b c d e R)
 (Y3 a b c d e R)
 (fun h i=>f [nth h 0] i)
def mA:=fun a b (f:za) c (R:VK) (j:LK)=>
 opt (nb [a,b] (ze zz .xor 2 (.tmp 65) (.tmp 66) a b)) fun g=>zO zz (fn 64) [g] f (fun d h=>opt (nb [d] (zl zz 64 c d h)) fun e=>opt (zd zz 64 c e) fun i=>rv [i,.bool true] e R)
def qf:=fun a (c:za) d e (R:VK) f (i:LK)=>
 opt (nb [a,.int .i64 19] (ze zz .eql 3 (.tmp 8) (.const (.int .i64 19)) a (.int .i64 19))) fun g=>CD g (fun b=>b [g] c)
 (fun b=>opt (nb [a,.int .i64 20] (ze zz .eql 3 (.tmp 8) (.const (.int .i64 20)) a (.int .i64 20))) fun j=>b [j] c)
 (fun k h=>CD (nth k 0) (Y4 d h e R a f)
 (Ys a f d h e R)
 (fun l m=>i [nth l 0] m))
def mB:=fun a b (f:za) c (R:VK) (j:LK)=>
 opt (nb [a,b] (ze zz .or 2 (.tmp 59) (.tmp 60) a b)) fun g=>zO zz (fn 64) [g] f (fun d h=>opt (nb [d] (zl zz 64 c d h)) fun e=>opt (zd zz 64 c e) fun i=>rv [i,.bool true] e R)
def uW:=fun a b c (d:za) e (R:VK) (f:LK)=>
 opt (nb [a,.int .i64 18] (ze zz .eql 3 (.tmp 8) (.const (.int .i64 18)) a (.int .i64 18))) fun g=>CD g (mA b c d e R)
 (qf a d c e R b)
 (fun h i=>f [nth h 0] i)
def mC:=fun a b (f:za) c (R:VK) (j:LK)=>
 opt (nb [a,b] (ze zz .and 2 (.tmp 53) (.tmp 54) a b)) fun g=>zO zz (fn 64) [g] f (fun d h=>opt (nb [d] (zl zz 64 c d h)) fun e=>opt (zd zz 64 c e) fun i=>rv [i,.bool true] e R)
def uN:=fun a b c (d:za) e (R:VK) (f:LK)=>
 opt (nb [a,.int .i64 17] (ze zz .eql 3 (.tmp 8) (.const (.int .i64 17)) a (.int .i64 17))) fun g=>CD g (mB b c d e R)
 (uW a b c d e R)
 (fun h i=>f [nth h 0] i)
def ZE:=fun a b (c:za) e (R:VK) f (h:LK)=>
 opt (nb [a,.int .i64 0] (ze zz .eql 2 (.tmp 30) (ci 0) a (.int .i64 0))) fun d=>GD d false (fun g=>g b c) (YG d a e R f b) c
def uq:=fun a b c (d:za) e (R:VK) (f:LK)=>
 opt (nb [a,.int .i64 16] (ze zz .eql 3 (.tmp 8) (.const (.int .i64 16)) a (.int .i64 16))) fun g=>CD g (mC b c d e R)
 (uN a b c d e R)
 (fun h i=>f [nth h 0] i)
def mD:=fun a b (f:za) c (R:VK) (j:LK)=>
 opt (nb [a,b] (ze zz .mul 2 (.tmp 23) (.tmp 24) a b)) fun g=>zO zz (fn 64) [g] f (fun d h=>opt (nb [d] (zl zz 64 c d h)) fun e=>opt (zd zz 64 c e) fun i=>rv [i,.bool true] e R)
def wA:=fun a (c:za) d e f (R:VK) (i:LK)=>
 opt (nb [a,.int .i64 14] (ze zz .eql 3 (.tmp 8) (.const (.int .i64 14)) a (.int .i64 14))) fun g=>CD g (fun b=>b [g] c)
 (fun b=>opt (nb [a,.int .i64 15] (ze zz .eql 3 (.tmp 8) (.const (.int .i64 15)) a (.int .i64 15))) fun j=>b [j] c)
 (fun k h=>CD (nth k 0) (ZE d e h f R a)
 (uq a e d h f R)
 (fun l m=>i [nth l 0] m))
def mE:=fun a b (f:za) c (R:VK) (j:LK)=>
 opt (nb [a,b] (ze zz .sub 2 (.tmp 17) (.tmp 18) a b)) fun g=>zO zz (fn 64) [g] f (fun d h=>opt (nb [d] (zl zz 64 c d h)) fun e=>opt (zd zz 64 c e) fun i=>rv [i,.bool true] e R)
def wt:=fun a b c (d:za) e (R:VK) (f:LK)=>
 opt (nb [a,.int .i64 13] (ze zz .eql 3 (.tmp 8) (.const (.int .i64 13)) a (.int .i64 13))) fun g=>CD g (mD b c d e R)
 (wA a d c b e R)
 (fun h i=>f [nth h 0] i)
def mF:=fun a b (f:za) c (R:VK) (j:LK)=>
 opt (nb [a,b] (ze zz .add 2 (.tmp 11) (.tmp 12) a b)) fun g=>zO zz (fn 64) [g] f (fun d h=>opt (nb [d] (zl zz 64 c d h)) fun e=>opt (zd zz 64 c e) fun i=>rv [i,.bool true] e R)
def xW:=fun a b c (d:za) e (R:VK) (f:LK)=>
 opt (nb [a,.int .i64 12] (ze zz .eql 3 (.tmp 8) (.const (.int .i64 12)) a (.int .i64 12))) fun g=>CD g (mE b c d e R)
 (wt a b c d e R)
 (fun h i=>f [nth h 0] i)
def xL:=fun a b c (d:za) e (R:VK) (f:LK)=>
 opt (nb [a,.int .i64 11] (ze zz .eql 3 (.tmp 8) (.const (.int .i64 11)) a (.int .i64 11))) fun g=>CD g (mF b c d e R)
 (xW a b c d e R)
 (fun h i=>f [nth h 0] i)
def wB:=fun a (R:VK) (f:List Value) (d:za)=>
 opt (nb [] (xo zz 64 [])) fun b=>opt (nb [b] (zl zz 64 a b d)) fun c=>opt (zd zz 64 a c) fun e=>rv [e,.bool false] c R
def F8:=fun (h:za) b c d (R:VK)=>
 opt (wY zz 64) fun e=>nw h (Value.cells e).toList 64 fun a f=>BK (xL b c d f a R)
 (wB a R)
theorem D1 (hw:F8 h t0 t1 t2 R):DC zz 111 [t0,t1,t2] h R:=qQ (by kernel_rfl) hw
def bC:=fun e h (a:za) (i:LK) f=>
 opt (nb [e,f] (ze zz .eql 64 (.tmp 22) (.tmp 23) e f)) fun b=>GD b true (fun j=>opt (zd zz 64 h a) fun c=>j c a) (fun c g=>GD b true (fun k=>YI zz 112 [c] g (fun d l=>k d l)) (fun d m=>opt (pk b d (.bool false)) fun n=>i [n] m) g) a
def QH:=fun d e f (g:LK) h (a:za)=>
 opt (pk d h (.bool false)) fun c=>CD c (fun b=>b [c] a)
 (fun b=>opt (zd zz 64 e a) fun i=>ZQ zz 64 [.int .i64 0] a (bC i f a b))
 (fun j k=>g [nth j 0] k)
def bD:=fun b f g (h:LK) d (c:za)=>
 GD b true (fun i=>ZQ zz 64 [.int .i64 0] c (fun a=>i a c)) (fun a e=>GD b true (fun j=>opt (nb [d,a] (ze zz .eql 64 (.tmp 18) (.tmp 19) d a)) fun k=>j k e) (QH b f g h) e) c
def bE:=fun b (c:za) d (f:LK)=>
 opt (zd zz 64 b c) fun g=>YI zz 112 [g] c (fun e a=>GD e true (fun h=>opt (zd zz 64 d a) fun i=>h i a) (bD e b d f) a)
def bF:=fun j (a:za) k b c (R:VK) (o:LK)=>
 opt (zd zz 64 j a) fun d=>opt (zd zz 64 k a) fun e=>opt (nb [d,e] (ze zz .eql 64 (.tmp 29) (.tmp 30) d e)) fun f=>opt (nb [b,.int .i64 21] (ze zz .eql 3 (.tmp 32) (.const (.int .i64 21)) b (.int .i64 21))) fun g=>opt (nb [f,g] (ze zz .eql 4 (.tmp 31) (.tmp 33) f g)) fun l=>zO zz (fn 127) [l] a (fun h m=>opt (nb [h] (zl zz 64 c h m)) fun i=>opt (zd zz 64 c i) fun n=>rv [n,.bool true] i R)
def QI:=fun f a b g h (R:VK) (i:LK) j (c:za)=>
 opt (pk f j (.bool false)) fun d=>CD d (fun k=>k [d] c)
 (bE a c b)
 (fun l e=>CD (nth l 0) (bF a e b g h R)
 (fun m=>m [.bool false] e)
 (fun n o=>i [nth n 0] o))
def bG:=fun d f g h (R:VK) (i:LK) a (b:za)=>
 GD a true (fun j=>opt (zd zz 64 d b) fun c=>j c b) (fun c e=>GD a true (fun k=>zO zz (fn 112) [c] e (fun l m=>k l m)) (QI a f d g h R i) e) b
def bH:=fun a (R:VK) (f:List Value) (d:za)=>
 opt (nb [] (xo zz 64 [])) fun b=>opt (nb [b] (zl zz 64 a b d)) fun c=>opt (zd zz 64 a c) fun e=>rv [e,.bool false] c R
def CN:=fun (h:za) f a b (R:VK)=>
 opt (nb [a] (some (Value.cells a).toList)) fun g=>nw h g 64 fun c i=>opt (nb [b] (some (Value.cells b).toList)) fun j=>nw i j 64 fun k l=>opt (wY zz 64) fun m=>nw l (Value.cells m).toList 64 fun d e=>BK (fun n=>opt (zd zz 64 c e) fun o=>zO zz (fn 112) [o] e (bG k c f d R n))
 (bH d R)
theorem AP (hw:CN h t0 t1 t2 R):DC zz 113 [t0,t1,t2] h R:=qQ (by kernel_rfl) hw
def nc:=fun (d:za) a (R:VK) (g:LK)=>
 zO zz (fn 64) [.int .i64 1] d (fun b e=>opt (nb [b] (zl zz 64 a b e)) fun c=>opt (zd zz 64 a c) fun f=>rv [f] c R)
def nd:=fun a (R:VK) (g:List Value) (d:za)=>
 zO zz (fn 64) [.int .i64 0] d (fun b e=>opt (nb [b] (zl zz 64 a b e)) fun c=>opt (zd zz 64 a c) fun f=>rv [f] c R)
def CS:=fun (h:za) c (R:VK)=>
 opt (wY zz 64) fun d=>nw h (Value.cells d).toList 64 fun a b=>CD c (nc b a R)
 (fun e=>e [] b)
 (nd a R)
theorem Bl (hw:CS h t0 R):DC zz 127 [t0] h R:=qQ (by kernel_rfl) hw
def F9:=fun (h:za) c (R:VK)=>
 zO zz (fn 81) [c] h (fun a d=>opt (nb [a] (xo zz 151 [(0,a)])) fun b=>opt (nb [b] (some (Value.cells b).toList)) fun e=>nw d e 151 fun f g=>rv [f] g R)
theorem D9 (hw:F9 h t0 R):DC zz 61 [t0] h R:=qQ (by kernel_rfl) hw
def lM:=fun (h:za) a (R:VK)=>
 opt (nb [a,.slice none 0 0] (ze zz .eql 26 (.tmp 3) (.const (.slice none 0 0)) a (.slice none 0 0))) fun d=>CD d (fun b=>rv [.slice none 0 0] h R)
 (fun b=>b [.slice none 0 0] h)
 (fun j e=>xZ (nb [] (xU zz 26 0 [] e)) fun c f=>xZ (nb [c,a] (zn zz .append [26,26] 26 [c,a] f)) fun g i=>rv [g] i R)
theorem n7 (hw:lM h t0 R):DC zz 81 [t0] h R:=qQ (by kernel_rfl) hw
noncomputable def Qf:Array Field:=match Program.underlying Tryz.prog 64 with | some (.struct f)=>f | _ => #[]
theorem yQ (b off:Nat) (h:za):zd Tryz.prog 2 (.pointer (some ⟨b,off,none⟩)) h=zw h b off:=yn (by kernel_rfl) b off h
theorem LR (b off:Nat) (h:za):zd Tryz.prog 26 (.pointer (some ⟨b,off,none⟩)) h=zw h b off:=yn (by kernel_rfl) b off h
theorem zi (b off:Nat) (h:za):zd Tryz.prog 3 (.pointer (some ⟨b,off,none⟩)) h=zw h b off:=yn (by kernel_rfl) b off h
theorem zq (b off:Nat) (h:za):zd Tryz.prog 64 (.pointer (some ⟨b,off,none⟩)) h=ye h b off 3:=qi (by kernel_rfl) (by kernel_rfl) b off h
theorem Od (r:TypeId) (v x:Value) (n:Nat) (new:List Value) (h:za) (h1:Ws x=some n) (h2:uJ h n 1 x=some new) (h3:new.all wZ=true) (h4:new.length=n * 1):zn Tryz.prog .append [26,26] r [v,x] h=Uh h 2 1 8 n new v:=Xd (e:=2) (e2:=2) (by kernel_rfl) (by kernel_rfl) (by kernel_rfl) (by kernel_rfl) (by decide) h1 h2 h3 h4
theorem Wx (b off:Nat) (v:Int) (h:za):zl Tryz.prog 3 (.pointer (some ⟨b,off,none⟩)) (.int .i64 v) h=vf h b off [(.int .i64 v)]:=uI (by kernel_rfl) b off _ h rfl
theorem zL (b off:Nat) (l:List Value) (h:za) (hv:l.length=3):zl Tryz.prog 64 (.pointer (some ⟨b,off,none⟩)) (.agg l.toArray) h=vf h b off l:=qP (by kernel_rfl) b off l h hv
theorem vG:wY Tryz.prog 64=some (.agg #[(.int .i64 0),(.int .i64 0),(.int .i64 0)]):=zH (by kernel_rfl)
theorem GH (v0:Option Addr) (v0l v0c:Nat):xo Tryz.prog 151 [(0,(.slice v0 v0l v0c))]=some (.agg #[(.slice v0 v0l v0c),(.int .i64 0)]):=zH (by kernel_rfl)
theorem yT:xo Tryz.prog 64 []=some (.agg #[(.int .i64 0),(.int .i64 0),(.int .i64 0)]):=zH (by kernel_rfl)
theorem sP (v0:Int) (v1:Int) (v2:Int):xo Tryz.prog 64 [(0,(.int .i64 v0)),(1,(.int .i64 v1)),(2,(.int .i64 v2))]=some (.agg #[(.int .i64 v0),(.int .i64 v1),(.int .i64 v2)]):=zH (by kernel_rfl)
theorem GM (h:za):xU Tryz.prog 26 0 [] h=some (.slice (some ⟨h.next,0,none⟩) 0 2,h.push (.cells [] 2)):=zH (by kernel_rfl)
theorem YK (n:Int) (h:za):u5 Tryz.prog 196 2 (.int .i8 n) h=some (.int .i64 (IntKind.wrap .i64 n),h):=zH (by kernel_rfl)
theorem Z4 (n:Int) (h:za):u5 Tryz.prog 21 2 (.int .i32 n) h=some (.int .i64 (IntKind.wrap .i64 n),h):=zH (by kernel_rfl)
theorem GS (n:Int) (h:za):u5 Tryz.prog 2 196 (.int .i64 n) h=some (.int .i8 (IntKind.wrap .i8 n),h):=zH (by kernel_rfl)
theorem eJ (n:Int) (h:za):u5 Tryz.prog 2 21 (.int .i64 n) h=some (.int .i32 (IntKind.wrap .i32 n),h):=zH (by kernel_rfl)
theorem IH (x y:Operand):ze Tryz.prog .eql 26 x y (.slice none 0 0) (.slice none 0 0)=some (.bool true):=zH (by kernel_rfl)
theorem MZ (x y:Operand) (a:Addr) (n c:Nat):ze Tryz.prog .eql 26 x y (.slice (some a) n c) (.slice none 0 0)=some (.bool false):=Nx (e:=2) (by kernel_rfl) a n c
theorem OD (x y:Operand) (a b:Bool):ze Tryz.prog .eql 4 x y (.bool a) (.bool b)=some (.bool (a == b)):=zH (by kernel_rfl)
theorem Vn (x y:Operand) (a0:Int) (a1:Int) (a2:Int) (b0:Int) (b1:Int) (b2:Int):ze Tryz.prog .eql 64 x y (.agg #[(.int .i64 a0),(.int .i64 a1),(.int .i64 a2)]) (.agg #[(.int .i64 b0),(.int .i64 b1),(.int .i64 b2)])=some (.bool ((a0 == b0) && ((a1 == b1) && ((a2 == b2))))):=(YH (fs:=Qf) (r:=(a0 == b0) && ((a1 == b1) && ((a2 == b2)))) (by kernel_rfl) (by kernel_rfl) (by kernel_rfl) rfl rfl (Eq.trans (b:=(cond (a0 == b0) (cond (a1 == b1) (cond (a2 == b2) (some true) (some false)) (some false)) (some false))) (by kernel_rfl) (by cases (a0 == b0) <;> cases (a1 == b1) <;> cases (a2 == b2) <;> rfl))).1
theorem tu (b off:Nat):zb Tryz.prog 151 (.pointer (some ⟨b,off,none⟩)) 0=some (.pointer (some ⟨b,off,none⟩)):=zH (by kernel_rfl)
theorem gW (b off:Nat):zb Tryz.prog 151 (.pointer (some ⟨b,off,none⟩)) 1=some (.pointer (some ⟨b,off + 1,none⟩)):=zH (by kernel_rfl)
theorem wm (b off:Nat):zb Tryz.prog 64 (.pointer (some ⟨b,off,none⟩)) 0=some (.pointer (some ⟨b,off,none⟩)):=zH (by kernel_rfl)
theorem wi (b off:Nat):zb Tryz.prog 64 (.pointer (some ⟨b,off,none⟩)) 1=some (.pointer (some ⟨b,off + 1,none⟩)):=zH (by kernel_rfl)
theorem uB (b off:Nat):zb Tryz.prog 64 (.pointer (some ⟨b,off,none⟩)) 2=some (.pointer (some ⟨b,off + 2,none⟩)):=zH (by kernel_rfl)
theorem Hj (b off len c:Nat) (k:IntKind) (i:Int):zA Tryz.prog 26 (.slice (some ⟨b,off,none⟩) len c) (.int k i)=if 0<=i/\i < len then some (.pointer (some ⟨b,off + i.toNat * 1,none⟩)) else none:=wk (e:=2) (by kernel_rfl) (by kernel_rfl)
theorem iz (r:TypeId) (a:Option Addr) (n c:Nat) (h:za):zn Tryz.prog .len [26] r [.slice a n c] h=some (.int .i64 n,h):=zH (by kernel_rfl)
end Go.Rm
namespace Go.Rtl
open Go.Ai Go.Proofs
def xq (b:Bool) (v:Value) (_:za):Prop:=v = .bool b
theorem yS {f:FuncId} {args:List Value} {h:za} {b:Bool} (d:DC Tryz.prog f args h.lock (xq b)):vC Tryz.prog f args h (.bool b):=vC.of rfl d
structure Old (h h':za):Prop where
 next:h.next<=h'.next
 ro:h'.ro=h.ro
 get:∀ b,b < h.next->h'.get b=h.get b
theorem Old.refl (h:za):Old h h:=⟨Sp _,rfl,fun _ _=>rfl⟩
theorem Old.trans {a b c:za} (x:Old a b) (y:Old b c):Old a c:=⟨S4 x.next y.next,y.ro.trans x.ro,fun i hi=>(y.get i (Sq hi x.next)).trans (x.get i hi)⟩
theorem Old.push (h:za) (o:vi):Old h (h.push o):=⟨TR _,rfl,fun b hb=>zU hb⟩
theorem Old.set {h h':za} (x:Old h h') {b:Nat} (hb:h.next<=b) (o:Option vi):Old h (h'.set b o):=⟨x.next,x.ro,fun c hc=>(zS (by omega)).trans (x.get c hc)⟩
def zE (h:za) (sv:Value) (zs:List Int):Prop:=(sv = .slice none 0 0/\zs = []) \/ ∃ b off cp,sv = .slice (some ⟨b,off,none⟩) zs.length cp/\(zs ≠ []->∃ c t,b < h.next/\h.get b=some (.cells c t) /\ ∀ (i:Nat) z,zs[i]? = some z->c[off + i]? = some (.int .i64 z))
section
variable {h h':za} {sv:Value} {zs:List Int}
theorem zE.YR (S:zE h sv zs):ym sv=false:=by
 rcases S with ⟨rfl,_⟩ | ⟨b,off,cp,rfl,_⟩ <;> rfl
theorem zE.gJ (S:zE h sv zs):wZ sv=true:=by
 rcases S with ⟨rfl,_⟩ | ⟨b,off,cp,rfl,_⟩ <;> rfl
theorem zE.old (S:zE h sv zs) (e:Old h h'):zE h' sv zs:=by
 rcases S with a | ⟨b,off,cp,rfl,hc⟩
 ·exact .inl a
 ·refine .inr ⟨b,off,cp,rfl,fun hz => ?_⟩
  obtain ⟨c,t,hb,hg,hat⟩:=hc hz
  exact ⟨c,t,Sq hb e.next,by rw [e.get b hb];exact hg,hat⟩
theorem zE.lock (S:zE h sv zs):zE h.lock sv zs:=by
 rcases S with a | ⟨b,off,cp,rfl,hc⟩
 ·exact .inl a
 ·refine .inr ⟨b,off,cp,rfl,fun hz => ?_⟩
  obtain ⟨c,t,hb,hg,hat⟩:=hc hz
  exact ⟨c,t,hb,by rw [J8];exact hg,hat⟩
end
theorem inc {i:Nat} (h:i < 4611686018427387904):IntKind.wrap .i64 ((i:Int) + 1)=((i + 1:Nat):Int):=by
 simp only [IntKind.wrap,IntKind.bits,IntKind.signed];simp;omega
def zW (h:za) (sv:Value) (n:Nat) (rows:List (List Value)):Prop:=(sv = .slice none 0 0/\rows = []) \/ ∃ b off cp,sv = .slice (some ⟨b,off,none⟩) rows.length cp /\
 (rows ≠ []->∃ c t,b < h.next/\h.get b=some (.cells c t) /\ ∀ (i:Nat) r,rows[i]? = some r->off + i * n + n<=c.length/\(c.drop (off + i * n)).take n=r)
section
variable {h h':za} {sv:Value} {n:Nat} {rows:List (List Value)}
theorem zW.YR (S:zW h sv n rows):ym sv=false:=by
 rcases S with ⟨rfl,_⟩ | ⟨b,off,cp,rfl,_⟩ <;> rfl
theorem zW.gJ (S:zW h sv n rows):wZ sv=true:=by
 rcases S with ⟨rfl,_⟩ | ⟨b,off,cp,rfl,_⟩ <;> rfl
theorem zW.old (S:zW h sv n rows) (e:Old h h'):zW h' sv n rows:=by
 rcases S with a | ⟨b,off,cp,rfl,hc⟩
 ·exact .inl a
 ·refine .inr ⟨b,off,cp,rfl,fun hz => ?_⟩
  obtain ⟨c,t,hb,hg,hat⟩:=hc hz
  exact ⟨c,t,Sq hb e.next,by rw [e.get b hb];exact hg,hat⟩
theorem zW.lock (S:zW h sv n rows):zW h.lock sv n rows:=by
 rcases S with a | ⟨b,off,cp,rfl,hc⟩
 ·exact .inl a
 ·refine .inr ⟨b,off,cp,rfl,fun hz => ?_⟩
  obtain ⟨c,t,hb,hg,hat⟩:=hc hz
  exact ⟨c,t,hb,by rw [J8];exact hg,hat⟩
theorem zW.spot (S:zW h sv n rows) {i:Nat} {r:List Value} (hr:rows[i]? = some r) (hn:r.length=n):∃ b o c t,(∃ off cp,sv = .slice (some ⟨b,off,none⟩) rows.length cp/\o=off + i * n)/\i < rows.length/\b < h.next/\h.get b=some (.cells c t)/\o + n<=c.length/\(c.drop o).take n=r /\ ∀ k,k < n->c[o + k]? = r[k]?:=by
 rcases S with ⟨rfl,rfl⟩ | ⟨b,off,cp,rfl,hc⟩
 ·cases hr
 ·have hlt:i < rows.length:=by
   rcases SC i rows.length with a | a
   ·exact a
   ·rw [Sr a] at hr;cases hr
  obtain ⟨c,t,hb,hg,hat⟩:=hc (by intro e;subst e;cases hr)
  obtain ⟨h1,h2⟩:=hat i r hr
  refine ⟨b,off + i * n,c,t,⟨off,cp,rfl,rfl⟩,hlt,hb,hg,h1,h2,fun k hk => ?_⟩
  ·rw [<- h2,Td hk,S5]
end
theorem Fq {step:List Value->za->(List Value->za->Prop)->Prop} (Q:za->Prop) {v:Value} (n:Nat) (G:Nat->Bool) {h:za} (h0:Q h)
  (hs:∀ i h J,i<=n->Q h->(∀ k,k < i->G k=true)->(∀ h',i < n->G i=true->Q h'->J [v,.int .i64 ((i + 1:Nat):Int)] h')->step [v,.int .i64 (i:Nat)] h J):LP step [v,.int .i64 0] h:=by
 refine Zb (fun m vs h => ∃ i,i<=n/\m=n - i/\vs = [v,.int .i64 (i:Nat)]/\Q h /\ ∀ k,k < i->G k=true) n ⟨0,Th _,rfl,rfl,h0,fun k hk=>absurd hk (Nat.not_lt_zero _)⟩ ?_
 rintro m vs h ⟨i,hi,rfl,rfl,e,g⟩
 refine hs i h _ hi e g fun h' hlt hg e'=>⟨n - (i + 1),by omega,i + 1,hlt,rfl,rfl,e',fun k hk => ?_⟩
 rcases SC k i with q | q
 ·exact g k q
 ·have:k=i:=by omega
  subst this;exact hg
def Bz {α:Type} (l:List α) (B:α->Bool) (k:Nat):Bool:=match l[k]? with
 | some x=>B x
 | none=>true
theorem ZH {α:Type} {l:List α} {B:α->Bool} (h:∀ k,k < l.length->Bz l B k=true):l.all B=true:=by
 rw [SV]
 intro x hx
 obtain ⟨k,hk,rfl⟩:=List.getElem_of_mem hx
 have:=h k hk
 simpa only [Bz,Sk hk] using this
theorem We {α:Type} {l:List α} {B:α->Bool} {k:Nat} {x:α} (hx:l[k]? = some x) (hb:B x=false):l.all B=false:=by
 rw [List.all_eq_false]
 exact ⟨x,S7 hx,by simp [hb]⟩
theorem Ui {α:Type} {l:List α} {B:α->Bool} {k:Nat} {x:α} (hx:l[k]? = some x):Bz l B k=B x:=by simp only [Bz,hx]
theorem get_some {α:Type} {l:List α} {k:Nat} (h:k < l.length):∃ x,l[k]? = some x/\x ∈ l:=⟨l[k],Sk h,List.getElem_mem h⟩
structure Sub (h h':za):Prop where
 next:h.next<=h'.next
 get:∀ b o,b < h.next->h.get b=some o->h'.get b=some o
theorem Sub.refl (h:za):Sub h h:=⟨Sp _,fun _ _ _ e=>e⟩
theorem Sub.trans {a b c:za} (x:Sub a b) (y:Sub b c):Sub a c:=⟨S4 x.next y.next,fun i o hi e=>y.get i o (Sq hi x.next) (x.get i o hi e)⟩
theorem Old.sub {h h':za} (e:Old h h'):Sub h h':=⟨e.next,fun b o hb g=>by rw [e.get b hb];exact g⟩
section
variable {h h':za}
theorem zE.sub {sv:Value} {zs:List Int} (S:zE h sv zs) (e:Sub h h'):zE h' sv zs:=by
 rcases S with a | ⟨b,off,cp,rfl,hc⟩
 ·exact .inl a
 ·refine .inr ⟨b,off,cp,rfl,fun hz => ?_⟩
  obtain ⟨c,t,hb,hg,hat⟩:=hc hz
  exact ⟨c,t,Sq hb e.next,e.get b _ hb hg,hat⟩
theorem zW.sub {sv:Value} {n:Nat} {rows:List (List Value)} (S:zW h sv n rows) (e:Sub h h'):zW h' sv n rows:=by
 rcases S with a | ⟨b,off,cp,rfl,hc⟩
 ·exact .inl a
 ·refine .inr ⟨b,off,cp,rfl,fun hz => ?_⟩
  obtain ⟨c,t,hb,hg,hat⟩:=hc hz
  exact ⟨c,t,Sq hb e.next,e.get b _ hb hg,hat⟩
theorem zW.Is {sv:Value} {n:Nat} {rows:List (List Value)} (S:zW h sv n rows):Ws sv=some rows.length:=by
 rcases S with ⟨rfl,rfl⟩ | ⟨b,off,cp,rfl,hc⟩ <;> rfl
theorem LB {c:List Value} {off:Nat} {l:List Value} (h:∀ (i:Nat) v,l[i]? = some v->c[off + i]? = some v):(l = []\/off + l.length<=c.length)/\(c.drop off).take l.length=l:=by
 have hle:l = []\/off + l.length<=c.length:=by
  cases hl:l.length with
  | zero=>exact .inl (T1.1 hl)
  | succ n=>
    have:=h n l[n] (Sk (by omega))
    rcases SC (off + n) c.length with q | q
    ·exact .inr (by omega)
    ·rw [Sr q] at this;cases this
 refine ⟨hle,TK fun i => ?_⟩
 rw [List.getElem?_take,S5]
 by_cases hi:i < l.length
 ·rw [Sn hi,Sk hi];exact h i _ (Sk hi)
 ·rw [Sl hi,Sr (by omega)]
theorem Q6 {n:Nat}:∀ {rows:List (List Value)},(∀ r,r ∈ rows->r.length=n)->∀ {i:Nat} {r:List Value} {k:Nat},rows[i]? = some r->k < n->rows.flatten[i * n + k]? = r[k]?
 | [],_,i,r,k,hr,_=>by cases hr
 | r0 :: rows,hn,0,r,k,hr,hk=>by
   simp only [Si,Se] at hr
   subst hr
   rw [List.flatten_cons,Tl (by rw [hn _ (by simp)];omega)]
   simp
 | r0 :: rows,hn,i + 1,r,k,hr,hk=>by
   have h0:=hn r0 (by simp)
   rw [List.flatten_cons,Tu (by rw [h0,aaw];omega),h0,show (i + 1) * n + k - n=i * n + k by rw [aaw];omega]
   exact Q6 (fun r hr=>hn r (by simp [hr])) (by simpa using hr) hk
theorem wH {n:Nat}:∀ {rows:List (List Value)},(∀ r,r ∈ rows->r.length=n)->rows.flatten.length=rows.length * n
 | [],_=>by simp
 | r0 :: rows,hn=>by
   rw [List.flatten_cons,aao,wH (fun r hr=>hn r (by simp [hr])),hn r0 (by simp),SD,aaw];omega
theorem vY {n:Nat} {rows:List (List Value)} (hn:∀ r,r ∈ rows->r.length=n) {i:Nat} {r:List Value} (hr:rows[i]? = some r):i * n + n<=rows.flatten.length/\(rows.flatten.drop (i * n)).take n=r:=by
 have hi:i < rows.length:=by
  rcases SC i rows.length with a | a
  ·exact a
  ·rw [Sr a] at hr;cases hr
 have hl:r.length=n:=hn r (S7 hr)
 constructor
 ·rw [wH hn]
  have:=TM n (Nat.succ_le_of_lt hi)
  rw [Nat.succ_mul] at this
  exact this
 ·refine TK fun k => ?_
  rw [List.getElem?_take,S5]
  by_cases hk:k < n
  ·rw [Sn hk];exact Q6 hn hr hk
  ·rw [Sl hk,Sr (by omega)]
theorem zW.first {sv:Value} {n:Nat} {rows:List (List Value)} (S:zW h sv n rows) (h0:0 < n) (hn:∀ r,r ∈ rows->r.length=n):uJ h rows.length n sv=some rows.flatten:=by
 rcases S with ⟨rfl,rfl⟩ | ⟨b,off,cp,rfl,hc⟩
 ·rfl
 ·cases rows with
  | nil=>unfold uJ;simp only [SF,aax];rfl
  | cons r0 rows=>
    obtain ⟨c,t,hb,hg,hat⟩:=hc (by simp)
    obtain ⟨h1,h2⟩:=LB (c:=c) (off:=off) (l:=(r0 :: rows).flatten) (fun j v hv=>by
     have hj:j < (r0 :: rows).length * n:=by
      rcases SC j ((r0 :: rows).flatten.length) with a | a
      ·rw [wH hn] at a;exact a
      ·rw [Sr a] at hv;cases hv
     have hi:j / n < (r0 :: rows).length:=(Nat.div_lt_iff_lt_mul h0).2 hj
     have hk:j % n < n:=Nat.mod_lt _ h0
     have hr:(r0 :: rows)[j / n]? = some (r0 :: rows)[j / n]:=Sk hi
     have e:j=j / n * n + j % n:=by rw [Nat.mul_comm];exact (Nat.div_add_mod j n).symm
     rw [e,Q6 hn hr hk] at hv
     obtain ⟨_,h4⟩:=hat _ _ hr
     rw [<- h4,List.getElem?_take,Sn hk,S5] at hv
     rw [e,<- aah];exact hv)
    have hl:=wH hn
    rw [hl] at h1 h2
    have hne:(r0 :: rows).length * n ≠ 0:=by rw [SD];exact Nat.mul_ne_zero (by omega) (by omega)
    have h3:off + (r0 :: rows).length * n<=c.length:=by
     rcases h1 with e | e
     ·rw [e] at hl;exact absurd hl.symm hne
     ·exact e
    unfold uJ
    simp only [hg]
    rw [show Nat.beq ((r0 :: rows).length * n) 0=false by rw [<- aaj,aar];exact hne,SK,Nat.ble_eq_true_of_le h3,SA,h2]
end
end Go.Rtl
namespace Go.Rm
open Go.Ai Go.Proofs Go.Mem
def isInt (a:V):Bool:=decide (a.k=1) && Qk a
def uE (a:V):Bool:=decide (a.k=2) && Qk a
def qx (n:Int):V:=⟨1,n,0⟩
def XZ (b:Bool):V:=if b=true then qx 1 else qx 0
abbrev Yb (n:Int):Int:=IntKind.wrap .i64 n
def X1 (f:BitVec 64->BitVec 64->BitVec 64) (a b:Int):Int:=Yb (f (BitVec.ofInt 64 a) (BitVec.ofInt 64 b)).toNat
def j8 (op a b:Int):Option V :=
 if op=11 then some (qx (Yb (a + b))) else if op=12 then some (qx (Yb (a - b))) else if op=13 then some (qx (Yb (a * b)))
 else if op=14\/op=15 then (if b=0\/(a = -9223372036854775808/\b = -1) then none else if op=14 then some (qx (Yb (a.tdiv b))) else some (qx (a.tmod b)))
 else if op=16 then some (qx (X1 (· &&& ·) a b)) else if op=17 then some (qx (X1 (· ||| ·) a b)) else if op=18 then some (qx (X1 (· ^^^ ·) a b))
 else if op=19\/op=20 then (if b < 0\/63 < b then none else if op=19 then some (qx (Yb (a * 2 ^ b.toNat))) else some (qx (a.fdiv (2 ^ b.toNat))))
 else if op=21 then some (XZ (decide (a=b))) else if op=22 then some (XZ (!decide (a=b))) else if op=23 then some (XZ (decide (a < b)))
 else if op=24 then some (XZ (decide (a<=b))) else if op=25 then some (XZ (decide (b < a))) else if op=26 then some (XZ (decide (b<=a))) else none
def qq (op:Int) (a b:V):Option V :=
 if (uE a && uE b) || ((uE a && decide (b=qx 0)) || (decide (a=qx 0) && uE b)) then some (XZ (decide (a=b) == decide (op=21))) else none
def yu (op:Int) (a b:V):Option V :=
 if isInt a && isInt b then j8 op a.n b.n
 else if decide (op=11) && (uE a && isInt b) then some (np a.b (Yb (a.n + b.n)))
 else if decide (op=11) && (isInt a && uE b) then some (np b.b (Yb (a.n + b.n)))
 else if decide (op=12) && (uE a && isInt b) then some (np a.b (Yb (a.n - b.n)))
 else if op=21\/op=22 then qq op a b else none
def notM (a:Int):Int:=Yb (BitVec.ofInt 64 (-1) ^^^ BitVec.ofInt 64 a).toNat
def eh (op:Int) (a:V):Option V :=
 if isInt a=true then (if op=1 then some (qx (Yb (0 - a.n))) else if op=2 then some (qx (notM a.n)) else if op=3 then some (qx (Yb (IntKind.wrap .i8 a.n))) else if op=4 then some (qx (Yb (IntKind.wrap .i32 a.n))) else none) else none
def BV (l:List V) (r:Int):V:=if r < 0 then v0 else l.getD r.toNat v0
def ZZ (world:List Int) (used:Int):Int:=if used < 0 then 0 else world.getD used.toNat 0
def vO:List Int->MM->List Int->MM × List Int
 | [],M,l=>(M,l)
 | n :: ns,M,l=>vO ns ((VU (w8 M n).1 (w8 M n).2.1).getD (w8 M n).1) (l ++ [(w8 M n).2.1])
abbrev vv (a:V):Value := .agg #[.int .i64 a.k,.int .i64 a.n,.int .i64 a.b]
def Xi (u:Value) (v:Value) (_:za):Prop:=v=u
theorem jd {f:FuncId} {args:List Value} {h:za} {u:Value} (hs:cZ u=true) (d:DC Tryz.prog f args h.lock (Xi u)):vC Tryz.prog f args h u:=vC.of hs d
def u2 (o:Option V):Value := .tuple #[vv (o.getD v0),.bool o.isSome]
theorem ZL (n:Int) (h:za):vC Tryz.prog 64 [.int .i64 n] h (vv (qx n)):=jd rfl ((Go.Mem.ZL n h.lock).mono fun v h1 e=>e.1)
theorem Jc (a:V) (h:za):vC Tryz.prog 125 [vv a] h (.bool (Qk a)):=Go.Mem.Jc a h
theorem GF (b n:Int) (h:za):vC Tryz.prog 87 [.int .i64 b,.int .i64 n] h (vv (np b n)):=by
 apply jd rfl
 apply Gb
 unfold LQ np
 by_cases h1:b < 1
 ·simp -implicitDefEqProofs only [EE,↓nw,Value.cells,zf,Sf,Nat.reduceAdd,vf,ye,zq,zL,vG,yT,h1];rfl
 ·simp -implicitDefEqProofs only [EE,↓nw,Value.cells,zf,Sf,Sx,Nat.reduceAdd,vf,ye,zq,zL,vG,sP,CT,h1];rfl
theorem vg (a:V) (h:za):vC Tryz.prog 110 [vv a] h (.bool (isInt a)):=by
 apply jd rfl
 apply A8
 unfold CQ isInt
 by_cases h1:a.k=1
 ·simp -implicitDefEqProofs only [EE,↓nw,Value.cells,Sf,Nat.reduceAdd,ye,zw,zi,zq,wm,bM,h1]
  refine zh (by kernel_rfl) rfl (Jc ⟨1,a.n,a.b⟩ _) ?_
  simp -implicitDefEqProofs only [EE]
  have:a=⟨1,a.n,a.b⟩:=by rw [<- h1]
  rw [<- this];simp [Xi,h1]
 ·simp -implicitDefEqProofs only [EE,↓nw,Value.cells,zw,zi,wm,bM,h1];simp [Xi]
theorem uC (a:V) (h:za):vC Tryz.prog 112 [vv a] h (.bool (uE a)):=by
 apply jd rfl
 apply A9
 unfold CR uE
 by_cases h1:a.k=2
 ·simp -implicitDefEqProofs only [EE,↓nw,Value.cells,Sf,Nat.reduceAdd,ye,zw,zi,zq,wm,bN,h1]
  refine zh (by kernel_rfl) rfl (Jc ⟨2,a.n,a.b⟩ _) ?_
  simp -implicitDefEqProofs only [EE]
  have:a=⟨2,a.n,a.b⟩:=by rw [<- h1]
  rw [<- this];simp [Xi,h1]
 ·simp -implicitDefEqProofs only [EE,↓nw,Value.cells,zw,zi,wm,bN,h1];simp [Xi]
theorem UI (b:Bool) (h:za):vC Tryz.prog 127 [.bool b] h (vv (XZ b)):=by
 apply jd rfl
 apply Bl
 unfold CS XZ
 cases b with
 | true=>
   simp -implicitDefEqProofs only [EE,↓nw,Value.cells,vG,nc]
   refine zh (by kernel_rfl) rfl (ZL 1 _) ?_
   simp -implicitDefEqProofs only [EE,zf,Sf,Nat.reduceAdd,vf,ye,zq,zL];rfl
 | false=>
   simp -implicitDefEqProofs only [EE,↓nw,Value.cells,vG,nd]
   refine zh (by kernel_rfl) rfl (ZL 0 _) ?_
   simp -implicitDefEqProofs only [EE,zf,Sf,Nat.reduceAdd,vf,ye,zq,zL];rfl
theorem ir (op a b:Int) (h:za):vC Tryz.prog 111 [.int .i64 op,.int .i64 a,.int .i64 b] h (u2 (j8 op a b)):=by
 apply jd rfl
 apply D1
 unfold F8
 by_cases o11:op=11
 ·subst o11
  simp -implicitDefEqProofs only [EE,↓nw,Value.cells,↓BK,vG,mF,xL]
  refine zh (by kernel_rfl) rfl (ZL (Yb (a + b)) _) ?_
  simp -implicitDefEqProofs only [EE,zf,Sf,Nat.reduceAdd,vf,ye,zq,zL];rfl
 by_cases o12:op=12
 ·subst o12
  simp -implicitDefEqProofs only [EE,↓nw,Value.cells,↓BK,Int.reduceEq,vG,mE,xW,xL]
  refine zh (by kernel_rfl) rfl (ZL (Yb (a - b)) _) ?_
  simp -implicitDefEqProofs only [EE,zf,Sf,Nat.reduceAdd,vf,ye,zq,zL];rfl
 by_cases o13:op=13
 ·subst o13
  simp -implicitDefEqProofs only [EE,↓nw,Value.cells,↓BK,Int.reduceEq,vG,mD,wt,xW,xL]
  refine zh (by kernel_rfl) rfl (ZL (Yb (a * b)) _) ?_
  simp -implicitDefEqProofs only [EE,zf,Sf,Nat.reduceAdd,vf,ye,zq,zL];rfl
 by_cases o14:op=14
 ·subst o14
  by_cases b0:b=0
  ·simp -implicitDefEqProofs only [EE,nth,↓nw,Value.cells,↓BK,zf,Sf,Nat.reduceAdd,Int.reduceEq,vf,ye,zq,zL,vG,yT,U4,YE,YF,YG,ZE,wA,wt,xW,xL,wB,b0];simp [Xi,u2,j8,v0]
  by_cases am:a = -9223372036854775808
  ·by_cases b1:b = -1
   ·simp -implicitDefEqProofs only [EE,nth,↓nw,Value.cells,↓BK,zf,Sf,Nat.reduceAdd,Int.reduceEq,Int.reduceNeg,vf,ye,zq,zL,vG,yT,U4,YE,YF,YG,ZE,wA,wt,xW,xL,wB,am,b1];simp [Xi,u2,j8,v0]
   ·simp -implicitDefEqProofs only [EE,nth,↓nw,Value.cells,↓BK,zf,Nat.reduceAdd,Int.reduceEq,Int.reduceNeg,vf,zL,vG,yT,fY,U5,YE,YF,YG,ZE,wA,wt,xW,xL,wB,b0,am,b1]
    refine zh (by kernel_rfl) rfl (ZL (Yb (Int.tdiv (-9223372036854775808) b)) _) ?_
    simp -implicitDefEqProofs only [EE,zf,Sf,Nat.reduceAdd,Int.reduceNeg,vf,ye,zq,zL]
    simp [Xi,u2,j8,b0,b1]
  ·simp -implicitDefEqProofs only [EE,nth,↓nw,Value.cells,↓BK,zf,Nat.reduceAdd,Int.reduceEq,Int.reduceNeg,vf,zL,vG,yT,fY,U5,YE,YF,YG,ZE,wA,wt,xW,xL,wB,b0,am]
   refine zh (by kernel_rfl) rfl (ZL (Yb (a.tdiv b)) _) ?_
   simp -implicitDefEqProofs only [EE,zf,Sf,Nat.reduceAdd,vf,ye,zq,zL]
   simp [Xi,u2,j8,b0,am]
 by_cases o15:op=15
 ·subst o15
  by_cases b0:b=0
  ·simp -implicitDefEqProofs only [EE,nth,↓nw,Value.cells,↓BK,zf,Sf,Nat.reduceAdd,Int.reduceEq,vf,ye,zq,zL,vG,yT,U4,YE,YF,YG,ZE,wA,wt,xW,xL,wB,b0];simp [Xi,u2,j8,v0]
  by_cases am:a = -9223372036854775808
  ·by_cases b1:b = -1
   ·simp -implicitDefEqProofs only [EE,nth,↓nw,Value.cells,↓BK,zf,Sf,Nat.reduceAdd,Int.reduceEq,Int.reduceNeg,vf,ye,zq,zL,vG,yT,U4,YE,YF,YG,ZE,wA,wt,xW,xL,wB,am,b1];simp [Xi,u2,j8,v0]
   ·simp -implicitDefEqProofs only [EE,nth,↓nw,Value.cells,↓BK,zf,Nat.reduceAdd,Int.reduceEq,Int.reduceNeg,vf,zL,vG,yT,fZ,U5,YE,YF,YG,ZE,wA,wt,xW,xL,wB,b0,am,b1]
    refine zh (by kernel_rfl) rfl (ZL ((Int.tmod (-9223372036854775808) b)) _) ?_
    simp -implicitDefEqProofs only [EE,zf,Sf,Nat.reduceAdd,Int.reduceNeg,vf,ye,zq,zL]
    simp [Xi,u2,j8,b0,b1]
  ·simp -implicitDefEqProofs only [EE,nth,↓nw,Value.cells,↓BK,zf,Nat.reduceAdd,Int.reduceEq,Int.reduceNeg,vf,zL,vG,yT,fZ,U5,YE,YF,YG,ZE,wA,wt,xW,xL,wB,b0,am]
   refine zh (by kernel_rfl) rfl (ZL ((a.tmod b)) _) ?_
   simp -implicitDefEqProofs only [EE,zf,Sf,Nat.reduceAdd,vf,ye,zq,zL]
   simp [Xi,u2,j8,b0,am]
 by_cases o16:op=16
 ·subst o16
  simp -implicitDefEqProofs only [EE,nth,↓nw,Value.cells,↓BK,zf,Nat.reduceAdd,Int.reduceEq,vf,zL,vG,yT,mC,uq,wA,wt,xW,xL,wB]
  refine zh (by kernel_rfl) rfl (ZL (X1 (· &&& ·) a b) _) ?_
  simp -implicitDefEqProofs only [EE,zf,Sf,Nat.reduceAdd,vf,ye,zq,zL];rfl
 by_cases o17:op=17
 ·subst o17
  simp -implicitDefEqProofs only [EE,nth,↓nw,Value.cells,↓BK,zf,Nat.reduceAdd,Int.reduceEq,vf,zL,vG,yT,mB,uN,uq,wA,wt,xW,xL,wB]
  refine zh (by kernel_rfl) rfl (ZL (X1 (· ||| ·) a b) _) ?_
  simp -implicitDefEqProofs only [EE,zf,Sf,Nat.reduceAdd,vf,ye,zq,zL];rfl
 by_cases o18:op=18
 ·subst o18
  simp -implicitDefEqProofs only [EE,nth,↓nw,Value.cells,↓BK,zf,Nat.reduceAdd,Int.reduceEq,vf,zL,vG,yT,mA,uW,uN,uq,wA,wt,xW,xL,wB]
  refine zh (by kernel_rfl) rfl (ZL (X1 (· ^^^ ·) a b) _) ?_
  simp -implicitDefEqProofs only [EE,zf,Sf,Nat.reduceAdd,vf,ye,zq,zL];rfl
 by_cases o19:op=19
 ·subst o19
  by_cases b0:b < 0
  ·simp -implicitDefEqProofs only [EE,nth,↓nw,Value.cells,↓BK,zf,Sf,Nat.reduceAdd,Int.reduceEq,vf,ye,zq,zL,vG,yT,U6,Y0,Y4,qf,uW,uN,uq,wA,wt,xW,xL,wB,b0];simp [Xi,u2,j8,v0,b0]
  by_cases b1:63 < b
  ·simp -implicitDefEqProofs only [EE,nth,↓nw,Value.cells,↓BK,zf,Sf,Nat.reduceAdd,Int.reduceEq,vf,ye,zq,zL,vG,yT,U6,Y0,Y4,qf,uW,uN,uq,wA,wt,xW,xL,wB,b0,b1];simp [Xi,u2,j8,v0,b1]
  have b2:0<=b:=by omega
  have b3:min b.toNat 64=b.toNat:=by omega
  simp -implicitDefEqProofs only [EE,nth,↓nw,Value.cells,↓BK,zf,Nat.reduceAdd,Int.reduceEq,vf,zL,vG,yT,rZ,bK,Y0,Y4,qf,uW,uN,uq,wA,wt,xW,xL,wB,b0,b1,b2,IntKind.bits,b3]
  refine zh (by kernel_rfl) rfl (ZL (Yb (a * 2 ^ b.toNat)) _) ?_
  simp -implicitDefEqProofs only [EE,zf,Sf,Nat.reduceAdd,vf,ye,zq,zL]
  simp [Xi,u2,j8,b0,b1]
 by_cases o20:op=20
 ·subst o20
  by_cases b0:b < 0
  ·simp -implicitDefEqProofs only [EE,nth,↓nw,Value.cells,↓BK,zf,Sf,Nat.reduceAdd,Int.reduceEq,vf,ye,zq,zL,vG,yT,U6,Y0,Y4,qf,uW,uN,uq,wA,wt,xW,xL,wB,b0];simp [Xi,u2,j8,v0,b0]
  by_cases b1:63 < b
  ·simp -implicitDefEqProofs only [EE,nth,↓nw,Value.cells,↓BK,zf,Sf,Nat.reduceAdd,Int.reduceEq,vf,ye,zq,zL,vG,yT,U6,Y0,Y4,qf,uW,uN,uq,wA,wt,xW,xL,wB,b0,b1];simp [Xi,u2,j8,v0,b1]
  have b2:0<=b:=by omega
  have b3:min b.toNat 64=b.toNat:=by omega
  simp -implicitDefEqProofs only [EE,nth,↓nw,Value.cells,↓BK,zf,Nat.reduceAdd,Int.reduceEq,vf,zL,vG,yT,mj,bK,Y0,Y4,qf,uW,uN,uq,wA,wt,xW,xL,wB,b0,b1,b2,IntKind.bits,b3]
  refine zh (by kernel_rfl) rfl (ZL (a.fdiv (2 ^ b.toNat)) _) ?_
  simp -implicitDefEqProofs only [EE,zf,Sf,Nat.reduceAdd,vf,ye,zq,zL]
  simp [Xi,u2,j8,b0,b1]
 by_cases o21:op=21
 ·subst o21
  simp -implicitDefEqProofs only [EE,nth,↓nw,Value.cells,↓BK,zf,Nat.reduceAdd,Int.reduceEq,vf,zL,vG,yT,mz,Ys,qf,uW,uN,uq,wA,wt,xW,xL,wB]
  refine zh (by kernel_rfl) rfl (UI (decide (a=b)) _) ?_
  simp -implicitDefEqProofs only [EE,zf,Sf,Nat.reduceAdd,vf,ye,zq,zL];rfl
 by_cases o22:op=22
 ·subst o22
  simp -implicitDefEqProofs only [EE,nth,↓nw,Value.cells,↓BK,zf,Nat.reduceAdd,Int.reduceEq,vf,zL,vG,yT,mw,Y3,Ys,qf,uW,uN,uq,wA,wt,xW,xL,wB]
  refine zh (by kernel_rfl) rfl (UI (!decide (a=b)) _) ?_
  simp -implicitDefEqProofs only [EE,zf,Sf,Nat.reduceAdd,vf,ye,zq,zL];rfl
 by_cases o23:op=23
 ·subst o23
  simp -implicitDefEqProofs only [EE,nth,↓nw,Value.cells,↓BK,zf,Nat.reduceAdd,Int.reduceEq,vf,zL,vG,yT,mr,Wh,Y3,Ys,qf,uW,uN,uq,wA,wt,xW,xL,wB]
  refine zh (by kernel_rfl) rfl (UI (decide (a < b)) _) ?_
  simp -implicitDefEqProofs only [EE,zf,Sf,Nat.reduceAdd,vf,ye,zq,zL];rfl
 by_cases o24:op=24
 ·subst o24
  simp -implicitDefEqProofs only [EE,nth,↓nw,Value.cells,↓BK,zf,Nat.reduceAdd,Int.reduceEq,vf,zL,vG,yT,mq,Vy,Wh,Y3,Ys,qf,uW,uN,uq,wA,wt,xW,xL,wB]
  refine zh (by kernel_rfl) rfl (UI (decide (a<=b)) _) ?_
  simp -implicitDefEqProofs only [EE,zf,Sf,Nat.reduceAdd,vf,ye,zq,zL];rfl
 by_cases o25:op=25
 ·subst o25
  simp -implicitDefEqProofs only [EE,nth,↓nw,Value.cells,↓BK,zf,Nat.reduceAdd,Int.reduceEq,vf,zL,vG,yT,mm,QS,Vy,Wh,Y3,Ys,qf,uW,uN,uq,wA,wt,xW,xL,wB]
  refine zh (by kernel_rfl) rfl (UI (decide (b < a)) _) ?_
  simp -implicitDefEqProofs only [EE,zf,Sf,Nat.reduceAdd,vf,ye,zq,zL];rfl
 by_cases o26:op=26
 ·subst o26
  simp -implicitDefEqProofs only [EE,nth,↓nw,Value.cells,↓BK,zf,Nat.reduceAdd,Int.reduceEq,vf,zL,vG,yT,ml,bL,QS,Vy,Wh,Y3,Ys,qf,uW,uN,uq,wA,wt,xW,xL,wB]
  refine zh (by kernel_rfl) rfl (UI (decide (b<=a)) _) ?_
  simp -implicitDefEqProofs only [EE,zf,Sf,Nat.reduceAdd,vf,ye,zq,zL];rfl
 simp -implicitDefEqProofs only [EE,nth,↓nw,Value.cells,↓BK,zf,Sf,Nat.reduceAdd,vf,ye,zq,zL,vG,yT,bL,QS,Vy,Wh,Y3,Ys,qf,uW,uN,uq,wA,wt,xW,xL,wB,o11,o12,o13,o14,o15,o16,o17,o18,o19,o20,o21,o22,o23,o24,o25,o26]
 simp [Xi,u2,j8,v0,o11,o12,o13,o14,o15,o16,o17,o18,o19,o20,o21,o22,o23,o24,o25,o26]
theorem Cf (a:V):((a.k == (1:Int)) && ((a.n == (0:Int)) && (a.b == (0:Int))))=decide (a=qx 0):=PV a (qx 0)
theorem jc (op:Int) (a b:V) (h:za):vC Tryz.prog 113 [.int .i64 op,vv a,vv b] h (u2 (qq op a b)):=by
 apply jd rfl
 apply AP
 unfold CN
 simp -implicitDefEqProofs only [EE,↓nw,Value.cells,↓BK,Sf,Nat.reduceAdd,ye,zq,vG]
 refine zh (by kernel_rfl) rfl (uC a _) ?_
 have g4:(((h.lock.push (.cells [.int .i64 a.k,.int .i64 a.n,.int .i64 a.b] 64)).push (.cells [.int .i64 b.k,.int .i64 b.n,.int .i64 b.b] 64)).push (.cells [.int .i64 0,.int .i64 0,.int .i64 0] 64)).get h.next=some (.cells [.int .i64 a.k,.int .i64 a.n,.int .i64 a.b] 64):=by
  rw [zU (by show h.next < h.next + 1 + 1;omega),zU (by show h.next < h.next + 1;omega)];exact yd
 have g5:(((h.lock.push (.cells [.int .i64 a.k,.int .i64 a.n,.int .i64 a.b] 64)).push (.cells [.int .i64 b.k,.int .i64 b.n,.int .i64 b.b] 64)).push (.cells [.int .i64 0,.int .i64 0,.int .i64 0] 64)).get (h.next + 1)=some (.cells [.int .i64 b.k,.int .i64 b.n,.int .i64 b.b] 64):=by
  rw [zU (by show h.next + 1 < h.next + 1 + 1;omega)];exact yd
 have g6:(((h.lock.push (.cells [.int .i64 a.k,.int .i64 a.n,.int .i64 a.b] 64)).push (.cells [.int .i64 b.k,.int .i64 b.n,.int .i64 b.b] 64)).push (.cells [.int .i64 0,.int .i64 0,.int .i64 0] 64)).get (h.next + 1 + 1)=some (.cells [.int .i64 0,.int .i64 0,.int .i64 0] 64):=yd
 have r6:(((h.lock.push (.cells [.int .i64 a.k,.int .i64 a.n,.int .i64 a.b] 64)).push (.cells [.int .i64 b.k,.int .i64 b.n,.int .i64 b.b] 64)).push (.cells [.int .i64 0,.int .i64 0,.int .i64 0] 64)).ro<=h.next + 1 + 1:=by show h.next<=h.next + 1 + 1;omega
 generalize (((h.lock.push (.cells [.int .i64 a.k,.int .i64 a.n,.int .i64 a.b] 64)).push (.cells [.int .i64 b.k,.int .i64 b.n,.int .i64 b.b] 64)).push (.cells [.int .i64 0,.int .i64 0,.int .i64 0] 64))=H at g4 g5 g6 r6 ⊢
 have g2:∀ v h',v=Value.tuple #[vv (XZ (decide (a=b) == decide (op=21))),.bool true]->((uE a && uE b) || ((uE a && decide (b=qx 0)) || (decide (a=qx 0) && uE b)))=true->Xi (u2 (qq op a b)) v h':=by
  intro v h' e1 e2
  subst e1
  unfold qq
  rw [Sn e2];rfl
 have g1:∀ h',((uE a && uE b) || ((uE a && decide (b=qx 0)) || (decide (a=qx 0) && uE b)))=false->Xi (u2 (qq op a b)) (.tuple #[vv v0,.bool false]) h':=by
  intro h' e2
  unfold qq
  rw [Sl (by rw [e2];decide)];rfl
 have yes:∀ J,((uE a && uE b) || ((uE a && decide (b=qx 0)) || (decide (a=qx 0) && uE b)))=true->bF (.pointer (some ⟨h.next,0,none⟩)) H (.pointer (some ⟨h.next + 1,0,none⟩)) (.int .i64 op) (.pointer (some ⟨h.next + 1 + 1,0,none⟩)) (Xi (u2 (qq op a b))) J:=by
  intro J e
  simp -implicitDefEqProofs only [EE,Sf,Nat.reduceAdd,ye,zq,OD,Vn,bF,g4,g5]
  rw [PV a b]
  refine zh (by kernel_rfl) rfl (UI _ _) ?_
  simp -implicitDefEqProofs only [EE,zf,Sf,Nat.reduceAdd,vf,ye,zq,zL,g6,r6]
  exact g2 _ _ rfl e
 have no:∀ vs,((uE a && uE b) || ((uE a && decide (b=qx 0)) || (decide (a=qx 0) && uE b)))=false->bH (.pointer (some ⟨h.next + 1 + 1,0,none⟩)) (Xi (u2 (qq op a b))) vs H:=by
  intro vs e
  simp -implicitDefEqProofs only [EE,zf,Sf,Nat.reduceAdd,vf,ye,zq,zL,yT,bH,g6,r6]
  exact g1 _ e
 cases pa:uE a with
 | true=>
   simp -implicitDefEqProofs only [EE,Sf,Nat.reduceAdd,ye,zq,bG,g5]
   refine zh (by kernel_rfl) rfl (uC b _) ?_
   cases pb:uE b with
   | true=>
     simp -implicitDefEqProofs only [EE,nth,QI]
     exact yes _ (by rw [pa,pb];rfl)
   | false=>
     simp -implicitDefEqProofs only [EE,Sf,Nat.reduceAdd,ye,zq,bE,QI,g4]
     refine qu (by kernel_rfl) rfl (uC a _).dc ?_
     rintro _ _ ⟨rfl,rfl⟩
     rw [pa]
     simp -implicitDefEqProofs only [EE,Sf,Nat.reduceAdd,ye,zq,bD,g5]
     refine qR (by kernel_rfl) rfl (ZL 0 _) ?_
     simp -implicitDefEqProofs only [EE,Vn,qx]
     rw [Cf b]
     cases eb:decide (b=qx 0) with
     | true=>
       simp -implicitDefEqProofs only [EE,nth,QH]
       exact yes _ (by rw [pa,pb,eb];rfl)
     | false=>
       simp -implicitDefEqProofs only [EE,Sf,Nat.reduceAdd,ye,zq,QH,g4]
       refine qR (by kernel_rfl) rfl (ZL 0 _) ?_
       simp -implicitDefEqProofs only [EE,Vn,bC,qx]
       rw [Cf a]
       cases ea:decide (a=qx 0) with
       | true=>
         simp -implicitDefEqProofs only [EE,Sf,Nat.reduceAdd,ye,zq,g5]
         refine qu (by kernel_rfl) rfl (uC b _).dc ?_
         rintro _ _ ⟨rfl,rfl⟩
         rw [pb]
         simp -implicitDefEqProofs only [EE,nth]
         exact no _ (by rw [pa,pb,eb,ea];rfl)
       | false=>
         simp -implicitDefEqProofs only [EE,nth]
         exact no _ (by rw [pa,pb,eb,ea];rfl)
 | false=>
   simp -implicitDefEqProofs only [EE,Sf,Nat.reduceAdd,ye,zq,bE,QI,bG,g4]
   refine qu (by kernel_rfl) rfl (uC a _).dc ?_
   rintro _ _ ⟨rfl,rfl⟩
   rw [pa]
   simp -implicitDefEqProofs only [EE,Sf,Nat.reduceAdd,ye,zq,QH,bD,g4]
   refine qR (by kernel_rfl) rfl (ZL 0 _) ?_
   simp -implicitDefEqProofs only [EE,Vn,bC,qx]
   rw [Cf a]
   cases ea:decide (a=qx 0) with
   | true=>
     simp -implicitDefEqProofs only [EE,Sf,Nat.reduceAdd,ye,zq,g5]
     refine qu (by kernel_rfl) rfl (uC b _).dc ?_
     rintro _ _ ⟨rfl,rfl⟩
     cases pb:uE b with
     | true=>
       simp -implicitDefEqProofs only [EE,nth]
       exact yes _ (by rw [pa,pb,ea];cases decide (b=qx 0) <;> rfl)
     | false=>
       simp -implicitDefEqProofs only [EE,nth]
       exact no _ (by rw [pa,pb,ea];rfl)
   | false=>
     simp -implicitDefEqProofs only [EE,nth]
     exact no _ (by rw [pa,ea];rfl)
theorem PF (a:Int):JR Tryz.prog .xor (.int .i64 a)=some (.int .i64 (notM a)):=rfl
theorem RL (op:Int) (a:V) (h:za):vC Tryz.prog 109 [.int .i64 op,vv a] h (u2 (eh op a)):=by
 apply jd rfl
 apply Il
 unfold N6
 simp -implicitDefEqProofs only [EE,↓nw,Value.cells,Sf,Nat.reduceAdd,ye,zq,vG]
 refine zh (by kernel_rfl) rfl (vg a _) ?_
 have g3:((h.lock.push (.cells [.int .i64 a.k,.int .i64 a.n,.int .i64 a.b] 64)).push (.cells [.int .i64 0,.int .i64 0,.int .i64 0] 64)).get h.next=some (.cells [.int .i64 a.k,.int .i64 a.n,.int .i64 a.b] 64):=by
  rw [zU (by show h.next < h.next + 1;omega)];exact yd
 have g4:((h.lock.push (.cells [.int .i64 a.k,.int .i64 a.n,.int .i64 a.b] 64)).push (.cells [.int .i64 0,.int .i64 0,.int .i64 0] 64)).get (h.next + 1)=some (.cells [.int .i64 0,.int .i64 0,.int .i64 0] 64):=yd
 have r4:((h.lock.push (.cells [.int .i64 a.k,.int .i64 a.n,.int .i64 a.b] 64)).push (.cells [.int .i64 0,.int .i64 0,.int .i64 0] 64)).ro<=h.next + 1:=by show h.next<=h.next + 1;omega
 generalize ((h.lock.push (.cells [.int .i64 a.k,.int .i64 a.n,.int .i64 a.b] 64)).push (.cells [.int .i64 0,.int .i64 0,.int .i64 0] 64))=H at g3 g4 r4 ⊢
 cases hi:isInt a with
 | false=>
   simp -implicitDefEqProofs only [EE,zf,Sf,Nat.reduceAdd,vf,ye,zq,zL,yT,FL,g4,r4]
   simp [Xi,u2,eh,hi,v0]
 | true=>
   simp -implicitDefEqProofs only [EE,↓BK]
   by_cases o1:op=1
   ·subst o1
    simp -implicitDefEqProofs only [EE,zw,yQ,wi,FQ,bB,g3]
    refine zh (by kernel_rfl) rfl (ZL (Yb (0 - a.n)) _) ?_
    simp -implicitDefEqProofs only [EE,zf,Sf,Nat.reduceAdd,vf,ye,zq,zL,g4,r4]
    simp [Xi,u2,eh,hi,Yb]
   by_cases o2:op=2
   ·subst o2
    simp -implicitDefEqProofs only [EE,Int.reduceEq,zw,yQ,wi,FP,fo,bB,g3,PF]
    refine zh (by kernel_rfl) rfl (ZL (notM a.n) _) ?_
    simp -implicitDefEqProofs only [EE,zf,Sf,Nat.reduceAdd,vf,ye,zq,zL,g4,r4]
    simp [Xi,u2,eh,hi]
   by_cases o3:op=3
   ·subst o3
    simp -implicitDefEqProofs only [EE,Int.reduceEq,zw,yQ,YK,GS,wi,FO,og,fo,bB,g3]
    refine zh (by kernel_rfl) rfl (ZL (Yb (IntKind.wrap .i8 a.n)) _) ?_
    simp -implicitDefEqProofs only [EE,zf,Sf,Nat.reduceAdd,vf,ye,zq,zL,g4,r4]
    simp [Xi,u2,eh,hi,Yb]
   by_cases o4:op=4
   ·subst o4
    simp -implicitDefEqProofs only [EE,Int.reduceEq,zw,yQ,Z4,eJ,wi,FM,AO,og,fo,bB,g3]
    refine zh (by kernel_rfl) rfl (ZL (Yb (IntKind.wrap .i32 a.n)) _) ?_
    simp -implicitDefEqProofs only [EE,zf,Sf,Nat.reduceAdd,vf,ye,zq,zL,g4,r4]
    simp [Xi,u2,eh,hi,Yb]
   simp -implicitDefEqProofs only [EE,zf,Sf,Nat.reduceAdd,vf,ye,zq,zL,yT,AO,og,fo,bB,CM,g4,r4,o1,o2,o3,o4]
   simp [Xi,u2,eh,hi,v0,o1,o2,o3,o4]
theorem xp (o:Option V):u2 o = .tuple #[.agg #[.int .i64 (o.getD v0).k,.int .i64 (o.getD v0).n,.int .i64 (o.getD v0).b],.bool o.isSome]:=rfl
theorem kinds (a:V):(isInt a=true/\uE a=false)\/(isInt a=false/\uE a=true)\/(isInt a=false/\uE a=false):=by
 unfold isInt uE
 by_cases h1:a.k=1
 ·have h2:¬ a.k=2:=by omega
  cases Qk a <;> simp [h1]
 ·by_cases h2:a.k=2
  ·cases Qk a <;> simp [h2]
  ·simp [h1,h2]
theorem GL (op:Int) (a b:V) (h:za):vC Tryz.prog 91 [.int .i64 op,vv a,vv b] h (u2 (yu op a b)):=by
 apply jd rfl
 apply FG
 unfold LO
 simp -implicitDefEqProofs only [EE,↓nw,Value.cells,↓BK,Sf,Nat.reduceAdd,ye,zq,vG,rk]
 refine zh (by kernel_rfl) rfl (vg a _) ?_
 have g4:(((h.lock.push (.cells [.int .i64 a.k,.int .i64 a.n,.int .i64 a.b] 64)).push (.cells [.int .i64 b.k,.int .i64 b.n,.int .i64 b.b] 64)).push (.cells [.int .i64 0,.int .i64 0,.int .i64 0] 64)).get h.next=some (.cells [.int .i64 a.k,.int .i64 a.n,.int .i64 a.b] 64):=by
  rw [zU (by show h.next < h.next + 1 + 1;omega),zU (by show h.next < h.next + 1;omega)];exact yd
 have g5:(((h.lock.push (.cells [.int .i64 a.k,.int .i64 a.n,.int .i64 a.b] 64)).push (.cells [.int .i64 b.k,.int .i64 b.n,.int .i64 b.b] 64)).push (.cells [.int .i64 0,.int .i64 0,.int .i64 0] 64)).get (h.next + 1)=some (.cells [.int .i64 b.k,.int .i64 b.n,.int .i64 b.b] 64):=by
  rw [zU (by show h.next + 1 < h.next + 1 + 1;omega)];exact yd
 have g6:(((h.lock.push (.cells [.int .i64 a.k,.int .i64 a.n,.int .i64 a.b] 64)).push (.cells [.int .i64 b.k,.int .i64 b.n,.int .i64 b.b] 64)).push (.cells [.int .i64 0,.int .i64 0,.int .i64 0] 64)).get (h.next + 1 + 1)=some (.cells [.int .i64 0,.int .i64 0,.int .i64 0] 64):=yd
 have r6:(((h.lock.push (.cells [.int .i64 a.k,.int .i64 a.n,.int .i64 a.b] 64)).push (.cells [.int .i64 b.k,.int .i64 b.n,.int .i64 b.b] 64)).push (.cells [.int .i64 0,.int .i64 0,.int .i64 0] 64)).ro<=h.next + 1 + 1:=by show h.next<=h.next + 1 + 1;omega
 generalize (((h.lock.push (.cells [.int .i64 a.k,.int .i64 a.n,.int .i64 a.b] 64)).push (.cells [.int .i64 b.k,.int .i64 b.n,.int .i64 b.b] 64)).push (.cells [.int .i64 0,.int .i64 0,.int .i64 0] 64))=H at g4 g5 g6 r6 ⊢
 have xa:(isInt a=true/\uE a=false)\/(isInt a=false/\uE a=true)\/(isInt a=false/\uE a=false):=kinds a
 have xb:(isInt b=true/\uE b=false)\/(isInt b=false/\uE b=true)\/(isInt b=false/\uE b=false):=kinds b
 by_cases o11:op=11
 ·subst o11
  rcases xa with ⟨ia,pa⟩ | ⟨ia,pa⟩ | ⟨ia,pa⟩ <;> rcases xb with ⟨ib,pb⟩ | ⟨ib,pb⟩ | ⟨ib,pb⟩
  ·have e:yu 11 a b=j8 11 a.n b.n:=by simp [yu,ia,ib]
   rw [e]
   simp -implicitDefEqProofs only [EE,Sf,Nat.reduceAdd,ye,zq,yf,g5,ia]
   repeat (first | (refine zh (by kernel_rfl) rfl (vg b H) ?_;simp -implicitDefEqProofs only [EE,zw,yQ,wi,Vw,g4,g5,ia,ib]))
   refine zh (by kernel_rfl) rfl (ir _ a.n b.n H) ?_
   simp only [xp,EE,zf,Sf,Nat.reduceAdd,vf,ye,zq,zL,QB,g6,r6];rfl
  ·simp -implicitDefEqProofs only [EE,Sf,Nat.reduceAdd,ye,zq,yf,g5,ia]
   repeat (first | (refine zh (by kernel_rfl) rfl (vg a H) ?_;simp -implicitDefEqProofs only [EE,Sf,Nat.reduceAdd,ye,zq,yA,g5,ia]) | (refine zh (by kernel_rfl) rfl (vg b H) ?_;simp -implicitDefEqProofs only [EE,Sf,Nat.reduceAdd,ye,zq,yy,yz,g4,ia,ib]) | (refine zh (by kernel_rfl) rfl (uC a H) ?_;simp -implicitDefEqProofs only [EE,Sf,Nat.reduceAdd,ye,zq,yB,yC,yx,g4,pa]) | (refine zh (by kernel_rfl) rfl (uC b H) ?_;simp -implicitDefEqProofs only [EE,zw,yQ,zi,wi,uB,CL,g4,g5,pb]))
   refine zh (by kernel_rfl) rfl (GF b.b (Yb (a.n + b.n)) H) ?_
   simp -implicitDefEqProofs only [EE,zf,Sf,Nat.reduceAdd,vf,ye,zq,zL,g6,r6]
   simp [Xi,u2,yu,ia,ib,pa,pb]
  ·simp -implicitDefEqProofs only [EE,Sf,Nat.reduceAdd,ye,zq,yf,g5,ia]
   repeat (first | (refine zh (by kernel_rfl) rfl (vg a H) ?_;simp -implicitDefEqProofs only [EE,Sf,Nat.reduceAdd,ye,zq,yA,g5,ia]) | (refine zh (by kernel_rfl) rfl (vg b H) ?_;simp -implicitDefEqProofs only [EE,Sf,Nat.reduceAdd,ye,zq,yy,yz,g4,ia,ib]) | (refine zh (by kernel_rfl) rfl (uC a H) ?_;simp -implicitDefEqProofs only [EE,Sf,Nat.reduceAdd,ye,zq,yB,yC,yx,g4,pa]) | (refine zh (by kernel_rfl) rfl (uC b H) ?_;simp -implicitDefEqProofs only [EE,zf,Sf,Nat.reduceAdd,Int.reduceEq,vf,ye,zq,zL,yT,wa,wg,wh,xN,xO,yH,vK,g6,r6,pb]))
   simp [Xi,u2,yu,ia,ib,pa,pb,v0]
  ·simp -implicitDefEqProofs only [EE,Sf,Nat.reduceAdd,ye,zq,yy,yz,yf,g4,ia]
   repeat (first | (refine zh (by kernel_rfl) rfl (vg b H) ?_;simp -implicitDefEqProofs only [EE,zw,yQ,zi,wi,uB,rj,g4,g5,ib]) | (refine zh (by kernel_rfl) rfl (uC a H) ?_;simp -implicitDefEqProofs only [EE,Sf,Nat.reduceAdd,ye,zq,yx,g5,pa]))
   refine zh (by kernel_rfl) rfl (GF a.b (Yb (a.n + b.n)) H) ?_
   simp -implicitDefEqProofs only [EE,zf,Sf,Nat.reduceAdd,vf,ye,zq,zL,g6,r6]
   simp [Xi,u2,yu,ia,ib,pa]
  ·simp -implicitDefEqProofs only [EE,Sf,Nat.reduceAdd,ye,zq,yy,yz,yf,g4,ia]
   repeat (first | (refine zh (by kernel_rfl) rfl (vg a H) ?_;simp -implicitDefEqProofs only [EE,zf,Sf,Nat.reduceAdd,Int.reduceEq,vf,ye,zq,zL,yT,wa,wg,wh,xN,xO,yH,yA,vK,g6,r6,ia]) | (refine zh (by kernel_rfl) rfl (vg b H) ?_;simp -implicitDefEqProofs only [EE,Sf,Nat.reduceAdd,ye,zq,yB,yC,g4,ib]) | (refine zh (by kernel_rfl) rfl (uC a H) ?_;simp -implicitDefEqProofs only [EE,Sf,Nat.reduceAdd,ye,zq,yx,g5,pa]))
   simp [Xi,u2,yu,ia,ib,pa,pb,v0]
  ·simp -implicitDefEqProofs only [EE,Sf,Nat.reduceAdd,ye,zq,yy,yz,yf,g4,ia]
   repeat (first | (refine zh (by kernel_rfl) rfl (vg a H) ?_;simp -implicitDefEqProofs only [EE,zf,Sf,Nat.reduceAdd,Int.reduceEq,vf,ye,zq,zL,yT,wa,wg,wh,xN,xO,yH,yA,vK,g6,r6,ia]) | (refine zh (by kernel_rfl) rfl (vg b H) ?_;simp -implicitDefEqProofs only [EE,Sf,Nat.reduceAdd,ye,zq,yB,yC,g4,ib]) | (refine zh (by kernel_rfl) rfl (uC a H) ?_;simp -implicitDefEqProofs only [EE,Sf,Nat.reduceAdd,ye,zq,yx,g5,pa]))
   simp [Xi,u2,yu,ia,ib,pa,pb,v0]
  ·simp -implicitDefEqProofs only [EE,Sf,Nat.reduceAdd,ye,zq,yy,yz,yf,g4,ia]
   repeat (first | (refine zh (by kernel_rfl) rfl (vg a H) ?_;simp -implicitDefEqProofs only [EE,zf,Sf,Nat.reduceAdd,Int.reduceEq,vf,ye,zq,zL,yT,wa,wg,wh,xN,xO,yH,yA,vK,g6,r6,ia]) | (refine zh (by kernel_rfl) rfl (uC a H) ?_;simp -implicitDefEqProofs only [EE,Sf,Nat.reduceAdd,ye,zq,yB,yC,yx,g4,pa]))
   simp [Xi,u2,yu,ia,ib,pa,pb,v0]
  ·simp -implicitDefEqProofs only [EE,Sf,Nat.reduceAdd,ye,zq,yy,yz,yf,g4,ia]
   repeat (first | (refine zh (by kernel_rfl) rfl (vg a H) ?_;simp -implicitDefEqProofs only [EE,zf,Sf,Nat.reduceAdd,Int.reduceEq,vf,ye,zq,zL,yT,wa,wg,wh,xN,xO,yH,yA,vK,g6,r6,ia]) | (refine zh (by kernel_rfl) rfl (uC a H) ?_;simp -implicitDefEqProofs only [EE,Sf,Nat.reduceAdd,ye,zq,yB,yC,yx,g4,pa]))
   simp [Xi,u2,yu,ia,ib,pa,pb,v0]
  ·simp -implicitDefEqProofs only [EE,Sf,Nat.reduceAdd,ye,zq,yy,yz,yf,g4,ia]
   repeat (first | (refine zh (by kernel_rfl) rfl (vg a H) ?_;simp -implicitDefEqProofs only [EE,zf,Sf,Nat.reduceAdd,Int.reduceEq,vf,ye,zq,zL,yT,wa,wg,wh,xN,xO,yH,yA,vK,g6,r6,ia]) | (refine zh (by kernel_rfl) rfl (uC a H) ?_;simp -implicitDefEqProofs only [EE,Sf,Nat.reduceAdd,ye,zq,yB,yC,yx,g4,pa]))
   simp [Xi,u2,yu,ia,ib,pa,pb,v0]
 by_cases o12:op=12
 ·subst o12
  rcases xa with ⟨ia,pa⟩ | ⟨ia,pa⟩ | ⟨ia,pa⟩ <;> rcases xb with ⟨ib,pb⟩ | ⟨ib,pb⟩ | ⟨ib,pb⟩
  ·have e:yu 12 a b=j8 12 a.n b.n:=by simp [yu,ia,ib]
   rw [e]
   simp -implicitDefEqProofs only [EE,Sf,Nat.reduceAdd,ye,zq,yf,g5,ia]
   repeat (first | (refine zh (by kernel_rfl) rfl (vg b H) ?_;simp -implicitDefEqProofs only [EE,zw,yQ,wi,Vw,g4,g5,ia,ib]))
   refine zh (by kernel_rfl) rfl (ir _ a.n b.n H) ?_
   simp only [xp,EE,zf,Sf,Nat.reduceAdd,vf,ye,zq,zL,QB,g6,r6];rfl
  ·simp -implicitDefEqProofs only [EE,Sf,Nat.reduceAdd,ye,zq,yf,g5,ia]
   repeat (first | (refine zh (by kernel_rfl) rfl (vg b H) ?_;simp -implicitDefEqProofs only [EE,Sf,Nat.reduceAdd,Int.reduceEq,ye,zq,xO,yH,yA,yB,yC,yx,yy,yz,g4,ia,ib]) | (refine zh (by kernel_rfl) rfl (uC a H) ?_;simp -implicitDefEqProofs only [EE,zf,Sf,Nat.reduceAdd,Int.reduceEq,vf,ye,zq,zL,yT,wa,wg,wh,xN,vK,g6,r6,pa]))
   simp [Xi,u2,yu,ia,ib,pa,pb,v0]
  ·simp -implicitDefEqProofs only [EE,Sf,Nat.reduceAdd,ye,zq,yf,g5,ia]
   repeat (first | (refine zh (by kernel_rfl) rfl (vg b H) ?_;simp -implicitDefEqProofs only [EE,Sf,Nat.reduceAdd,Int.reduceEq,ye,zq,xO,yH,yA,yB,yC,yx,yy,yz,g4,ia,ib]) | (refine zh (by kernel_rfl) rfl (uC a H) ?_;simp -implicitDefEqProofs only [EE,zf,Sf,Nat.reduceAdd,Int.reduceEq,vf,ye,zq,zL,yT,wa,wg,wh,xN,vK,g6,r6,pa]))
   simp [Xi,u2,yu,ia,ib,pa,pb,v0]
  ·simp -implicitDefEqProofs only [EE,Sf,Nat.reduceAdd,Int.reduceEq,ye,zq,xO,yH,yA,yB,yC,yx,yy,yz,yf,g4,ia]
   repeat (first | (refine zh (by kernel_rfl) rfl (vg b H) ?_;simp -implicitDefEqProofs only [EE,zw,yQ,zi,wi,uB,CK,g4,g5,ib]) | (refine zh (by kernel_rfl) rfl (uC a H) ?_;simp -implicitDefEqProofs only [EE,Sf,Nat.reduceAdd,ye,zq,xN,g5,pa]))
   refine zh (by kernel_rfl) rfl (GF a.b (Yb (a.n - b.n)) H) ?_
   simp -implicitDefEqProofs only [EE,zf,Sf,Nat.reduceAdd,vf,ye,zq,zL,g6,r6]
   simp [Xi,u2,yu,ia,ib,pa,pb]
  ·simp -implicitDefEqProofs only [EE,Sf,Nat.reduceAdd,Int.reduceEq,ye,zq,xO,yH,yA,yB,yC,yx,yy,yz,yf,g4,ia]
   repeat (first | (refine zh (by kernel_rfl) rfl (vg b H) ?_;simp -implicitDefEqProofs only [EE,zf,Sf,Nat.reduceAdd,Int.reduceEq,vf,ye,zq,zL,yT,wa,wg,wh,vK,g6,r6,ib]) | (refine zh (by kernel_rfl) rfl (uC a H) ?_;simp -implicitDefEqProofs only [EE,Sf,Nat.reduceAdd,ye,zq,xN,g5,pa]))
   simp [Xi,u2,yu,ia,ib,pa,pb,v0]
  ·simp -implicitDefEqProofs only [EE,Sf,Nat.reduceAdd,Int.reduceEq,ye,zq,xO,yH,yA,yB,yC,yx,yy,yz,yf,g4,ia]
   repeat (first | (refine zh (by kernel_rfl) rfl (vg b H) ?_;simp -implicitDefEqProofs only [EE,zf,Sf,Nat.reduceAdd,Int.reduceEq,vf,ye,zq,zL,yT,wa,wg,wh,vK,g6,r6,ib]) | (refine zh (by kernel_rfl) rfl (uC a H) ?_;simp -implicitDefEqProofs only [EE,Sf,Nat.reduceAdd,ye,zq,xN,g5,pa]))
   simp [Xi,u2,yu,ia,ib,pa,pb,v0]
  ·simp -implicitDefEqProofs only [EE,Sf,Nat.reduceAdd,Int.reduceEq,ye,zq,xO,yH,yA,yB,yC,yx,yy,yz,yf,g4,ia]
   repeat (first | (refine zh (by kernel_rfl) rfl (uC a H) ?_;simp -implicitDefEqProofs only [EE,zf,Sf,Nat.reduceAdd,Int.reduceEq,vf,ye,zq,zL,yT,wa,wg,wh,xN,vK,g6,r6,pa]))
   simp [Xi,u2,yu,ia,ib,pa,pb,v0]
  ·simp -implicitDefEqProofs only [EE,Sf,Nat.reduceAdd,Int.reduceEq,ye,zq,xO,yH,yA,yB,yC,yx,yy,yz,yf,g4,ia]
   repeat (first | (refine zh (by kernel_rfl) rfl (uC a H) ?_;simp -implicitDefEqProofs only [EE,zf,Sf,Nat.reduceAdd,Int.reduceEq,vf,ye,zq,zL,yT,wa,wg,wh,xN,vK,g6,r6,pa]))
   simp [Xi,u2,yu,ia,ib,pa,pb,v0]
  ·simp -implicitDefEqProofs only [EE,Sf,Nat.reduceAdd,Int.reduceEq,ye,zq,xO,yH,yA,yB,yC,yx,yy,yz,yf,g4,ia]
   repeat (first | (refine zh (by kernel_rfl) rfl (uC a H) ?_;simp -implicitDefEqProofs only [EE,zf,Sf,Nat.reduceAdd,Int.reduceEq,vf,ye,zq,zL,yT,wa,wg,wh,xN,vK,g6,r6,pa]))
   simp [Xi,u2,yu,ia,ib,pa,pb,v0]
 by_cases o21:op=21
 ·subst o21
  rcases xa with ⟨ia,pa⟩ | ⟨ia,pa⟩ | ⟨ia,pa⟩ <;> rcases xb with ⟨ib,pb⟩ | ⟨ib,pb⟩ | ⟨ib,pb⟩
  ·have e:yu 21 a b=j8 21 a.n b.n:=by simp [yu,ia,ib]
   rw [e]
   simp -implicitDefEqProofs only [EE,Sf,Nat.reduceAdd,ye,zq,yf,g5,ia]
   repeat (first | (refine zh (by kernel_rfl) rfl (vg b H) ?_;simp -implicitDefEqProofs only [EE,zw,yQ,wi,Vw,g4,g5,ia,ib]))
   refine zh (by kernel_rfl) rfl (ir _ a.n b.n H) ?_
   simp only [xp,EE,zf,Sf,Nat.reduceAdd,vf,ye,zq,zL,QB,g6,r6];rfl
  ·have e:yu 21 a b=qq 21 a b:=by simp [yu,ia,ib,pa,pb]
   rw [e]
   simp -implicitDefEqProofs only [EE,Sf,Nat.reduceAdd,ye,zq,yf,g5,ia]
   repeat (first | (refine zh (by kernel_rfl) rfl (vg b H) ?_;simp -implicitDefEqProofs only [EE,Sf,Nat.reduceAdd,Int.reduceEq,ye,zq,wa,wg,wh,xN,xO,yH,yA,yB,yC,yx,yy,yz,g4,g5,ia,ib]))
   refine zh (by kernel_rfl) rfl (jc _ a b H) ?_
   simp only [xp,EE,zf,Sf,Nat.reduceAdd,vf,ye,zq,zL,q9,g6,r6];rfl
  ·have e:yu 21 a b=qq 21 a b:=by simp [yu,ia,ib,pa,pb]
   rw [e]
   simp -implicitDefEqProofs only [EE,Sf,Nat.reduceAdd,ye,zq,yf,g5,ia]
   repeat (first | (refine zh (by kernel_rfl) rfl (vg b H) ?_;simp -implicitDefEqProofs only [EE,Sf,Nat.reduceAdd,Int.reduceEq,ye,zq,wa,wg,wh,xN,xO,yH,yA,yB,yC,yx,yy,yz,g4,g5,ia,ib]))
   refine zh (by kernel_rfl) rfl (jc _ a b H) ?_
   simp only [xp,EE,zf,Sf,Nat.reduceAdd,vf,ye,zq,zL,q9,g6,r6];rfl
  ·have e:yu 21 a b=qq 21 a b:=by simp [yu,ia,ib,pa,pb]
   rw [e]
   simp -implicitDefEqProofs only [EE,Sf,Nat.reduceAdd,Int.reduceEq,ye,zq,wa,wg,wh,xN,xO,yH,yA,yB,yC,yx,yy,yz,yf,g4,g5,ia]
   skip
   refine zh (by kernel_rfl) rfl (jc _ a b H) ?_
   simp only [xp,EE,zf,Sf,Nat.reduceAdd,vf,ye,zq,zL,q9,g6,r6];rfl
  ·have e:yu 21 a b=qq 21 a b:=by simp [yu,ia,ib,pa,pb]
   rw [e]
   simp -implicitDefEqProofs only [EE,Sf,Nat.reduceAdd,Int.reduceEq,ye,zq,wa,wg,wh,xN,xO,yH,yA,yB,yC,yx,yy,yz,yf,g4,g5,ia]
   skip
   refine zh (by kernel_rfl) rfl (jc _ a b H) ?_
   simp only [xp,EE,zf,Sf,Nat.reduceAdd,vf,ye,zq,zL,q9,g6,r6];rfl
  ·have e:yu 21 a b=qq 21 a b:=by simp [yu,ia,ib,pa,pb]
   rw [e]
   simp -implicitDefEqProofs only [EE,Sf,Nat.reduceAdd,Int.reduceEq,ye,zq,wa,wg,wh,xN,xO,yH,yA,yB,yC,yx,yy,yz,yf,g4,g5,ia]
   skip
   refine zh (by kernel_rfl) rfl (jc _ a b H) ?_
   simp only [xp,EE,zf,Sf,Nat.reduceAdd,vf,ye,zq,zL,q9,g6,r6];rfl
  ·have e:yu 21 a b=qq 21 a b:=by simp [yu,ia,ib,pa,pb]
   rw [e]
   simp -implicitDefEqProofs only [EE,Sf,Nat.reduceAdd,Int.reduceEq,ye,zq,wa,wg,wh,xN,xO,yH,yA,yB,yC,yx,yy,yz,yf,g4,g5,ia]
   skip
   refine zh (by kernel_rfl) rfl (jc _ a b H) ?_
   simp only [xp,EE,zf,Sf,Nat.reduceAdd,vf,ye,zq,zL,q9,g6,r6];rfl
  ·have e:yu 21 a b=qq 21 a b:=by simp [yu,ia,ib,pa,pb]
   rw [e]
   simp -implicitDefEqProofs only [EE,Sf,Nat.reduceAdd,Int.reduceEq,ye,zq,wa,wg,wh,xN,xO,yH,yA,yB,yC,yx,yy,yz,yf,g4,g5,ia]
   skip
   refine zh (by kernel_rfl) rfl (jc _ a b H) ?_
   simp only [xp,EE,zf,Sf,Nat.reduceAdd,vf,ye,zq,zL,q9,g6,r6];rfl
  ·have e:yu 21 a b=qq 21 a b:=by simp [yu,ia,ib,pa,pb]
   rw [e]
   simp -implicitDefEqProofs only [EE,Sf,Nat.reduceAdd,Int.reduceEq,ye,zq,wa,wg,wh,xN,xO,yH,yA,yB,yC,yx,yy,yz,yf,g4,g5,ia]
   skip
   refine zh (by kernel_rfl) rfl (jc _ a b H) ?_
   simp only [xp,EE,zf,Sf,Nat.reduceAdd,vf,ye,zq,zL,q9,g6,r6];rfl
 by_cases o22:op=22
 ·subst o22
  rcases xa with ⟨ia,pa⟩ | ⟨ia,pa⟩ | ⟨ia,pa⟩ <;> rcases xb with ⟨ib,pb⟩ | ⟨ib,pb⟩ | ⟨ib,pb⟩
  ·have e:yu 22 a b=j8 22 a.n b.n:=by simp [yu,ia,ib]
   rw [e]
   simp -implicitDefEqProofs only [EE,Sf,Nat.reduceAdd,ye,zq,yf,g5,ia]
   repeat (first | (refine zh (by kernel_rfl) rfl (vg b H) ?_;simp -implicitDefEqProofs only [EE,zw,yQ,wi,Vw,g4,g5,ia,ib]))
   refine zh (by kernel_rfl) rfl (ir _ a.n b.n H) ?_
   simp only [xp,EE,zf,Sf,Nat.reduceAdd,vf,ye,zq,zL,QB,g6,r6];rfl
  ·have e:yu 22 a b=qq 22 a b:=by simp [yu,ia,ib,pa,pb]
   rw [e]
   simp -implicitDefEqProofs only [EE,Sf,Nat.reduceAdd,ye,zq,yf,g5,ia]
   repeat (first | (refine zh (by kernel_rfl) rfl (vg b H) ?_;simp -implicitDefEqProofs only [EE,Sf,Nat.reduceAdd,Int.reduceEq,ye,zq,wa,wg,wh,xN,xO,yH,yA,yB,yC,yx,yy,yz,g4,g5,ia,ib]))
   refine zh (by kernel_rfl) rfl (jc _ a b H) ?_
   simp only [xp,EE,zf,Sf,Nat.reduceAdd,vf,ye,zq,zL,q9,g6,r6];rfl
  ·have e:yu 22 a b=qq 22 a b:=by simp [yu,ia,ib,pa,pb]
   rw [e]
   simp -implicitDefEqProofs only [EE,Sf,Nat.reduceAdd,ye,zq,yf,g5,ia]
   repeat (first | (refine zh (by kernel_rfl) rfl (vg b H) ?_;simp -implicitDefEqProofs only [EE,Sf,Nat.reduceAdd,Int.reduceEq,ye,zq,wa,wg,wh,xN,xO,yH,yA,yB,yC,yx,yy,yz,g4,g5,ia,ib]))
   refine zh (by kernel_rfl) rfl (jc _ a b H) ?_
   simp only [xp,EE,zf,Sf,Nat.reduceAdd,vf,ye,zq,zL,q9,g6,r6];rfl
  ·have e:yu 22 a b=qq 22 a b:=by simp [yu,ia,ib,pa,pb]
   rw [e]
   simp -implicitDefEqProofs only [EE,Sf,Nat.reduceAdd,Int.reduceEq,ye,zq,wa,wg,wh,xN,xO,yH,yA,yB,yC,yx,yy,yz,yf,g4,g5,ia]
   skip
   refine zh (by kernel_rfl) rfl (jc _ a b H) ?_
   simp only [xp,EE,zf,Sf,Nat.reduceAdd,vf,ye,zq,zL,q9,g6,r6];rfl
  ·have e:yu 22 a b=qq 22 a b:=by simp [yu,ia,ib,pa,pb]
   rw [e]
   simp -implicitDefEqProofs only [EE,Sf,Nat.reduceAdd,Int.reduceEq,ye,zq,wa,wg,wh,xN,xO,yH,yA,yB,yC,yx,yy,yz,yf,g4,g5,ia]
   skip
   refine zh (by kernel_rfl) rfl (jc _ a b H) ?_
   simp only [xp,EE,zf,Sf,Nat.reduceAdd,vf,ye,zq,zL,q9,g6,r6];rfl
  ·have e:yu 22 a b=qq 22 a b:=by simp [yu,ia,ib,pa,pb]
   rw [e]
   simp -implicitDefEqProofs only [EE,Sf,Nat.reduceAdd,Int.reduceEq,ye,zq,wa,wg,wh,xN,xO,yH,yA,yB,yC,yx,yy,yz,yf,g4,g5,ia]
   skip
   refine zh (by kernel_rfl) rfl (jc _ a b H) ?_
   simp only [xp,EE,zf,Sf,Nat.reduceAdd,vf,ye,zq,zL,q9,g6,r6];rfl
  ·have e:yu 22 a b=qq 22 a b:=by simp [yu,ia,ib,pa,pb]
   rw [e]
   simp -implicitDefEqProofs only [EE,Sf,Nat.reduceAdd,Int.reduceEq,ye,zq,wa,wg,wh,xN,xO,yH,yA,yB,yC,yx,yy,yz,yf,g4,g5,ia]
   skip
   refine zh (by kernel_rfl) rfl (jc _ a b H) ?_
   simp only [xp,EE,zf,Sf,Nat.reduceAdd,vf,ye,zq,zL,q9,g6,r6];rfl
  ·have e:yu 22 a b=qq 22 a b:=by simp [yu,ia,ib,pa,pb]
   rw [e]
   simp -implicitDefEqProofs only [EE,Sf,Nat.reduceAdd,Int.reduceEq,ye,zq,wa,wg,wh,xN,xO,yH,yA,yB,yC,yx,yy,yz,yf,g4,g5,ia]
   skip
   refine zh (by kernel_rfl) rfl (jc _ a b H) ?_
   simp only [xp,EE,zf,Sf,Nat.reduceAdd,vf,ye,zq,zL,q9,g6,r6];rfl
  ·have e:yu 22 a b=qq 22 a b:=by simp [yu,ia,ib,pa,pb]
   rw [e]
   simp -implicitDefEqProofs only [EE,Sf,Nat.reduceAdd,Int.reduceEq,ye,zq,wa,wg,wh,xN,xO,yH,yA,yB,yC,yx,yy,yz,yf,g4,g5,ia]
   skip
   refine zh (by kernel_rfl) rfl (jc _ a b H) ?_
   simp only [xp,EE,zf,Sf,Nat.reduceAdd,vf,ye,zq,zL,q9,g6,r6];rfl
 ·skip
  rcases xa with ⟨ia,pa⟩ | ⟨ia,pa⟩ | ⟨ia,pa⟩ <;> rcases xb with ⟨ib,pb⟩ | ⟨ib,pb⟩ | ⟨ib,pb⟩
  ·have e:yu op a b=j8 op a.n b.n:=by simp [yu,ia,ib]
   rw [e]
   simp -implicitDefEqProofs only [EE,Sf,Nat.reduceAdd,ye,zq,yf,g5,ia]
   repeat (first | (refine zh (by kernel_rfl) rfl (vg b H) ?_;simp -implicitDefEqProofs only [EE,zw,yQ,wi,Vw,g4,g5,ia,ib]))
   refine zh (by kernel_rfl) rfl (ir _ a.n b.n H) ?_
   simp only [xp,EE,zf,Sf,Nat.reduceAdd,vf,ye,zq,zL,QB,g6,r6];rfl
  ·simp -implicitDefEqProofs only [EE,Sf,Nat.reduceAdd,ye,zq,yf,g5,ia]
   repeat (first | (refine zh (by kernel_rfl) rfl (vg b H) ?_;simp -implicitDefEqProofs only [EE,zf,Sf,Nat.reduceAdd,vf,ye,zq,zL,yT,wa,wg,wh,xN,xO,yH,yA,yB,yC,yx,yy,yz,vK,g6,r6,ia,ib,o11,o12,o21,o22]))
   simp [Xi,u2,yu,ia,ib,pa,pb,v0,o11,o12,o21,o22]
  ·simp -implicitDefEqProofs only [EE,Sf,Nat.reduceAdd,ye,zq,yf,g5,ia]
   repeat (first | (refine zh (by kernel_rfl) rfl (vg b H) ?_;simp -implicitDefEqProofs only [EE,zf,Sf,Nat.reduceAdd,vf,ye,zq,zL,yT,wa,wg,wh,xN,xO,yH,yA,yB,yC,yx,yy,yz,vK,g6,r6,ia,ib,o11,o12,o21,o22]))
   simp [Xi,u2,yu,ia,ib,pa,pb,v0,o11,o12,o21,o22]
  ·simp -implicitDefEqProofs only [EE,zf,Sf,Nat.reduceAdd,vf,ye,zq,zL,yT,wa,wg,wh,xN,xO,yH,yA,yB,yC,yx,yy,yz,yf,vK,g6,r6,ia,o11,o12,o21,o22]
   skip
   simp [Xi,u2,yu,ia,ib,pa,pb,v0,o11,o12,o21,o22]
  ·simp -implicitDefEqProofs only [EE,zf,Sf,Nat.reduceAdd,vf,ye,zq,zL,yT,wa,wg,wh,xN,xO,yH,yA,yB,yC,yx,yy,yz,yf,vK,g6,r6,ia,o11,o12,o21,o22]
   skip
   simp [Xi,u2,yu,ia,ib,pa,pb,v0,o11,o12,o21,o22]
  ·simp -implicitDefEqProofs only [EE,zf,Sf,Nat.reduceAdd,vf,ye,zq,zL,yT,wa,wg,wh,xN,xO,yH,yA,yB,yC,yx,yy,yz,yf,vK,g6,r6,ia,o11,o12,o21,o22]
   skip
   simp [Xi,u2,yu,ia,ib,pa,pb,v0,o11,o12,o21,o22]
  ·simp -implicitDefEqProofs only [EE,zf,Sf,Nat.reduceAdd,vf,ye,zq,zL,yT,wa,wg,wh,xN,xO,yH,yA,yB,yC,yx,yy,yz,yf,vK,g6,r6,ia,o11,o12,o21,o22]
   skip
   simp [Xi,u2,yu,ia,ib,pa,pb,v0,o11,o12,o21,o22]
  ·simp -implicitDefEqProofs only [EE,zf,Sf,Nat.reduceAdd,vf,ye,zq,zL,yT,wa,wg,wh,xN,xO,yH,yA,yB,yC,yx,yy,yz,yf,vK,g6,r6,ia,o11,o12,o21,o22]
   skip
   simp [Xi,u2,yu,ia,ib,pa,pb,v0,o11,o12,o21,o22]
  ·simp -implicitDefEqProofs only [EE,zf,Sf,Nat.reduceAdd,vf,ye,zq,zL,yT,wa,wg,wh,xN,xO,yH,yA,yB,yC,yx,yy,yz,yf,vK,g6,r6,ia,o11,o12,o21,o22]
   skip
   simp [Xi,u2,yu,ia,ib,pa,pb,v0,o11,o12,o21,o22]
end Go.Rm
