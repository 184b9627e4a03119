/- A part of the proof. -/
import Derived.Test.YtfhacoddmpbgnaaDoorTA
import GoSem.Builtin.Delete
import Derived.Lib.Builder
import Derived.Lib.UnsafeStr
import Derived.LaidEqlPtr
import GoSem.Builtin.Cap
import GoSem.Builtin.UnsafeString
set_option linter.unusedVariables false
set_option linter.unusedSimpArgs false
namespace Go.Ai
noncomputable section
variable {P : Program}
def wk (c need : Nat) : Nat :=
  match c with
  | k + 2 => cond (Nat.ble need k) (k + 2) 1
  | _ => 1
theorem qL {c need k : Nat} (h : wk c need = k + 2) : c = k + 2 /\ need <= k := by
  unfold wk at h
  split at h
  . rename_i q
    cases hq : Nat.ble need q with
    | true => rw [hq] at h; simp only [cond_true] at h; exact ⟨h, by have := Nat.le_of_ble_eq_true hq; omega⟩
    | false => rw [hq] at h; simp only [cond_false] at h; omega
  . omega
def roomFor (c need bytes : Nat) : Bool := Nat.ble (need * bytes) (cond (Nat.beq c 2) (2 ^ 48) (2 ^ 47))
def Zy (h : za) (elem : TypeId) (i : TypeInfo) (n : Nat) (new : List Value) (s : Value) : Option (Value × za) :=
  match s with
  | .slice none 0 0 => cond (Nat.beq n 0) (some (.slice none 0 0, h)) (cond (Nat.ble (n * i.bytes) (2 ^ 48)) (some (.slice (some ⟨h.next, 0, none⟩) n 1, h.push (.cells new elem))) none)
  | .slice (some ⟨b, off, none⟩) len c => cond (Nat.beq n 0) (some (s, h)) (match h.get b with
    | some (.cells cs t) => cond (!(Nat.beq c 0) && Nat.beq t elem && Nat.ble h.ro b && Nat.ble (off + len * i.size) cs.length && (roomFor c (len + n) i.bytes && Nat.beq (off % i.size) 0))
        (some (.slice (some ⟨h.next, 0, none⟩) (len + n) (wk c (len + n)), (h.set b none).push (.cells (((cs.drop off).take (len * i.size)) ++ new) elem))) none
    | _ => none)
  | _ => none
def jS (P : Program) (sT xT : TypeId) (s x : Value) (h : za) : Option (Value × za) :=
  match yM P (underlying sT), yM P (underlying xT), ZP x with
  | some (.slice elem), some xd, some n => (match yM P (typeInfo elem), xo P elem with
    | some i, some z => (match xh h n i.size x with
      | some new => cond (!(QM xd) && Nat.blt 0 i.bytes && Nat.beq z.cells.size i.size && new.all cellOk && Nat.beq new.length (n * i.size)) (Zy h elem i n new s) none
      | none => none)
    | _, _ => none)
  | _, _, _ => none
theorem Step.zhc {ρ : Ren} {h : za} {w : World} (hr : Rel P ρ h w) (b : Nat) : Step P ρ h w ρ (h.set b none) w :=
  ⟨Ren.le_refl _, hr.drop b, rfl, rfl, rfl, rfl, Nat.le_refl _, fun _ _ _ => rfl, fun c _ hm => by
    obtain ⟨x, o, pl, hx, h1, h2, h3⟩ := hm
    rw [za.zP] at hx
    split at hx
    . cases hx
    . exact ⟨x, o, pl, hx, h1, h2, h3⟩⟩
theorem uZ {sT xT elem : TypeId} {r : TypeId} {xd : TypeDesc} {i : TypeInfo} {len cap : Nat} {base : Option Addr} {x' : Value} {w : World}
    (h1 : yM P (underlying sT) = some (.slice elem)) (h2 : yM P (underlying xT) = some xd) (h3 : QM xd = false) (hi : yM P (typeInfo elem) = some i)
    (hlen : ∀ w, (Builtin.lenOf x').run P w = .ok 0 w) (hl : len <= cap) (hnew : (Builtin.firstCells i.size 0 x').run P w = .ok ([] : List Value).toArray w) :
    (Builtin.append_ #[sT, xT] r #[.slice base len cap, x']).run P w = .ok (.slice base len cap) w := by
  obtain ⟨sz1, sz2⟩ := wA hi
  simp only [Builtin.append_]
  simp only [List.getElem?_toArray, List.getElem?_cons_zero, List.getElem?_cons_succ, Sem.run_bind, zh h1, Result.andThen_ok, sz2, zh h2, Sem.run_pure]
  rw [if_neg (by cases xd <;> first | exact Bool.false_ne_true | cases h3)]
  simp only [Sem.run_bind, hlen, Result.andThen_ok]
  rw [if_pos (by omega)]
  rw [if_pos (by cases xd <;> first | rfl | cases h3)]
  simp only [Sem.run_bind, hnew, Result.andThen_ok, Nat.add_zero]
  cases base with
  | none => simp only [Sem.run_pure]
  | some a => simp only [storeCells, Sem.run_pure, Result.andThen_ok, Sem.run_bind]
set_option maxHeartbeats 1000000 in
theorem Q0 {ρ : Ren} {sT xT r : TypeId} {s s' x x' v : Value} {h h' : za} {w : World} (he : jS P sT xT s x h = some (v, h')) (hr : Rel P ρ h w) (hs : z9 ρ s s') (hx : z9 ρ x x') :
    ∃ v' w' ρ', (Builtin.append_ #[sT, xT] r #[s', x']).run P w = .ok v' w' /\ Step P ρ h w ρ' h' w' /\ z9 ρ' v v' := by
  unfold jS at he
  split at he
  case h_2 => cases he
  rename_i elem xd n h1 h2 hn
  split at he
  case h_2 => cases he
  rename_i i z hi hz
  split at he
  case h_2 => cases he
  rename_i new hnew
  cases hc : (!(QM xd) && Nat.blt 0 i.bytes && Nat.beq z.cells.size i.size && new.all cellOk && Nat.beq new.length (n * i.size)) with
  | false => rw [hc] at he; cases he
  | true =>
    rw [hc] at he
    simp only [cond_true] at he
    simp only [Bool.and_eq_true, Bool.not_eq_true', List.all_eq_true] at hc
    obtain ⟨⟨⟨⟨h3, hb⟩, hzs⟩, hco⟩, hnl⟩ := hc
    have hb : 0 < i.bytes := by simpa [Nat.blt_eq] using hb
    have hzs := Nat.eq_of_beq_eq_true hzs
    have hnl := Nat.eq_of_beq_eq_true hnl
    have hlen : ∀ w, (Builtin.lenOf x').run P w = .ok n w := fun w => Vz hn hx w
    have hnx : ∀ b l cap, x = .slice b l cap -> n <= l := by intro b l cap e; subst e; simp only [ZP, Option.some.injEq] at hn; omega
    obtain ⟨new', hnew', vnew⟩ := Zh hnew hr hx hnx
    have hnil : n = 0 -> (Builtin.firstCells i.size 0 x').run P w = .ok ([] : List Value).toArray w := by
      intro e
      subst e
      have : new' = [] := by have := vnew.1; rw [hnl, Nat.zero_mul] at this; exact List.eq_nil_of_length_eq_zero this.symm
      rw [this] at hnew'; exact hnew'
    have hr1 : Rel P ρ h { w with drawn := w.drawn + 1 } := hr.grow (fun k _ => rfl)
    obtain ⟨new1, hnew1, vnew1⟩ := Zh (w := { w with drawn := w.drawn + 1 }) hnew hr1 hx hnx
    unfold Zy at he
    split at he
    ·
      cases hs
      cases hz0 : Nat.beq n 0 with
      | true =>
        obtain rfl := Nat.eq_of_beq_eq_true hz0
        rw [hz0] at he
        simp only [cond_true, Option.some.injEq, Prod.mk.injEq] at he
        obtain ⟨rfl, rfl⟩ := he
        exact ⟨_, w, ρ, uZ h1 h2 h3 hi hlen (Nat.le_refl 0) (hnil rfl), .refl hr, .sliceNil 0⟩
      | false =>
        rw [hz0] at he
        have hn0 : 0 < n := by rcases Nat.eq_zero_or_pos n with e | e; · subst e; simp at hz0
                               . exact e
        cases hlim : Nat.ble (n * i.bytes) (2 ^ 48) with
        | false => rw [hlim] at he; cases he
        | true =>
          rw [hlim] at he
          simp only [cond_true, cond_false, Option.some.injEq, Prod.mk.injEq] at he
          obtain ⟨rfl, rfl⟩ := he
          have hlim := Nat.le_of_ble_eq_true hlim
          obtain ⟨cap', w', pl, e1, e2, e3, e4, e5, e6, st⟩ := run_append_grow (r := r) (base := none) (len := 0) (cap := 0) (old := []) (old' := []) hr h1 h2 h3 hi hz hb hzs hlen (by omega)
            (by rw [Wz _ (by omega)]; simpa using hlim) (by simp [Builtin.firstCells]) hnew1 (.nil ρ) vnew1 (by simp) hnl
          rw [Nat.zero_add] at e1 e2
          refine ⟨_, w', _, e1, st, ?_⟩
          have := z9.slice (ρ := ρ.ext pl) (b := h.next) (off := 0) (len := n) (c := 1) (cap := cap') (pl := pl) (by show h.next < ρ.next + 1; rw [hr.next]; exact Nat.lt_succ_self _) (by rw [<- hr.next]; exact ρ.wF _) e2
            (fun _ => ⟨by rw [e4, e5]; simpa using e6, fun k hk => by omega⟩)
          rw [e3, e4] at this
          exact this
    . rename_i b off len c
      cases hz0 : Nat.beq n 0 with
      | true =>
        obtain rfl := Nat.eq_of_beq_eq_true hz0
        rw [hz0] at he
        simp only [cond_true, Option.some.injEq, Prod.mk.injEq] at he
        obtain ⟨rfl, rfl⟩ := he
        cases hs with
        | slice hb' hm' hl' hc' => exact ⟨_, w, ρ, uZ h1 h2 h3 hi hlen hl' (hnil rfl), .refl hr, .slice hb' hm' hl' hc'⟩
        | sliceOut hb' hc' => exact ⟨_, w, ρ, uZ h1 h2 h3 hi hlen (Nat.le_refl 0) (hnil rfl), .refl hr, .sliceOut hb' hc'⟩
      | false =>
        rw [hz0] at he
        have hn0 : 0 < n := by rcases Nat.eq_zero_or_pos n with e | e; · subst e; simp at hz0
                               . exact e
        simp only [cond_false] at he
        split at he
        case h_2 => cases he
        rename_i cs t hg
        cases hcc : (!(Nat.beq c 0) && Nat.beq t elem && Nat.ble h.ro b && Nat.ble (off + len * i.size) cs.length && (roomFor c (len + n) i.bytes && Nat.beq (off % i.size) 0)) with
        | false => rw [hcc] at he; cases he
        | true =>
          rw [hcc] at he
          simp only [cond_true, Option.some.injEq, Prod.mk.injEq] at he
          obtain ⟨rfl, rfl⟩ := he
          simp only [Bool.and_eq_true, Bool.not_eq_true'] at hcc
          obtain ⟨⟨⟨⟨k1, k2⟩, k3⟩, k4⟩, k5, k6⟩ := hcc
          have k1 : c ≠ 0 := by intro e; subst e; simp at k1
          obtain rfl := Nat.eq_of_beq_eq_true k2
          have k3 := Nat.le_of_ble_eq_true k3
          have k4 := Nat.le_of_ble_eq_true k4
          have hlim : ∀ cap, cap < len + n -> (c = 2 -> cap = 0) -> Builtin.nextslicecap (len + n) cap * i.bytes <= 2 ^ 48 := by
            intro cap hcap h2c
            unfold roomFor at k5
            by_cases e2 : c = 2
            . subst e2
              rw [h2c rfl, Wz _ (by omega)]
              simp only [Nat.beq_refl, cond_true] at k5
              exact Nat.le_of_ble_eq_true k5
            . rw [show Nat.beq c 2 = false from Tr.beq_false e2] at k5
              simp only [cond_false] at k5
              have k5 := Nat.le_of_ble_eq_true k5
              have := zeV (len + n) cap hcap
              calc Builtin.nextslicecap (len + n) cap * i.bytes <= (2 * (len + n)) * i.bytes := Nat.mul_le_mul_right _ this
                _ = 2 * ((len + n) * i.bytes) := Nat.mul_assoc _ _ _
                _ <= 2 * 2 ^ 47 := Nat.mul_le_mul_left _ k5
                _ = 2 ^ 48 := by decide
          have hdropr := hr.drop b
          cases hs with
          | slice hb' hm' hl' hc' =>
            rename_i cap pl
            obtain ⟨c1, c2⟩ := hc' k1
            obtain ⟨sz1, _⟩ := wA hi
            have hpl := hr.place hg hm'
            have hesz : pl.esz = i.size := by obtain ⟨_, _, _, _, q, _⟩ := hpl; rw [q.1, sz1]
            by_cases hfit : len + n <= cap
            . obtain ⟨w', e1, st⟩ := Kt (r := r) hr h1 h2 h3 hi hlen hfit hg hm' k3 hnew' vnew hnl hco (by rw [<- hesz]; exact c1) k4 (Nat.eq_of_beq_eq_true k6)
              refine ⟨_, w', _, e1, st, ?_⟩
              have := z9.slice (ρ := ρ.ext ⟨pl.c, pl.base + off, pl.size, pl.esz⟩) (b := h.next) (off := 0) (len := len + n) (c := wk c (len + n)) (cap := cap) (pl := ⟨pl.c, pl.base + off, pl.size, pl.esz⟩)
                (by show h.next < ρ.next + 1; rw [hr.next]; exact Nat.lt_succ_self _) (by rw [<- hr.next]; exact ρ.wF _) hfit
                (fun _ => ⟨by simpa using c1, fun k hk => c2 k (qL hk).1⟩)
              simpa using this
            . have hfull : (c = 2 -> cap = 0) := fun e => c2 0 (by omega)
              obtain ⟨old', hold', vold⟩ := wt (hr1.place hg hm') off (len * i.size) k4
              obtain ⟨cap', w', pl', e1, e2, e3, e4, e5, e6, st⟩ := run_append_grow (r := r) (base := some ⟨pl.c, pl.base + off, none⟩) (len := len) (cap := cap) hdropr h1 h2 h3 hi hz hb hzs hlen (by omega)
                (hlim cap (by omega) hfull) (by simpa only [Builtin.firstCells] using hold') hnew1 vold vnew1 (by simp only [List.length_take, List.length_drop]; omega) hnl
              refine ⟨_, w', _, e1, (Step.zhc hr b).trans st, ?_⟩
              have := z9.slice (ρ := ρ.ext pl') (b := h.next) (off := 0) (len := len + n) (c := wk c (len + n)) (cap := cap') (pl := pl') (by show h.next < ρ.next + 1; rw [hr.next]; exact Nat.lt_succ_self _) (by rw [<- hr.next]; exact ρ.wF _) e2
                (fun _ => ⟨by rw [e4, e5]; simpa using e6, fun k hk => by
                  have q := qL hk
                  have := c2 k q.1
                  omega⟩)
              rw [e3, e4] at this
              exact this
          | sliceOut hb' hc' =>
            obtain ⟨cap', w', pl', e1, e2, e3, e4, e5, e6, st⟩ := run_append_grow (r := r) (base := some _) (len := 0) (cap := 0) (old := (cs.drop off).take (0 * i.size)) (old' := []) hdropr h1 h2 h3 hi hz hb hzs hlen (by omega)
              (hlim 0 (by omega) (fun _ => rfl)) (by simp only [Builtin.firstCells, Nat.zero_mul]; rfl) hnew1 (by simp [yQ]) vnew1 (by simp) hnl
            refine ⟨_, w', _, e1, (Step.zhc hr b).trans st, ?_⟩
            have := z9.slice (ρ := ρ.ext pl') (b := h.next) (off := 0) (len := 0 + n) (c := wk c (0 + n)) (cap := cap') (pl := pl') (by show h.next < ρ.next + 1; rw [hr.next]; exact Nat.lt_succ_self _) (by rw [<- hr.next]; exact ρ.wF _) e2
              (fun _ => ⟨by rw [e4, e5]; simpa using e6, fun k hk => by
                have q := qL hk
                omega⟩)
            rw [e3, e4] at this
            exact this
    . cases he
end
end Go.Ai
namespace Go.Ai
noncomputable section
variable {P : Program}
def X4 (h : za) (b off : Nat) (new : List Value) : Option za :=
  cond (Nat.beq new.length 0) (some h) (match h.get b with
    | some (.cells cs t) => cond (Nat.ble h.ro b && Nat.ble (off + new.length) cs.length && new.all cellOk) (some (h.set b (some (.cells (ze cs off new) t)))) none
    | _ => none)
theorem KK {ρ : Ren} {h h' : za} {w : World} {b off : Nat} {pl : Place} {new new' : List Value} (he : X4 h b off new = some h') (hr : Rel P ρ h w) (hm : ρ.m b = some pl) (hv : yQ ρ new new') :
    ∃ w', (storeCells ⟨pl.c, pl.base + off, none⟩ new').run P w = .ok () w' /\ Step P ρ h w ρ h' w' := by
  unfold X4 at he
  cases hz : Nat.beq new.length 0 with
  | true =>
    rw [hz] at he
    simp only [cond_true, Option.some.injEq] at he
    subst he
    have : new = [] := List.eq_nil_of_length_eq_zero (Nat.eq_of_beq_eq_true hz)
    subst this
    cases hv.xJ
    exact ⟨w, rfl, .refl hr⟩
  | false =>
    rw [hz] at he
    simp only [cond_false] at he
    split at he
    case h_2 => cases he
    rename_i cs t hg
    cases hc : (Nat.ble h.ro b && Nat.ble (off + new.length) cs.length && new.all cellOk) with
    | false => rw [hc] at he; cases he
    | true =>
      rw [hc] at he
      simp only [cond_true, Option.some.injEq] at he
      subst he
      simp only [Bool.and_eq_true, List.all_eq_true] at hc
      exact ZX (o := off) hm new new' h w cs 0 hr hg (Nat.le_of_ble_eq_true hc.1.1) (by have := Nat.le_of_ble_eq_true hc.1.2; omega) hv hc.2
def zfZ (P : Program) (dT : TypeId) (d x : Value) (h : za) : Option (Value × za) :=
  match yM P (underlying dT), d, ZP x with
  | some (.slice elem), .slice base dl _, some m => (match yM P (typeInfo elem) with
    | none => none
    | some i => (match xh h (Nat.min m dl) i.size x with
      | none => none
      | some new => (match base with
        | none => some (goInt (Nat.min m dl), h)
        | some ⟨b, off, none⟩ => (X4 h b off new).map fun h' => (goInt (Nat.min m dl), h')
        | some _ => none)))
  | _, _, _ => none
theorem zb9 {ρ : Ren} {dT r : TypeId} {ts : Array TypeId} {d d' x x' v : Value} {h h' : za} {w : World} (he : zfZ P dT d x h = some (v, h')) (hr : Rel P ρ h w) (hd : z9 ρ d d') (hx : z9 ρ x x') (hts : ts[0]? = some dT) :
    ∃ v' w', (Builtin.copy_ ts r #[d', x']).run P w = .ok v' w' /\ Step P ρ h w ρ h' w' /\ z9 ρ v v' := by
  unfold zfZ at he
  split at he
  case h_2 => cases he
  rename_i elem base dl c m hu hm
  split at he
  case h_1 => cases he
  rename_i i hi
  obtain ⟨sz1, sz2⟩ := wA hi
  split at he
  case h_1 => cases he
  rename_i new hnew
  have hlen := fun w => Vz (P := P) hm hx w
  obtain ⟨new', hnew', vnew⟩ := Zh hnew hr hx (by intro b l cap e; subst e; simp only [ZP, Option.some.injEq] at hm; subst hm; exact Nat.min_le_left _ _)
  cases hd with
  | sliceNil =>
    simp only [Option.some.injEq, Prod.mk.injEq] at he
    obtain ⟨rfl, rfl⟩ := he
    refine ⟨goInt (Nat.min m 0), w, ?_, .refl hr, .int _ _⟩
    simp only [Builtin.copy_, hts]
    simp only [List.getElem?_toArray, List.getElem?_cons_zero, List.getElem?_cons_succ, Sem.run_bind, zh hu, Result.andThen_ok, hlen, sz2, hnew', Sem.run_pure]
  | slice hb hmm hl hc =>
    simp only [Option.map_eq_some_iff, Prod.mk.injEq] at he
    obtain ⟨h2, hsp, rfl, rfl⟩ := he
    obtain ⟨w', e, st⟩ := KK hsp hr hmm vnew
    refine ⟨_, w', ?_, st, .int _ _⟩
    simp only [Builtin.copy_, hts]
    simp only [List.getElem?_toArray, List.getElem?_cons_zero, List.getElem?_cons_succ, Sem.run_bind, zh hu, Result.andThen_ok, hlen, sz2, hnew', e, Sem.run_pure]
    rfl
  | sliceOut hb hc =>
    simp only [Option.map_eq_some_iff, Prod.mk.injEq] at he
    obtain ⟨h2, hsp, rfl, rfl⟩ := he
    have hmin : Nat.min m 0 = 0 := Nat.min_zero m
    have hnil : new = [] := by
      rw [hmin] at hnew
      cases hx with
      | sliceNil => simp only [xh, Option.some.injEq] at hnew; exact hnew.symm
      | slice => simp only [xh, Nat.zero_mul, Nat.beq_refl, cond_true, Option.some.injEq] at hnew; exact hnew.symm
      | sliceOut => simp only [xh, Nat.zero_mul, Nat.beq_refl, cond_true, Option.some.injEq] at hnew; exact hnew.symm
      | string => simp only [xh, Option.some.injEq] at hnew; rw [<- hnew]; simp
      | _ => cases hm
    subst hnil
    cases vnew.xJ
    simp only [X4, List.length_nil, Nat.beq_refl, cond_true, Option.some.injEq] at hsp
    subst hsp
    refine ⟨goInt (Nat.min m 0), w, ?_, .refl hr, .int _ _⟩
    simp only [Builtin.copy_, hts]
    simp only [List.getElem?_toArray, List.getElem?_cons_zero, List.getElem?_cons_succ, Sem.run_bind, zh hu, Result.andThen_ok, hlen, sz2, hnew', Sem.run_pure, storeCells]
def zas (P : Program) (t : TypeId) (x : Value) (h : za) : Option za := none
theorem zaR {ρ : Ren} {t r : TypeId} {x x' : Value} {h h' : za} {w : World} (he : zas P t x h = some h') (hr : Rel P ρ h w) (hx : z9 ρ x x') :
    ∃ w', (Builtin.clear_ #[t] r #[x']).run P w = .ok undef w' /\ Step P ρ h w ρ h' w' := by
  unfold zas at he
  cases he
def bytesOf : List Value -> ByteArray -> Option ByteArray
  | [], s => some s
  | .int .u8 n :: l, s => bytesOf l (s.push (UInt8.ofNat n.toNat))
  | _ :: _, _ => none
def zop (h : za) (x : Value) : Option Value :=
  match x with
  | .slice none _ _ => some (.string .empty)
  | .slice (some ⟨b, off, none⟩) n _ => cond (Nat.beq n 0) (some (.string .empty)) (match h.get b with
    | some (.cells c _) => cond (Nat.ble (off + n) c.length) ((bytesOf ((c.drop off).take n) .empty).map .string) none
    | _ => none)
  | _ => none
theorem Vt {ρ : Ren} : ∀ (l l' : List Value) (s r : ByteArray), bytesOf l s = some r -> yQ ρ l l' -> ∀ w : World,
    (forIn l' s fun c s => (match c with
      | .int .u8 n => pure (ForInStep.yield (s.push (UInt8.ofNat n.toNat)))
      | _ => (do stuck "bytesToString: byte expected"; pure (ForInStep.yield s)) : Sem (ForInStep ByteArray))).run P w = .ok r w
  | [], l', s, r, h, hv, w => by
    cases hv.xJ
    simp only [bytesOf, Option.some.injEq] at h
    subst h; rfl
  | x :: l, l', s, r, h, hv, w => by
    obtain ⟨y, ys, rfl, h1, h2⟩ := hv.cons_inv
    unfold bytesOf at h
    split at h
    . rename_i e; cases e
    . rename_i e
      simp only [List.cons.injEq] at e
      obtain ⟨rfl, rfl⟩ := e
      cases h1
      rw [List.forIn_cons]
      simp only [Sem.run_bind, Sem.run_pure, Result.andThen_ok]
      exact Vt _ _ _ _ h h2 w
    . cases h
theorem zeb {ρ : Ren} {h : za} {w : World} {x x' v : Value} (he : zop h x = some v) (hr : Rel P ρ h w) (hx : z9 ρ x x') : (Conv.bytesToString x').run P w = .ok v w /\ z9 ρ v v := by
  unfold zop at he
  split at he
  . simp only [Option.some.injEq] at he
    subst he
    cases hx
    exact ⟨rfl, .string _⟩
  . rename_i b off n c
    cases hz : Nat.beq n 0 with
    | true =>
      rw [hz] at he
      obtain rfl := Nat.eq_of_beq_eq_true hz
      simp only [cond_true, Option.some.injEq] at he
      subst he
      refine ⟨?_, .string _⟩
      cases hx <;> (simp only [Conv.bytesToString, loadCells, loadCellsFrom, Sem.run_bind, Sem.run_pure, Result.andThen_ok]; rw [<- Array.forIn_toList]; rfl)
    | false =>
      rw [hz] at he
      simp only [cond_false] at he
      split at he
      case h_2 => cases he
      rename_i cs t hg
      cases hle : Nat.ble (off + n) cs.length with
      | false => rw [hle] at he; cases he
      | true =>
        rw [hle] at he
        simp only [cond_true, Option.map_eq_some_iff] at he
        obtain ⟨r, hb, rfl⟩ := he
        refine ⟨?_, .string _⟩
        cases hx with
        | slice hb' hm hl hc =>
          obtain ⟨ys, hys, hv⟩ := wt (hr.place hg hm) off n (Nat.le_of_ble_eq_true hle)
          simp only [Conv.bytesToString, Sem.run_bind, hys, Result.andThen_ok]
          rw [<- Array.forIn_toList]
          have := Vt (P := P) _ _ _ _ hb hv w
          rw [show ys.toArray.toList = ys from rfl]
          exact (congrArg (fun q : Result ByteArray => q.andThen fun a w' => Sem.run P (pure (Value.string a)) w') this)
        | sliceOut => simp at hz
  . cases he
end
end Go.Ai
set_option linter.unusedVariables false
namespace Go.Ai
noncomputable section
variable {P : Program}
theorem JF {α : Type} {b : Bool} {x : Option α} {y : α} (h : cond b x none = some y) : b = true /\ x = some y := by
  cases b
  . cases h
  . exact ⟨rfl, h⟩
abbrev zdw := Value × Value × Nat
def Uc (ρ : Ren) (es : List zdw) (ms : List MapEntry) : Prop := es.length = ms.length /\ ∀ (i : Nat) x m, es[i]? = some x -> ms[i]? = some m -> z9 ρ x.1 m.key /\ z9 ρ x.2.1 m.val /\ m.born = x.2.2
theorem Uc.tail {ρ : Ren} {x : zdw} {es : List zdw} {m : MapEntry} {ms : List MapEntry} (h : Uc ρ (x :: es) (m :: ms)) : (z9 ρ x.1 m.key /\ z9 ρ x.2.1 m.val /\ m.born = x.2.2) /\ Uc ρ es ms :=
  ⟨h.2 0 x m rfl rfl, by simpa using h.1, fun i a b ha hb => h.2 (i + 1) a b (by simpa using ha) (by simpa using hb)⟩
theorem Uc.nil {ρ : Ren} : Uc ρ [] [] := ⟨rfl, fun i x m hx => by simp at hx⟩
theorem Uc.xJ {ρ : Ren} {ms : List MapEntry} (h : Uc ρ [] ms) : ms = [] := List.eq_nil_of_length_eq_zero (by have := h.1; simpa using this.symm)
theorem Uc.cons_inv {ρ : Ren} {x : zdw} {es : List zdw} {ms : List MapEntry} (h : Uc ρ (x :: es) ms) : ∃ m ms', ms = m :: ms' /\ (z9 ρ x.1 m.key /\ z9 ρ x.2.1 m.val /\ m.born = x.2.2) /\ Uc ρ es ms' := by
  cases ms with
  | nil => have := h.1; simp at this
  | cons m ms => exact ⟨m, ms, rfl, h.tail⟩
theorem zew {w : World} {l : Nat} {ms : Array MapEntry} {c : Nat} (h : w.heap[l]? = some (.map ms c)) : (getObj l).run P w = .ok (.map ms c) w := by
  simp only [getObj, Sem.run, h]
theorem Rel.map {ρ : Ren} {h : za} {w : World} (hr : Rel P ρ h w) {b : Nat} {es : List zdw} {q : Nat} {pl : Place} (hg : h.get b = some (.map es q)) (hm : ρ.m b = some pl) :
    ∃ ms, w.heap[pl.c]? = some (.map ms q) /\ Uc ρ es ms.toList := by
  obtain ⟨pl', hm', ms, h1, h2, h3⟩ := hr.ok b _ hg
  rw [hm] at hm'
  cases hm'
  exact ⟨ms, h1, by simp [h2], fun i x m hx hm => h3 i x m hx (by simpa using hm)⟩
theorem Uc.size {ρ : Ren} {es : List zdw} {ms : Array MapEntry} (h : Uc ρ es ms.toList) : ms.isEmpty = es.isEmpty := by
  have := h.1
  cases es with
  | nil => simp at this; rw [Array.eq_empty_of_size_eq_zero this.symm]; rfl
  | cons x es => simp at this; cases hs : ms.isEmpty with
    | false => rfl
    | true => simp at hs; subst hs; simp at this
def zlg (h : za) : Value -> Option (List zdw)
  | .map none => some []
  | .map (some b) => (match h.get b with
    | some (.map es _) => some es
    | _ => none)
  | _ => none
def KF (P : Program) (t : TypeId) (x k : Value) (commaOk : Bool) (h : za) : Option Value := none
theorem QY {ρ : Ren} {t : TypeId} {x x' k k' v : Value} {ok : Bool} {h : za} {w : World} (he : KF P t x k ok h = some v) (hr : Rel P ρ h w) (hx : z9 ρ x x') (hk : z9 ρ k k') :
    ∃ v', (Instr.lookup t x' k' ok).run P w = .ok v' w /\ z9 ρ v v' := by
  unfold KF at he
  cases he
def zla (P : Program) (t : TypeId) (x : Value) (h : za) : Option Value :=
  match znt P t x with
  | some v => some v
  | none => (match yM P (underlying t), zlg h x with
    | some (.map _ _), some es => some (goInt es.length)
    | _, _ => none)
theorem zbU {ρ : Ren} {t : TypeId} {x x' v : Value} {h : za} {w : World} (he : zla P t x h = some v) (hr : Rel P ρ h w) (hx : z9 ρ x x') (r : TypeId) : (Builtin.len_ #[t] r #[x']).run P w = .ok v w /\ z9 ρ v v := by
  unfold zla at he
  split at he
  . rename_i hl
    simp only [Option.some.injEq] at he
    subst he
    exact zd7 hl hx r w
  . split at he
    case h_2 => cases he
    rename_i k e es ht hes
    simp only [Option.some.injEq] at he
    subst he
    refine ⟨?_, .int _ _⟩
    cases hx with
    | mapNil => simp only [zlg, Option.some.injEq] at hes; subst hes; simp [Builtin.len_, zh ht]
    | map hb hm =>
      simp only [zlg] at hes
      split at hes
      . rename_i g
        simp only [Option.some.injEq] at hes
        subst hes
        obtain ⟨ms, h1, h2⟩ := hr.map g hm
        have hsz := h2.1
        simp only [Array.length_toList] at hsz
        simp [Builtin.len_, zh ht, zew h1, hsz]
      . cases hes
    | _ => cases hes
def Zu (h : za) : Value × za := (.map (some h.next), h.push (.map [] 0))
theorem UW {ρ : Ren} {h : za} {w : World} (hr : Rel P ρ h w) (t : TypeId) :
    ∃ v' w' ρ', (Instr.makeMap t none).run P w = .ok v' w' /\ Step P ρ h w ρ' (Zu h).2 w' /\ z9 ρ' (Zu h).1 v' := by
  let pl : Place := ⟨w.heap.size, 0, 0, 0⟩
  refine ⟨.map (some w.heap.size), { w with heap := w.heap.push (.map #[] 0) }, ρ.ext pl, rfl, Step.Wk hr (ob := .map [] 0) (pl := pl) rfl rfl ⟨#[], by simp [pl], rfl, fun i x m hx => by simp at hx⟩ rfl rfl rfl, ?_⟩
  exact .map (pl := pl) (by show h.next < ρ.next + 1; rw [hr.next]; omega) (by rw [<- hr.next]; exact ρ.wF pl)
def uT (P : Program) (t : TypeId) (x k v : Value) (h : za) : Option za := none
theorem WL {ρ : Ren} {t : TypeId} {x x' k k' v v' : Value} {h h' : za} {w : World} (he : uT P t x k v h = some h') (hr : Rel P ρ h w) (hx : z9 ρ x x') (hk : z9 ρ k k') (hv : z9 ρ v v') :
    ∃ w', (Instr.mapUpdate t x' k' v').run P w = .ok () w' /\ Step P ρ h w ρ h' w' := by
  unfold uT at he
  cases he
def ko (P : Program) (t : TypeId) (x k : Value) (h : za) : Option za := none
theorem WJ {ρ : Ren} {ts : Array TypeId} {t : TypeId} {r : TypeId} {x x' k k' : Value} {h h' : za} {w : World} (he : ko P t x k h = some h') (hts : ts[0]? = some t) (hr : Rel P ρ h w) (hx : z9 ρ x x') (hk : z9 ρ k k') :
    ∃ w', (Builtin.delete_ ts r #[x', k']).run P w = .ok undef w' /\ Step P ρ h w ρ h' w' := by
  unfold ko at he
  cases he
def QC (P : Program) (t : TypeId) (x : Value) (h : za) : Option (Value × za) := none
theorem zad {ρ : Ren} {t : TypeId} {x x' v : Value} {h h' : za} {w : World} (he : QC P t x h = some (v, h')) (hr : Rel P ρ h w) (hx : z9 ρ x x') :
    ∃ v' w' ρ', (Instr.range t x').run P w = .ok v' w' /\ Step P ρ h w ρ' h' w' /\ z9 ρ' v v' := by
  unfold QC at he
  cases he
def leftOf (es : List zdw) (seen : List Nat) : List zdw := es.filter fun e => !seen.contains e.2.2
def zdX (P : Program) (x : Value) (str : Bool) (h : za) : Option (Value × za) := none
theorem Uc.left {ρ : Ren} (seen : List Nat) : ∀ {es : List zdw} {ms : List MapEntry}, Uc ρ es ms -> Uc ρ (leftOf es seen) (ms.filter fun e => !seen.toArray.contains e.born)
  | [], ms, h => by rw [h.xJ]; exact .nil
  | x :: es, ms, h => by
    obtain ⟨m, ms', rfl, h1, h2⟩ := h.cons_inv
    have ih := Uc.left seen h2
    have e : (!seen.toArray.contains m.born) = !seen.contains x.2.2 := by rw [h1.2.2]; simp
    simp only [leftOf, List.filter_cons, e]
    split
    . refine ⟨by have := ih.1; simp only [leftOf] at this; simp only [List.length_cons, this], fun i a b ha hb => ?_⟩
      cases i with
      | zero => simp at ha hb; subst ha hb; exact h1
      | succ i => exact ih.2 i a b (by simpa [leftOf] using ha) (by simpa using hb)
    . exact ih
theorem Uc.all {ρ : Ren} (last : Nat) : ∀ {es : List zdw} {ms : List MapEntry}, Uc ρ es ms -> (ms.all fun e => decide (e.born ≥ last)) = es.all fun e => Nat.ble last e.2.2
  | [], ms, h => by rw [h.xJ]; rfl
  | x :: es, ms, h => by
    obtain ⟨m, ms', rfl, h1, h2⟩ := h.cons_inv
    simp only [List.all_cons, Uc.all last h2, h1.2.2]
    congr 1
    rw [Bool.eq_iff_iff]; simp
theorem zb4 {ρ : Ren} {t : TypeId} {x x' v : Value} {str : Bool} {h h' : za} {w : World} (he : zdX P x str h = some (v, h')) (hr : Rel P ρ h w) (hx : z9 ρ x x') :
    ∃ v' w' ρ', (Instr.next x' str t).run P w = .ok v' w' /\ Step P ρ h w ρ' h' w' /\ z9 ρ' v v' := by
  unfold zdX at he
  cases he
def zcE (x : Value) (h : za) : Option Value := none
theorem Uc.find {ρ : Ren} (stamp : Nat) : ∀ {es : List zdw} {ms : List MapEntry} {e : zdw}, Uc ρ es ms -> (es.find? fun e => Nat.beq e.2.2 stamp) = some e -> ∃ m, (ms.find? fun e => e.born == stamp) = some m /\ z9 ρ e.1 m.key /\ z9 ρ e.2.1 m.val
  | [], ms, e, h, he => by simp at he
  | x :: es, ms, e, h, he => by
    obtain ⟨m, ms', rfl, h1, h2⟩ := h.cons_inv
    rw [List.find?_cons] at he ⊢
    rw [h1.2.2]
    cases hb : Nat.beq x.2.2 stamp with
    | true =>
      rw [hb] at he
      simp only [Option.some.injEq] at he
      subst he
      have : (x.2.2 == stamp) = true := by simpa using Nat.eq_of_beq_eq_true hb
      rw [this]
      exact ⟨m, rfl, h1.1, h1.2.1⟩
    | false =>
      rw [hb] at he
      have : (x.2.2 == stamp) = false := by
        cases hq : x.2.2 == stamp with
        | false => rfl
        | true => have := beq_iff_eq.1 hq; rw [this, Nat.beq_refl] at hb; cases hb
      rw [this]
      exact Uc.find stamp h2 he
theorem zaH {ρ : Ren} {x x' v : Value} {h : za} {w : World} (he : zcE x h = some v) (hr : Rel P ρ h w) (hx : z9 ρ x x') : ∃ v', (Instr.entry x').run P w = .ok v' w /\ z9 ρ v v' := by
  unfold zcE at he
  cases he
end
end Go.Ai
set_option linter.unusedVariables false
namespace Go.Ai
noncomputable section
variable {P : Program}
theorem qP {w : World} {l : Nat} {cs : Array Value} {e : TypeId} {fz : Nat × Nat} (h : w.heap[l]? = some (.cells cs e fz)) : w.shape? l = some (e, cs.size) := by
  simp [World.shape?, h]
def zgU (P : Program) (src dst : TypeId) (x : Value) (h : za) : Option Value :=
  match P.underlying src, P.underlying dst, x with
  | some (.pointer t), some .unsafePointer, .pointer (some ⟨b, off, none⟩) => (match h.get b, P.info? t with
    | some (.cells c _), some j => cond (Nat.blt off c.length && !(Nat.beq j.size 0)) (some (.pointer (some ⟨b, off, none⟩))) none
    | _, _ => none)
  | some .unsafePointer, some (.pointer u), .pointer (some ⟨b, off, none⟩) => (match h.get b, P.info? u with
    | some (.cells c e), some _ => cond (Nat.beq e u && Nat.blt 0 (P.cellsOf u) && Nat.beq (off % P.cellsOf u) 0 && Nat.ble (off + P.cellsOf u) c.length) (some (.pointer (some ⟨b, off, none⟩))) none
    | _, _ => none)
  | _, _, _ => none
theorem zil {e : TypeId} {cells o : Nat} (hs : 0 < P.cellsOf e) (h0 : o % P.cellsOf e = 0) (hle : o + P.cellsOf e <= cells) : liesAt P P.depth e (cells / P.cellsOf e) o e 1 = true := by
  have hd : P.depth = (2 * (P.types.size + Made.depth) + 1) + 1 := rfl
  have hlt : o / P.cellsOf e + 1 <= cells / P.cellsOf e := by
    have h1 := Nat.div_le_div_right (c := P.cellsOf e) hle
    rw [Nat.add_div_right _ hs] at h1
    exact h1
  rw [hd]
  simp only [liesAt, Bool.or_eq_true]
  left
  rw [hd]
  have hne : P.cellsOf e ≠ 0 := by omega
  simp only [rowAt, if_neg hne, h0]
  simp [hlt, sameLayout]
theorem zd8 {e : TypeId} (hc : P.cellsOf e = 1) {count o n : Nat} (hn : o + n <= count) : liesAt P P.depth e count o e n = true := by
  have hd : P.depth = (2 * (P.types.size + Made.depth) + 1) + 1 := rfl
  rw [hd]
  simp only [liesAt, Bool.or_eq_true]
  left
  rw [hd]
  simp [rowAt, hc, hn, sameLayout, Nat.mod_one]
theorem za2 {ρ : Ren} {src dst : TypeId} {x x' v : Value} {h : za} {w : World} (he : zgU P src dst x h = some v) (hr : Rel P ρ h w) (hx : z9 ρ x x') :
    ∃ v', (convert src dst x').run P w = .ok v' w /\ z9 ρ v v' := by
  unfold zgU at he
  split at he
  . rename_i t b off hs hd
    cases hx with
    | ptr hb hm =>
      rename_i pl
      split at he
      case h_2 => cases he
      rename_i c e j hg hi
      obtain ⟨hc, he⟩ := JF he
      simp only [Option.some.injEq] at he
      subst he
      simp only [Bool.and_eq_true, Nat.blt_eq, Bool.not_eq_true'] at hc
      obtain ⟨cs, fz, h1, h2, h3, h4, h5, h6⟩ := hr.place hg hm
      have hj : j.size ≠ 0 := by intro ez; rw [ez] at hc; simp at hc
      refine ⟨_, Lib.run_to_unsafe w ⟨pl.c, pl.base + off, none⟩ hs hd hi hj (qP h1) ?_, .ptr hb hm⟩
      show pl.base + off < cs.size
      omega
  . rename_i u b off hs hd
    cases hx with
    | ptr hb hm =>
      rename_i pl
      split at he
      case h_2 => cases he
      rename_i c e j hg hi
      obtain ⟨hc, he⟩ := JF he
      simp only [Option.some.injEq] at he
      subst he
      simp only [Bool.and_eq_true, Nat.blt_eq] at hc
      obtain ⟨⟨⟨k1, k2⟩, k3⟩, k4⟩ := hc
      obtain rfl := Nat.eq_of_beq_eq_true k1
      have k3 := Nat.eq_of_beq_eq_true k3
      have k4 := Nat.le_of_ble_eq_true k4
      obtain ⟨cs, fz, h1, h2, ⟨h3, h30⟩, h4, h5, h6⟩ := hr.place hg hm
      refine ⟨_, Lib.run_from_unsafe w ⟨pl.c, pl.base + off, none⟩ hs hd hi (qP h1) (zil k2 ?_ ?_), .ptr hb hm⟩
      . show (pl.base + off) % P.cellsOf e = 0
        rw [Nat.add_mod, <- h3, h30, h3, k3]; simp
      . show pl.base + off + P.cellsOf e <= cs.size
        omega
  . cases he
def znG : Value -> Option Value
  | .slice none _ _ => some (.pointer none)
  | .slice (some ⟨b, off, none⟩) n _ => cond (Nat.blt 0 n) (some (.pointer (some ⟨b, off, none⟩))) none
  | _ => none
theorem zek {ρ : Ren} {x x' v : Value} (he : znG x = some v) (hx : z9 ρ x x') (ts : Array TypeId) (ty : TypeId) (w : World) : ∃ v', (Builtin.unsafeSliceData_ ts ty #[x']).run P w = .ok v' w /\ z9 ρ v v' := by
  unfold znG at he
  split at he
  . simp only [Option.some.injEq] at he
    subst he
    cases hx
    exact ⟨_, Lib.run_unsafeSliceData_nil w ts ty _ _, .ptrNil⟩
  . rename_i b off n c
    obtain ⟨hn, he⟩ := JF he
    simp only [Option.some.injEq] at he
    subst he
    have hn : 0 < n := by simpa [Nat.blt_eq] using hn
    cases hx with
    | slice hb hm hl hc => exact ⟨_, Lib.run_unsafeSliceData_row w ts ty _ _ _ (by omega), .ptr hb hm⟩
    | sliceOut => omega
  . cases he
def YT : List Value -> Option (List UInt8)
  | [] => some []
  | .int .u8 z :: r => cond (decide (((UInt8.ofNat z.toNat).toNat : Int) = z)) ((YT r).map fun l => UInt8.ofNat z.toNat :: l) none
  | _ => none
theorem Ut : ∀ {c : List Value} {l : List UInt8}, YT c = some l -> c.length = l.length /\ ∀ (j : Nat) x, l[j]? = some x -> c[j]? = some (.int .u8 x.toNat)
  | [], l, h => by simp only [YT, Option.some.injEq] at h; subst h; exact ⟨rfl, fun j x hx => by simp at hx⟩
  | a :: c, l, h => by
    unfold YT at h
    split at h
    . rename_i e; cases e
    . rename_i z r e
      simp only [List.cons.injEq] at e
      obtain ⟨rfl, rfl⟩ := e
      obtain ⟨hz, h⟩ := JF h
      obtain ⟨l', hl, rfl⟩ := Option.map_eq_some_iff.1 h
      obtain ⟨q1, q2⟩ := Ut hl
      have hz := of_decide_eq_true hz
      refine ⟨by simp [q1], fun j x hx => ?_⟩
      cases j with
      | zero => simp only [List.getElem?_cons_zero, Option.some.injEq] at hx ⊢; subst hx; rw [hz]
      | succ j => simpa using q2 j x (by simpa using hx)
    . cases h
theorem Yh {pt it ty e : TypeId} (hp : P.underlying pt = some (.pointer e)) (hc : P.cellsOf e = 1) {w : World} {g o cells : Nat} (hsh : w.shape? g = some (e, cells)) {l : List UInt8} (h0 : l ≠ []) (hn : o + l.length <= cells) (h63 : l.length <= 9223372036854775807)
    (hcell : ∀ (j : Nat) x, l[j]? = some x -> w.cell? ((⟨g, o, none⟩ : Addr).add j) = some (.int .u8 x.toNat)) :
    (Builtin.unsafeString_ #[pt, it] ty #[.pointer (some ⟨g, o, none⟩), .int .i64 l.length]).run P w = .ok (.string ⟨l.toArray⟩) (w.freeze ⟨g, o, none⟩ l.length) := by
  have hl : l.length ≠ 0 := by simpa using h0
  have hlb := Lib.run_loadBytes (P := P) w l ⟨g, o, none⟩ .empty hcell
  have hlies := zd8 (P := P) hc (count := cells / P.cellsOf e) (o := o) (n := l.length) (by rw [hc]; simpa using hn)
  have h63' : ¬ (9223372036854775807 : Int) < (l.length : Int) := by omega
  have hmax : IntKind.i64.max = 9223372036854775807 := rfl
  have hneg : ¬ (l.length : Int) < 0 := by omega
  rw [show Builtin.unsafeString_ #[pt, it] ty #[.pointer (some ⟨g, o, none⟩), .int .i64 l.length] = (asInt (.int .i64 l.length) >>= _) from rfl]
  simp [asInt, asIntOf, hmax, h63', hneg, hl, variablesAt, hsh, elemOf, run_underlying hp, hlies, hlb]
def ptrTo (P : Program) (pt e : TypeId) : Bool :=
  match P.underlying pt with
  | some (.pointer e') => Nat.beq e' e
  | _ => false
theorem ziX {pt e : TypeId} (h : ptrTo P pt e = true) : P.underlying pt = some (.pointer e) := by
  unfold ptrTo at h
  split at h
  . rename_i e' he; rw [he, Nat.eq_of_beq_eq_true h]
  . cases h
def aus (P : Program) (pt : TypeId) (p : Value) (n : Int) (h : za) : Option (Value × za) :=
  match p with
  | .pointer none => cond (decide (n = 0)) (some (.string .empty, h)) none
  | .pointer (some ⟨b, off, none⟩) => cond (decide (n = 0)) (some (.string .empty, h)) (match h.get b with
    | some (.cells c e) => (match YT ((c.drop off).take n.toNat) with
      | some l => cond (Nat.ble h.ro b && ptrTo P pt e && Nat.beq (P.cellsOf e) 1 && decide (n = (l.length : Int)) && Nat.blt 0 l.length && Nat.ble l.length 9223372036854775807) (some (.string ⟨l.toArray⟩, h.set b none)) none
      | none => none)
    | _ => none)
  | _ => none
theorem U5 (w : World) (p : Addr) (n k : Nat) (hk : k ≠ p.block) : (w.freeze p n).heap[k]? = w.heap[k]? := by
  unfold World.freeze
  split
  . rfl
  . simp only [Array.getElem?_modify]
    rw [if_neg (by omega)]
theorem zaU (w : World) (p : Addr) (n : Nat) : (w.freeze p n).os = w.os /\ (w.freeze p n).tape = w.tape /\ (w.freeze p n).output = w.output /\ (w.freeze p n).heap.size = w.heap.size := by
  unfold World.freeze
  split
  . exact ⟨rfl, rfl, rfl, rfl⟩
  . exact ⟨rfl, rfl, rfl, by simp⟩
theorem Step.leave {ρ : Ren} {h : za} {w w' : World} (hr : Rel P ρ h w) {b : Nat} {o : wB} {pl : Place} (hg : h.get b = some o) (hm : ρ.m b = some pl) (hro : h.ro <= b) (hos : w'.os = w.os) (htape : w'.tape = w.tape) (hout : w'.output = w.output) (hsz : w'.heap.size = w.heap.size)
    (hfr : ∀ k, k ≠ pl.c -> w'.heap[k]? = w.heap[k]?) : Step P ρ h w ρ (h.set b none) w' := by
  have hd := hr.drop b
  refine ⟨Ren.le_refl _, ⟨hd.next, hd.ro, hd.dom, fun x ox hx => ?_, hd.inj, hd.gro, hd.Yt⟩, rfl, hos, htape, hout, by omega, fun k _ hn => hfr k (fun e => hn ⟨b, o, pl, hg, hro, hm, e.symm⟩), fun k hk hM => ?_⟩
  . obtain ⟨p, hp, hc⟩ := hd.ok x ox hx
    refine ⟨p, hp, hc.other (hfr _ (fun ec => ?_))⟩
    rw [za.zP] at hx
    split at hx
    . cases hx
    . rename_i ne
      exact ne (hr.inj x b _ _ p pl hx hg hp hm ec)
  . obtain ⟨x, ox, p, hx, h1, h2, h3⟩ := hM
    rw [za.zP] at hx
    split at hx
    . cases hx
    . exact ⟨x, ox, p, hx, h1, h2, h3⟩
theorem zfW {ρ : Ren} {pt it ty : TypeId} {p p' v : Value} {n : Int} {h h' : za} {w : World} (he : aus P pt p n h = some (v, h')) (hr : Rel P ρ h w) (hx : z9 ρ p p') :
    ∃ v' w', (Builtin.unsafeString_ #[pt, it] ty #[p', .int .i64 n]).run P w = .ok v' w' /\ Step P ρ h w ρ h' w' /\ z9 ρ v v' := by
  unfold aus at he
  split at he
  . obtain ⟨hn, he⟩ := JF he
    simp only [Option.some.injEq, Prod.mk.injEq] at he
    obtain ⟨rfl, rfl⟩ := he
    obtain rfl := of_decide_eq_true hn
    cases hx
    exact ⟨_, w, Lib.run_unsafeString_none w _ _ _ _, .refl hr, .string _⟩
  . rename_i b off
    cases hx with
    | ptr hb hm =>
      rename_i pl
      cases hn : decide (n = 0) with
      | true =>
        rw [hn] at he
        simp only [cond_true, Option.some.injEq, Prod.mk.injEq] at he
        obtain ⟨rfl, rfl⟩ := he
        obtain rfl := of_decide_eq_true hn
        exact ⟨_, w, Lib.run_unsafeString_none w _ _ _ _, .refl hr, .string _⟩
      | false =>
        rw [hn] at he
        simp only [cond_false] at he
        split at he
        case h_2 => cases he
        rename_i c e hg
        split at he
        case h_2 => cases he
        rename_i l hl
        obtain ⟨hc, he⟩ := JF he
        simp only [Option.some.injEq, Prod.mk.injEq] at he
        obtain ⟨rfl, rfl⟩ := he
        simp only [Bool.and_eq_true, decide_eq_true_eq, Nat.blt_eq] at hc
        obtain ⟨⟨⟨⟨⟨k1, k2⟩, k3⟩, k4⟩, k5⟩, k6⟩ := hc
        have k1 := Nat.le_of_ble_eq_true k1
        have k3 := Nat.eq_of_beq_eq_true k3
        have k6 := Nat.le_of_ble_eq_true k6
        subst k4
        obtain ⟨q1, q2⟩ := Ut hl
        simp only [Int.toNat_natCast, List.length_take, List.length_drop] at q1
        obtain ⟨cs, fz, h1, h2, h3, h4, h5, h6⟩ := hr.place hg hm
        obtain ⟨f1, f2, f3, f4⟩ := zaU w ⟨pl.c, pl.base + off, none⟩ l.length
        refine ⟨_, _, Yh (ziX k2) k3 (qP h1) (by intro el; subst el; simp at k5) (by omega) k6 (fun j x hx => ?_), .leave hr hg hm k1 f1 f2 f3 f4 (fun k hk => U5 _ _ _ _ hk), .string _⟩
        have hq := q2 j x hx
        simp only [Int.toNat_natCast] at hq
        have hjl : j < l.length := by
          rcases Nat.lt_or_ge j l.length with h7 | h7
          . exact h7
          . rw [List.getElem?_eq_none h7] at hx; cases hx
        rw [List.getElem?_take_of_lt hjl, List.getElem?_drop] at hq
        obtain ⟨y, hy, hxy⟩ := h6 _ _ hq
        cases hxy
        have ea : (⟨pl.c, pl.base + off, none⟩ : Addr).add j = ⟨pl.c, pl.base + off + j, none⟩ := vh _ _ _
        rw [ea]
        simp only [World.cell?, h1]
        rw [Nat.add_assoc]
        simpa using hy
  . cases he
def zoJ (P : Program) (op : BinOp) (t : TypeId) (a b : Value) : Option Value :=
  match P.underlying t, a, b with
  | some (.pointer te), .pointer (some ⟨b1, o1, none⟩), .pointer (some ⟨b2, o2, none⟩) => (match P.info? te with
    | some _ => cond (Nat.beq b1 b2 && Nat.beq o1 o2) (match op with
      | .eql => some (.bool true)
      | .neq => some (.bool false)
      | _ => none) none
    | none => none)
  | _, _, _ => none
def zf (P : Program) (op : BinOp) (t : TypeId) (x y : Operand) (a b : Value) : Option Value :=
  match zlP P op t x y a b with
  | some v => some v
  | none => zoJ P op t a b
theorem zbt {ρ : Ren} {op : BinOp} {t : TypeId} {x y : Operand} {a b a' b' v : Value} (h : zf P op t x y a b = some v) (ha : z9 ρ a a') (hb : z9 ρ b b') (w : World) :
    ∃ v', (do eqGuard op t x y a' b'; binOp op t a' b' : Sem Value).run P w = .ok v' w /\ z9 ρ v v' := by
  unfold zf at h
  split at h
  . rename_i u hu
    simp only [Option.some.injEq] at h
    subst h
    exact zeI hu ha hb w
  . unfold zoJ at h
    split at h
    case h_2 => cases h
    rename_i te b1 o1 b2 o2 ht0 ht
    split at h
    case h_2 => cases h
    rename_i j hj
    obtain ⟨hc, hh⟩ := JF h
    clear h
    simp only [Bool.and_eq_true] at hc
    obtain rfl := Nat.eq_of_beq_eq_true hc.1
    obtain rfl := Nat.eq_of_beq_eq_true hc.2
    cases ha with
    | ptr h1 m1 =>
      rename_i pl
      cases hb with
      | ptr h2 m2 =>
        rename_i pl2
        rw [m1] at m2
        cases m2
        have hg : (eqGuard op t x y (.pointer (some ⟨pl.c, pl.base + o1, none⟩)) (.pointer (some ⟨pl.c, pl.base + o1, none⟩))).run P w = .ok () w := by cases op <;> simp [eqGuard]
        split at hh
        . simp only [Option.some.injEq] at hh
          subst hh
          exact ⟨.bool true, by simp only [Sem.run_bind, hg, Result.andThen_ok, run_eql_ptr_same w _ ht0 hj], .bool true⟩
        . simp only [Option.some.injEq] at hh
          subst hh
          exact ⟨.bool false, by simp only [Sem.run_bind, hg, Result.andThen_ok, Lib.run_neq_ptr_same w _ ht0 hj], .bool false⟩
        . cases hh
def zoj (P : Program) (t : TypeId) (x : Value) : Option Value :=
  match yM P (underlying t), x with
  | some (.slice _), .slice none _ _ => some (goInt 0)
  | some (.slice _), .slice (some ⟨_, _, none⟩) _ c => cond (Nat.ble 2 c) (some (goInt (c - 2 : Nat))) none
  | _, _ => none
theorem zeB {ρ : Ren} {t : TypeId} {x x' v : Value} (he : zoj P t x = some v) (hx : z9 ρ x x') (r : TypeId) (w : World) : (Builtin.cap_ #[t] r #[x']).run P w = .ok v w /\ z9 ρ v v := by
  unfold zoj at he
  split at he
  . rename_i hu
    simp only [Option.some.injEq] at he
    subst he
    refine ⟨?_, .int _ _⟩
    cases hx
    simp [Builtin.cap_, zh hu]
  . rename_i b off n c hu
    obtain ⟨hc, he⟩ := JF he
    simp only [Option.some.injEq] at he
    subst he
    have hc := Nat.le_of_ble_eq_true hc
    refine ⟨?_, .int _ _⟩
    cases hx with
    | slice hb hm hl hcap =>
      rename_i cap pl
      have := (hcap (by omega)).2 (c - 2) (by omega)
      subst this
      simp [Builtin.cap_, zh hu]
    | sliceOut hb h2 =>
      have : c - 2 = 0 := by omega
      rw [this]
      simp [Builtin.cap_, zh hu]
  . cases he
end
end Go.Ai
set_option linter.unusedVariables false
namespace Go.Ai
noncomputable section
variable {P : Program}
def jj (s : ByteArray) : List Value := s.data.toList.map fun b => .int .u8 b.toNat
def zaS (P : Program) (src dst : TypeId) (x : Value) (h : za) : Option (Value × za) :=
  match cond (flat x) (fl (yM P (convert src dst x))) none with
  | some v => some (v, h)
  | none => (match yM P (underlying src), yM P (underlying dst), x with
    | some _, some (.slice e), .string s => (match yM P (underlying e), yM P (sizeOf e) with
      | some (.int .u8), some 1 => some (.slice (some ⟨h.next, 0, none⟩) s.size 1, h.push (.cells (jj s) e))
      | _, _ => none)
    | some (.slice e), some .string, .slice base n c => (match yM P (underlying e) with
      | some (.int .u8) => (zop h (.slice base n c)).map fun v => (v, h)
      | _ => none)
    | _, _, _ => none)
theorem jO {t : TypeId} {n : Nat} (h : yM P (sizeOf t) = some n) : P.cellsOf t = n := by
  simp only [sizeOf, typeInfo, program, Sem.bind, bind, yM] at h
  cases hp : P.info? t with
  | none => rw [hp] at h; cases h
  | some j => rw [hp] at h; simp only [pure, Sem.bind, yM, Option.some.injEq] at h; subst h; simp [Program.cellsOf, hp]
theorem zfg {ρ : Ren} {h : za} {w : World} {e : TypeId} {s : ByteArray} (hr : Rel P ρ h w) (hsz : yM P (sizeOf e) = some 1) :
    ∃ v' w' ρ', (Conv.stringToBytes e s).run P w = .ok v' w' /\ Step P ρ h w ρ' (h.push (.cells (jj s) e)) w' /\ z9 ρ' (.slice (some ⟨h.next, 0, none⟩) s.size 1) v' := by
  let q : Question := .appendCap s.size 0 e
  let newCap := q.cut (w.tape w.drawn q)
  have hge : s.size <= newCap := by show s.size <= s.size + _ % _; omega
  let cs : Array Value := (s.data.map fun b => Value.int .u8 b.toNat) ++ Array.replicate (newCap - s.size) (.int .u8 0)
  have hcs : cs.size = newCap := by simp only [cs, Array.size_append, Array.size_map, Array.size_replicate]; show s.size + (newCap - s.size) = newCap; omega
  let w1 : World := { w with drawn := w.drawn + 1 }
  have hr1 : Rel P ρ h w1 := hr.grow (fun k _ => rfl)
  have hesz := jO hsz
  let w2 : World := { w1 with heap := w1.heap.push (.cells cs e (cs.size, cs.size + 1)) }
  have st := Step.push (t := e) hr1 (c := jj s) (cs := cs) (fz := (cs.size, cs.size + 1)) (w' := w2) rfl (fun i hi hh => by simp only [] at hh; omega)
    (by simp only [jj, List.length_map, hcs, Array.length_toList]; exact hge)
    (fun k x hx => by
      refine ⟨x, ?_, ?_⟩
      . have hlt : k < s.data.size := by
          rcases Nat.lt_or_ge k s.data.size with h | h
          . exact h
          . rw [List.getElem?_eq_none (by simpa [jj] using h)] at hx; cases hx
        rw [Array.getElem?_append_left (by simpa using hlt)]
        simpa [jj] using hx
      . simp only [jj, List.getElem?_map, Option.map_eq_some_iff] at hx
        obtain ⟨b, _, rfl⟩ := hx
        exact .int _ _) rfl rfl rfl
  refine ⟨.slice (some ⟨w.heap.size, 0, none⟩) s.size newCap, w2, _, ?_, ⟨st.le, st.rel, st.ro, st.os, st.tape, st.output, st.size, st.frame, st.img⟩, ?_⟩
  . have hq : (choose (.appendCap s.size 0 e)).run P w = .ok newCap w1 := by rw [run_choose]; rfl
    simp only [Conv.stringToBytes, Sem.run_bind, hq, Result.andThen_ok]
    have hn : (newRow e cs).run P w1 = .ok ⟨w.heap.size, 0, none⟩ { w1 with heap := w1.heap.push (.cells cs e) } := rfl
    rw [show (s.data.map fun b => Value.int .u8 b.toNat) ++ Array.replicate (newCap - s.size) (.int .u8 0) = cs from rfl, hn]
    have hb : ({ w1 with heap := w1.heap.push (.cells cs e) } : World).heap[w.heap.size]? = some (.cells cs e) := by show (w.heap.push _)[w.heap.size]? = _; simp
    have hsh : (markStringish ⟨w.heap.size, 0, none⟩).run P { w1 with heap := w1.heap.push (.cells cs e) } = .ok () w2 := by
      simp only [markStringish, Sem.run_bind, run_shape, Result.andThen_ok, World.shape?, hb, run_freeze]
      simp only [World.freeze]
      rw [if_neg (by decide)]
      congr 1
      show World.mk _ _ _ _ _ = World.mk _ _ _ _ _
      congr 1
      show (w.heap.push _).modify w.heap.size _ = w.heap.push _
      apply Array.ext_getElem?
      intro k
      simp only [Array.getElem?_modify, Array.getElem?_push]
      by_cases e : k = w.heap.size
      . subst e; simp
      . simp [e]; intro e2; exact absurd e2.symm e
    simp only [Result.andThen_ok, hsh, Sem.run_pure]
  . have := z9.slice (ρ := ρ.ext ⟨w1.heap.size, 0, cs.size, P.cellsOf e⟩) (b := h.next) (off := 0) (len := s.size) (c := 1) (cap := newCap) (pl := ⟨w1.heap.size, 0, cs.size, P.cellsOf e⟩)
      (by show h.next < ρ.next + 1; rw [hr.next]; exact Nat.lt_succ_self _) (by rw [<- hr.next]; exact ρ.wF _) hge (fun _ => ⟨by simp [hesz, hcs], fun k hk => by omega⟩)
    exact this
theorem K3 {ρ : Ren} {src dst : TypeId} {x x' v : Value} {h h' : za} {w : World} (he : zaS P src dst x h = some (v, h')) (hr : Rel P ρ h w) (hx : z9 ρ x x') :
    ∃ v' w' ρ', (convert src dst x').run P w = .ok v' w' /\ Step P ρ h w ρ' h' w' /\ z9 ρ' v v' := by
  unfold zaS at he
  split at he
  . rename_i u hu
    simp only [Option.some.injEq, Prod.mk.injEq] at he
    obtain ⟨rfl, rfl⟩ := he
    cases hf : flat x with
    | false => rw [hf] at hu; cases hu
    | true =>
      rw [hf] at hu
      obtain ⟨h1, h2⟩ := Zg hu
      obtain rfl := vE hx hf
      exact ⟨u, w, ρ, zh h1 w, .refl hr, .of_flat ρ h2⟩
  . split at he
    . rename_i e s hs hd _
      cases hx
      split at he
      . rename_i hu hz
        simp only [Option.some.injEq, Prod.mk.injEq] at he
        obtain ⟨rfl, rfl⟩ := he
        obtain ⟨v', w', ρ', e1, st, hv⟩ := zfg (e := e) (s := s) hr hz
        refine ⟨v', w', ρ', ?_, st, hv⟩
        simp only [convert, Sem.run_bind, zh hs, zh hd, Result.andThen_ok, zh hu, e1]
      . cases he
    . rename_i e base n c hs hd _
      split at he
      . rename_i hu
        simp only [Option.map_eq_some_iff, Prod.mk.injEq] at he
        obtain ⟨r, hb, rfl, rfl⟩ := he
        obtain ⟨e1, hv⟩ := zeb hb hr hx
        refine ⟨r, w, ρ, ?_, .refl hr, hv⟩
        cases hx <;> simp only [convert, Sem.run_bind, zh hs, zh hd, Result.andThen_ok, zh hu, e1]
      . cases he
    . cases he
def vf (P : Program) (src dst : TypeId) (x : Value) (h : za) : Option (Value × za) :=
  match zaS P src dst x h with
  | some r => some r
  | none => (zgU P src dst x h).map fun v => (v, h)
theorem zbG {ρ : Ren} {src dst : TypeId} {x x' v : Value} {h h' : za} {w : World} (he : vf P src dst x h = some (v, h')) (hr : Rel P ρ h w) (hx : z9 ρ x x') :
    ∃ v' w' ρ', (convert src dst x').run P w = .ok v' w' /\ Step P ρ h w ρ' h' w' /\ z9 ρ' v v' := by
  unfold vf at he
  split at he
  . rename_i r hc
    simp only [Option.some.injEq] at he
    subst he
    exact K3 hc hr hx
  . simp only [Option.map_eq_some_iff, Prod.mk.injEq] at he
    obtain ⟨u, hu, rfl, rfl⟩ := he
    obtain ⟨v', e, hv⟩ := za2 hu hr hx
    exact ⟨v', w, ρ, e, .refl hr, hv⟩
def yd (P : Program) (t : TypeId) (len : Nat) (parts : List (Nat × Value)) (h : za) : Option (Value × za) :=
  match yM P (underlying t) with
  | some (.slice elem) => (match yM P (sizeOf elem), xo P elem with
    | some n, some z => cond (Nat.ble (len * n) (2 ^ 24) && Nat.blt 0 z.cells.size && Nat.blt 0 n) (match Instr.fill (fun i => some (i * n, n)) (vN z.cells.toList (len * n)).toArray parts with
      | some cs => cond (Nat.beq cs.size (len * n)) (some (.slice (some ⟨h.next, 0, none⟩) len (len + 2), h.push (.cells cs.toList elem))) none
      | none => none) none
    | _, _ => none)
  | _ => none
theorem XS {ρ : Ren} {t : TypeId} {len : Nat} {parts parts' : List (Nat × Value)} {h h' : za} {v : Value} {w : World} (he : yd P t len parts h = some (v, h')) (hr : Rel P ρ h w) (hp : Q4 ρ parts parts') :
    ∃ v' w' ρ', (Instr.buildSlice t len parts'.toArray).run P w = .ok v' w' /\ Step P ρ h w ρ' h' w' /\ z9 ρ' v v' := by
  unfold yd at he
  split at he
  case h_2 => cases he
  rename_i elem hu
  split at he
  case h_2 => cases he
  rename_i n z hn hz
  cases hc : (Nat.ble (len * n) (2 ^ 24) && Nat.blt 0 z.cells.size && Nat.blt 0 n) with
  | false => rw [hc] at he; cases he
  | true =>
    rw [hc] at he
    simp only [Bool.and_eq_true] at hc
    have h24 := Nat.le_of_ble_eq_true hc.1.1
    have hzs : 0 < z.cells.size := by simpa [Nat.blt_eq] using hc.1.2
    obtain ⟨z1, z2⟩ := ua (ρ := ρ) hz w
    simp only [cond_true] at he
    split at he
    case h_2 => cases he
    rename_i cs hfill
    cases hsz : Nat.beq cs.size (len * n) with
    | false => rw [hsz] at he; cases he
    | true =>
      rw [hsz] at he
      simp only [cond_true, Option.some.injEq, Prod.mk.injEq] at he
      obtain ⟨rfl, rfl⟩ := he
      have hsz := Nat.eq_of_beq_eq_true hsz
      obtain ⟨cs', hf', hv⟩ := WT _ _ _ (vN z.cells.toList (len * n)).toArray _ hp (Qc z2 (by omega) _) hfill
      obtain ⟨e, st⟩ := Wc (t := elem) hr (c := cs.toList) (cs := cs') (by rw [hv.1, Array.length_toList]; exact Nat.le_refl _) (fun i x hx => by
        obtain ⟨y, hy, hxy⟩ := hv.get hx
        exact ⟨y, by simpa using hy, hxy⟩)
      have hcsz : cs'.size = len * n := by have := hv.1; simp only [Array.length_toList] at this; omega
      refine ⟨.slice (some ⟨w.heap.size, 0, none⟩) len len, _, _, ?_, st, ?_⟩
      . simp only [Instr.buildSlice, Sem.run_bind, zh hu, Result.andThen_ok, zh hn]
        rw [if_neg (by omega)]
        by_cases h0 : len * n = 0
        . rw [if_pos h0]
          have : ((Array.range (len * n)).map fun k => (#[] : Array Value)[k % (#[] : Array Value).size]!) = (vN z.cells.toList (len * n)).toArray := by rw [h0]; simp [vN]
          simp only [Sem.run_bind, Sem.run_pure, Result.andThen_ok, this, hf', e]
        . rw [if_neg h0]
          simp only [Sem.run_bind, z1, Sem.run_pure, Result.andThen_ok, zan, hf', e]
      . exact z9.slice (ρ := ρ.ext _) (b := h.next) (off := 0) (pl := ⟨w.heap.size, 0, cs'.size, P.cellsOf elem⟩) (by show h.next < ρ.next + 1; rw [hr.next]; exact Nat.lt_succ_self _) (by rw [<- hr.next]; exact ρ.wF _) (Nat.le_refl _)
          (fun _ => ⟨by simp [jO hn, hcsz], fun k hk => by omega⟩)
theorem zl {α : Type} {b : Bool} {x : Option α} {y : α} (h : cond b x none = some y) : b = true /\ x = some y := by
  cases b with
  | true => exact ⟨rfl, h⟩
  | false => cases h
def zhW (s : Env) : Option Operand -> Option (Option Value)
  | none => some none
  | some x => (aev s x).map some
theorem ZH {ρ : Ren} {s : Env} {a : Act} (hs : xe ρ s a.tmps) {x : Option Operand} {v : Option Value} (h : zhW s x = some v) : zlK ρ v (x.map a.eval) := by
  cases x with
  | none => simp only [zhW, Option.some.injEq] at h; subst h; exact ⟨fun v hv => by (cases hv), fun _ => rfl⟩
  | some x =>
    simp only [zhW, Option.map_eq_some_iff] at h
    obtain ⟨u, hu, rfl⟩ := h
    exact ⟨fun v hv => by cases hv; exact ⟨_, rfl, zB hs hu⟩, fun hn => by cases hn⟩
def zgy : Option Value -> Bool
  | none => true
  | some v => flat v
def zg (P : Program) (b : Builtin) (ts : List TypeId) (r : TypeId) (vs : List Value) (h : za) : Option (Value × za) :=
  match b, ts, vs with
  | .append, [sT, xT], [s, x] => jS P sT xT s x h
  | .copy, t :: _, [d, x] => zfZ P t d x h
  | .len, [t], [x] => (zla P t x h).map fun v => (v, h)
  | .clear, [t], [x] => (zas P t x h).map fun h' => (undef, h')
  | .min, _, _ => cond (vs.all flat) ((fl (yM P (Builtin.min_ ts.toArray r vs.toArray))).map fun v => (v, h)) none
  | .max, _, _ => cond (vs.all flat) ((fl (yM P (Builtin.max_ ts.toArray r vs.toArray))).map fun v => (v, h)) none
  | .delete, t :: _, [x, k] => (ko P t x k h).map fun h' => (undef, h')
  | .cap, [t], [x] => (zoj P t x).map fun v => (v, h)
  | .unsafeSliceData, _, [x] => (znG x).map fun v => (v, h)
  | .unsafeString, [pt, it], [p, .int .i64 n] => aus P pt p n h
  | _, _, _ => none
theorem Wm {ρ : Ren} : ∀ {xs ys : List Value}, yQ ρ xs ys -> xs.all flat = true -> ys = xs
  | [], ys, h, _ => h.xJ
  | x :: xs, ys, h, hf => by
    obtain ⟨y, ys', rfl, h1, h2⟩ := h.cons_inv
    simp only [List.all_cons, Bool.and_eq_true] at hf
    rw [vE h1 hf.1, Wm h2 hf.2]
theorem UO {ρ : Ren} {b : Builtin} {ts : Array TypeId} {r : TypeId} {vs vs' : List Value} {cs : Array Bool} {v : Value} {h h' : za} {w : World} (he : zg P b ts.toList r vs h = some (v, h')) (hr : Rel P ρ h w) (hv : yQ ρ vs vs') :
    ∃ v' w' ρ', (builtin b ts r cs vs'.toArray).run P w = .ok (.value v') w' /\ Step P ρ h w ρ' h' w' /\ z9 ρ' v v' := by
  unfold zg at he
  split at he
  . rename_i sT xT s x hts
    obtain ⟨s', l1, rfl, v1, hv⟩ := hv.cons_inv
    obtain ⟨x', l2, rfl, v2, hv⟩ := hv.cons_inv
    cases hv.xJ
    have : ts = #[sT, xT] := by rw [<- Array.toArray_toList (xs := ts), hts]
    subst this
    obtain ⟨v', w', ρ', e, st, hv'⟩ := Q0 (r := r) he hr v1 v2
    exact ⟨v', w', ρ', by simp only [builtin, Sem.run_bind]; rw [e]; rfl, st, hv'⟩
  . rename_i t ts' d x hts
    obtain ⟨d', l1, rfl, v1, hv⟩ := hv.cons_inv
    obtain ⟨x', l2, rfl, v2, hv⟩ := hv.cons_inv
    cases hv.xJ
    obtain ⟨v', w', e, st, hv'⟩ := zb9 (ts := ts) (r := r) he hr v1 v2 (by rw [<- Array.getElem?_toList, hts]; rfl)
    exact ⟨v', w', ρ, by simp only [builtin, Sem.run_bind]; rw [e]; rfl, st, hv'⟩
  . rename_i t x hts
    obtain ⟨x', l1, rfl, v1, hv⟩ := hv.cons_inv
    cases hv.xJ
    have : ts = #[t] := by rw [<- Array.toArray_toList (xs := ts), hts]
    subst this
    simp only [Option.map_eq_some_iff, Prod.mk.injEq] at he
    obtain ⟨u, hu, rfl, rfl⟩ := he
    obtain ⟨e, hv'⟩ := zbU hu hr v1 r
    exact ⟨u, w, ρ, by simp only [builtin, Sem.run_bind]; rw [e]; rfl, .refl hr, hv'⟩
  . rename_i t x hts
    obtain ⟨x', l1, rfl, v1, hv⟩ := hv.cons_inv
    cases hv.xJ
    have : ts = #[t] := by rw [<- Array.toArray_toList (xs := ts), hts]
    subst this
    simp only [Option.map_eq_some_iff, Prod.mk.injEq] at he
    obtain ⟨u, hu, rfl, rfl⟩ := he
    obtain ⟨w', e, st⟩ := zaR (r := r) hu hr v1
    exact ⟨undef, w', ρ, by simp only [builtin, Sem.run_bind]; rw [e]; rfl, st, .vI _ rfl⟩
  . obtain ⟨hf, he⟩ := zl he
    simp only [Option.map_eq_some_iff, Prod.mk.injEq] at he
    obtain ⟨u, hu, rfl, rfl⟩ := he
    obtain ⟨h1, h2⟩ := Zg hu
    obtain rfl := Wm hv hf
    refine ⟨u, w, ρ, ?_, .refl hr, .of_flat _ h2⟩
    have h1 := zh h1 w
    rw [Array.toArray_toList] at h1
    simp only [builtin, Sem.run_bind, h1]; rfl
  . obtain ⟨hf, he⟩ := zl he
    simp only [Option.map_eq_some_iff, Prod.mk.injEq] at he
    obtain ⟨u, hu, rfl, rfl⟩ := he
    obtain ⟨h1, h2⟩ := Zg hu
    obtain rfl := Wm hv hf
    refine ⟨u, w, ρ, ?_, .refl hr, .of_flat _ h2⟩
    have h1 := zh h1 w
    rw [Array.toArray_toList] at h1
    simp only [builtin, Sem.run_bind, h1]; rfl
  . rename_i t ts' x k hts
    obtain ⟨x', l1, rfl, v1, hv⟩ := hv.cons_inv
    obtain ⟨k', l2, rfl, v2, hv⟩ := hv.cons_inv
    cases hv.xJ
    simp only [Option.map_eq_some_iff, Prod.mk.injEq] at he
    obtain ⟨u, hu, rfl, rfl⟩ := he
    obtain ⟨w', e, st⟩ := WJ (ts := ts) (r := r) hu (by rw [<- Array.getElem?_toList, hts]; rfl) hr v1 v2
    exact ⟨undef, w', ρ, by simp only [builtin, Sem.run_bind]; rw [e]; rfl, st, .vI _ rfl⟩
  . rename_i t x hts
    obtain ⟨x', l1, rfl, v1, hv⟩ := hv.cons_inv
    cases hv.xJ
    have : ts = #[t] := by rw [<- Array.toArray_toList (xs := ts), hts]
    subst this
    simp only [Option.map_eq_some_iff, Prod.mk.injEq] at he
    obtain ⟨u, hu, rfl, rfl⟩ := he
    obtain ⟨e, hv'⟩ := zeB hu v1 r w
    exact ⟨u, w, ρ, by simp only [builtin, Sem.run_bind]; rw [e]; rfl, .refl hr, hv'⟩
  . rename_i ts' x hts
    obtain ⟨x', l1, rfl, v1, hv⟩ := hv.cons_inv
    cases hv.xJ
    simp only [Option.map_eq_some_iff, Prod.mk.injEq] at he
    obtain ⟨u, hu, rfl, rfl⟩ := he
    obtain ⟨v', e, hv'⟩ := zek hu v1 ts r w
    exact ⟨v', w, ρ, by simp only [builtin, Sem.run_bind]; rw [e]; rfl, .refl hr, hv'⟩
  . rename_i pt it p n hts
    obtain ⟨p', l1, rfl, v1, hv⟩ := hv.cons_inv
    obtain ⟨n', l2, rfl, v2, hv⟩ := hv.cons_inv
    cases hv.xJ
    cases v2
    have : ts = #[pt, it] := by rw [<- Array.toArray_toList (xs := ts), hts]
    subst this
    obtain ⟨v', w', e, st, hv'⟩ := zfW (it := it) (ty := r) he hr v1
    exact ⟨v', w', ρ, by simp only [builtin, Sem.run_bind]; rw [e]; rfl, st, hv'⟩
  . cases he
def one (h : za) (x : Option Value) : Option (Value × za) := match x with | none => none | some v => some (v, h)
def aop (P : Program) (s : Env) (o : Oper) (h : za) : Option (Value × za) :=
  match o.op with
  | .move x | .assign x => one h (aev s x)
  | .pick c a b => (match aev s c with
    | some (.bool true) => one h (aev s a)
    | some (.bool false) => one h (aev s b)
    | _ => none)
  | .box t x => (match aev s x with
    | some v => some (zhZ h v.cells.toList t)
    | none => none)
  | .alloc t => (match xo P t with
    | some z => some (zhZ h z.cells.toList t)
    | none => none)
  | .build t parts => (match Zf s parts.toList with
    | some ps => one h (yj P t ps)
    | none => none)
  | .buildSlice t len parts => (match Zf s parts.toList with
    | some ps => yd P t len ps h
    | none => none)
  | .load t a => (match aev s a with
    | some v => one h (zd P t v h)
    | none => none)
  | .store t a x => (match aev s a, aev s x with
    | some p, some v => (match zj P t p v h with
      | some h' => some (undef, h')
      | none => none)
    | _, _ => none)
  | .nilCheck x => (match aev s x with
    | some (.pointer (some a)) => some (.pointer (some a), h)
    | some (.func (.func f) a c) => some (.func (.func f) a c, h)
    | _ => none)
  | .binOp op t x y _ => (match aev s x, aev s y with
    | some a, some b => one h (zf P op t x y a b)
    | _, _ => none)
  | .unOp op _ x => (match aev s x with
    | some a => cond (flat a) (one h (fl (yM P (Op.unary op a)))) none
    | none => none)
  | .convert src dst x => (match aev s x with
    | some a => vf P src dst a h
    | none => none)
  | .makeInterface t x => (match aev s x with
    | some a => (match yM P (Instr.makeInterface t (.bool true)) with
      | some _ => some (.iface t a, h)
      | none => none)
    | none => none)
  | .makeFunc (.func f) first captured => (match QD s first.toList, QD s captured.toList with
    | some a, some c => some (.func (.func f) a.toArray c.toArray, h)
    | _, _ => none)
  | .makeSlice t l c => (match aev s l, aev s c with
    | some a, some b => ZQ P t a b h
    | _, _ => none)
  | .slice t x lo hi none => (match aev s x, zhW s lo, zhW s hi with
    | some (.string str), some a, some b => (match flatSlice P t str a b with
      | some v => some (v, h)
      | none => none)
    | some v, some a, some b => one h (QB P t v a b h)
    | _, _, _ => none)
  | .fieldAddr t x f => (match aev s x with
    | some a => one h (zb P t a f)
    | none => none)
  | .field t x f => (match aev s x with
    | some (.agg cs) => (match yM P (underlying t) with
      | some (.struct fields) => (match fields[f]? with
        | some fd => one h (apart P fd.type cs.toList fd.offset)
        | none => none)
      | _ => none)
    | _ => none)
  | .indexAddr t x i => (match aev s x, aev s i with
    | some a, some b => one h (zG P t a b)
    | _, _ => none)
  | .index t x i => (match aev s x, aev s i with
    | some a, some b => cond (flat a && flat b) (one h (fl (yM P (Instr.index t a b)))) none
    | _, _ => none)
  | .extract x i => (match aev s x with
    | some (.tuple vs) => one h vs[i]?
    | _ => none)
  | .call { callee := .builtin b, args, argTypes } => (match QD s args.toList with
    | some vs => zg P b argTypes.toList o.type vs h
    | none => none)
  | .makeMap _ none => some (Zu h)
  | .lookup t x k ok => (match aev s x, aev s k with
    | some a, some b => one h (KF P t a b ok h)
    | _, _ => none)
  | .mapUpdate t m k x => (match aev s m, aev s k, aev s x with
    | some a, some b, some c => (match uT P t a b c h with
      | some h' => some (undef, h')
      | none => none)
    | _, _, _ => none)
  | .range t x => (match aev s x with
    | some a => QC P t a h
    | none => none)
  | .next x str => (match aev s x with
    | some a => zdX P a str h
    | none => none)
  | .entry x => (match aev s x with
    | some a => one h (zcE a h)
    | none => none)
  | _ => none
where
  flatSlice (P : Program) (t : TypeId) (str : ByteArray) (a b : Option Value) : Option Value :=
    cond (zgy a && zgy b) (fl (yM P (Instr.sliceAt t (.string str) a b none))) none
end
end Go.Ai
namespace Go.Ai
noncomputable section
variable {P : Program}
def zgE (P : Program) (ρ : Ren) (h : za) (w : World) (s : Sem Next) (v : Value) (h' : za) : Prop :=
  ∃ n w' ρ' v', s.run P w = .ok n w' /\ (n = .value v' \/ (n = .skip /\ v' = undef)) /\ Step P ρ h w ρ' h' w' /\ z9 ρ' v v'
theorem zgE.val {ρ : Ren} {h h' : za} {w : World} {s : Sem Value} {v : Value} (e : ∃ v' w' ρ', s.run P w = .ok v' w' /\ Step P ρ h w ρ' h' w' /\ z9 ρ' v v') :
    zgE P ρ h w (do pure (.value (<- s))) v h' := by
  obtain ⟨v', w', ρ', e, st, hv⟩ := e
  exact ⟨.value v', w', ρ', v', by rw [Sem.run_bind, e]; rfl, .inl rfl, st, hv⟩
theorem zgE.still {ρ : Ren} {h : za} {w : World} {s : Sem Value} {v : Value} (hr : Rel P ρ h w) (e : ∃ v', s.run P w = .ok v' w /\ z9 ρ v v') :
    zgE P ρ h w (do pure (.value (<- s))) v h := by
  obtain ⟨v', e, hv⟩ := e
  exact .val ⟨v', w, ρ, e, .refl hr, hv⟩
theorem zgE.pure {ρ : Ren} {h : za} {w : World} {v v' : Value} (hr : Rel P ρ h w) (hv : z9 ρ v v') : zgE P ρ h w (Pure.pure (.value v')) v h :=
  ⟨.value v', w, ρ, v', rfl, .inl rfl, .refl hr, hv⟩
theorem yU {h h' : za} {x : Option Value} {v : Value} (e : one h x = some (v, h')) : x = some v /\ h' = h := by
  unfold one at e
  split at e
  . cases e
  . simp only [Option.some.injEq, Prod.mk.injEq] at e; obtain ⟨rfl, rfl⟩ := e; exact ⟨rfl, rfl⟩
theorem QO {ρ : Ren} {h : za} {w : World} {c v : Value} {b : Bool} {va vb : Value} (hr : Rel P ρ h w) (hc : z9 ρ (.bool b) c) (hv : z9 ρ v (if b = true then va else vb)) :
    zgE P ρ h w (do Pure.pure (.value (if <- asBool c then va else vb))) v h := by
  cases hc
  exact ⟨_, w, ρ, _, by simp only [asBool, Sem.run_bind, Sem.run_pure, Result.andThen_ok], .inl rfl, .refl hr, hv⟩
theorem KC {ρ : Ren} {t : TypeId} {a b a' b' v : Value} (hf : (flat a && flat b) = true) (h : fl (yM P (Instr.index t a b)) = some v) (ha : z9 ρ a a') (hb : z9 ρ b b') (w : World) :
    ∃ v', (Instr.index t a' b').run P w = .ok v' w /\ z9 ρ v v' := by
  simp only [Bool.and_eq_true] at hf
  obtain rfl := vE ha hf.1
  obtain rfl := vE hb hf.2
  obtain ⟨h1, h2⟩ := Zg h
  exact ⟨v, zh h1 w, .of_flat ρ h2⟩
theorem Jz {ρ : Ren} {x x' : Option Value} (h : zlK ρ x x') (hf : zgy x = true) : x' = x := by
  cases x with
  | none => exact h.2 rfl
  | some v => obtain ⟨v', rfl, hv⟩ := h.1 v rfl; rw [vE hv hf]
set_option maxHeartbeats 1000000 in
theorem zaq {ρ : Ren} {s : Env} {a : Act} {o : Oper} {h h' : za} {v : Value} {w : World} (he : aop P s o h = some (v, h')) (hr : Rel P ρ h w) (hs : xe ρ s a.tmps) :
    zgE P ρ h w (execOp a.eval o) v h' := by
  unfold aop at he
  split at he
  ·
    rename_i x hop
    obtain ⟨h1, rfl⟩ := yU he
    simp only [execOp, hop]
    exact .pure hr (zB hs h1)
  ·
    rename_i x hop
    obtain ⟨h1, rfl⟩ := yU he
    simp only [execOp, hop]
    exact .pure hr (zB hs h1)
  ·
    rename_i c x y hop
    simp only [execOp, hop]
    split at he
    . rename_i hc
      obtain ⟨h1, rfl⟩ := yU he
      exact QO hr (zB hs hc) (by rw [if_pos rfl]; exact zB hs h1)
    . rename_i hc
      obtain ⟨h1, rfl⟩ := yU he
      exact QO hr (zB hs hc) (by rw [if_neg (by decide)]; exact zB hs h1)
    . cases he
  ·
    rename_i t x hop
    simp only [execOp, hop]
    split at he
    case h_2 => cases he
    rename_i u hu
    simp only [Option.some.injEq, zhZ, Prod.mk.injEq] at he
    obtain ⟨rfl, rfl⟩ := he
    obtain ⟨a', w', ρ', e, st, hv⟩ := WG hr (zB hs hu) t
    exact .val ⟨_, w', ρ', by simp only [Instr.box, Sem.run_bind, e, Result.andThen_ok, Sem.run_pure], st, hv⟩
  ·
    rename_i t hop
    simp only [execOp, hop]
    split at he
    case h_2 => cases he
    rename_i z hz
    simp only [Option.some.injEq, zhZ, Prod.mk.injEq] at he
    obtain ⟨rfl, rfl⟩ := he
    obtain ⟨z1, z2⟩ := ua (ρ := ρ) hz w
    obtain ⟨a', w', ρ', e, st, hv⟩ := WG hr z2 t
    exact .val ⟨_, w', ρ', by simp only [Instr.alloc, Sem.run_bind, z1, e, Result.andThen_ok, Sem.run_pure], st, hv⟩
  ·
    rename_i t parts hop
    simp only [execOp, hop]
    split at he
    case h_2 => cases he
    rename_i ps hps
    obtain ⟨h1, rfl⟩ := yU he
    have hp := jC hs hps
    obtain ⟨v', e, hv⟩ := zaw h1 hp w
    refine .still hr ⟨v', ?_, hv⟩
    rw [<- e]
    congr 1
    congr 1
    apply Array.ext'
    simp
  ·
    rename_i t len parts hop
    simp only [execOp, hop]
    split at he
    case h_2 => cases he
    rename_i ps hps
    have hp := jC hs hps
    obtain ⟨v', w', ρ', e, st, hv⟩ := XS he hr hp
    refine .val ⟨v', w', ρ', ?_, st, hv⟩
    rw [<- e]
    congr 1
    congr 1
    apply Array.ext'
    simp
  ·
    rename_i t x hop
    simp only [execOp, hop]
    split at he
    case h_2 => cases he
    rename_i u hu
    obtain ⟨h1, rfl⟩ := yU he
    exact .still hr (Uz h1 hr (zB hs hu))
  ·
    rename_i t p x hop
    simp only [execOp, hop]
    split at he
    case h_2 => cases he
    rename_i pv xv hp hx
    split at he
    case h_2 => cases he
    rename_i h2 hst
    simp only [Option.some.injEq, Prod.mk.injEq] at he
    obtain ⟨rfl, rfl⟩ := he
    obtain ⟨w', e, st⟩ := zaK hst hr (zB hs hp) (zB hs hx)
    exact ⟨.skip, w', ρ, undef, by rw [Sem.run_bind, e]; rfl, .inr ⟨rfl, rfl⟩, st, .vI _ rfl⟩
  ·
    rename_i x hop
    simp only [execOp, hop]
    split at he
    . rename_i p hp
      simp only [Option.some.injEq, Prod.mk.injEq] at he
      obtain ⟨rfl, rfl⟩ := he
      have e := zB hs hp
      generalize a.eval x = xv at e
      cases e with
      | ptr hb hm => exact .pure hr (.ptr hb hm)
      | Yt => exact .pure hr .Yt
    . rename_i f fa fc hp
      simp only [Option.some.injEq, Prod.mk.injEq] at he
      obtain ⟨rfl, rfl⟩ := he
      have e := zB hs hp
      generalize a.eval x = xv at e
      cases e with
      | func h1 h2 h3 h4 => exact .pure hr (.func h1 h2 h3 h4)
    . cases he
  ·
    rename_i op t x y yt hop
    simp only [execOp, hop]
    split at he
    case h_2 => cases he
    rename_i xv yv hx hy
    obtain ⟨h1, rfl⟩ := yU he
    exact .still hr (zbt h1 (zB hs hx) (zB hs hy) w)
  ·
    rename_i op t x hop
    simp only [execOp, hop]
    split at he
    case h_2 => cases he
    rename_i xv hx
    obtain ⟨hf, he⟩ := zl he
    obtain ⟨h1, rfl⟩ := yU he
    obtain ⟨h2, h3⟩ := Zg h1
    rw [vE (zB hs hx) hf]
    exact .still hr ⟨v, zh h2 w, .of_flat ρ h3⟩
  ·
    rename_i src dst x hop
    simp only [execOp, hop]
    split at he
    case h_2 => cases he
    rename_i xv hx
    exact .val (zbG he hr (zB hs hx))
  ·
    rename_i t x hop
    simp only [execOp, hop]
    split at he
    case h_2 => cases he
    rename_i xv hx
    split at he
    case h_2 => cases he
    rename_i u hu
    simp only [Option.some.injEq, Prod.mk.injEq] at he
    obtain ⟨rfl, rfl⟩ := he
    refine .still hr ⟨.iface t (a.eval x), ?_, .iface (zB hs hx)⟩
    have := zh hu w
    simp only [Instr.makeInterface, Sem.run_bind] at this ⊢
    cases hun : (underlying t).run P w with
    | halt e w2 => rw [hun] at this; cases this
    | ok d w2 =>
      rw [hun] at this
      simp only [Result.andThen_ok] at this ⊢
      cases d <;> simp_all
  ·
    rename_i f first captured hop
    simp only [execOp, hop]
    split at he
    case h_2 => cases he
    rename_i av cv ha hc
    simp only [Option.some.injEq, Prod.mk.injEq] at he
    obtain ⟨rfl, rfl⟩ := he
    have e1 := wW hs ha
    have e2 := wW hs hc
    refine .still hr ⟨.func (.func f) (first.map a.eval) (captured.map a.eval), rfl, .func (by simpa using e1.1) (by simpa using e2.1) (fun i x y hx hy => e1.2 i x y (by simpa using hx) (by simpa using hy)) (fun i x y hx hy => e2.2 i x y (by simpa using hx) (by simpa using hy))⟩
  ·
    rename_i t l c hop
    simp only [execOp, hop]
    split at he
    case h_2 => cases he
    rename_i lv cv hl hc
    exact .val (zb8 he hr (zB hs hl) (zB hs hc))
  ·
    rename_i t x lo hi hop
    simp only [execOp, hop]
    split at he
    . rename_i str av bv hx ha hb
      split at he
      case h_2 => cases he
      rename_i u hu
      simp only [Option.some.injEq, Prod.mk.injEq] at he
      obtain ⟨rfl, rfl⟩ := he
      obtain ⟨hf, hu⟩ := zl hu
      simp only [Bool.and_eq_true] at hf
      obtain ⟨h1, h2⟩ := Zg hu
      rw [vE (zB hs hx) rfl, Jz (ZH hs ha) hf.1, Jz (ZH hs hb) hf.2]
      exact .still hr ⟨u, zh h1 w, .of_flat ρ h2⟩
    . rename_i xv av bv _ hx ha hb
      obtain ⟨h1, rfl⟩ := yU he
      exact .still hr (zaT h1 hr (zB hs hx) (ZH hs ha) (ZH hs hb))
    . cases he
  ·
    rename_i t x f hop
    simp only [execOp, hop]
    split at he
    case h_2 => cases he
    rename_i xv hx
    obtain ⟨h1, rfl⟩ := yU he
    exact .still hr (Jg h1 (zB hs hx) w)
  ·
    rename_i t x f hop
    simp only [execOp, hop]
    split at he
    case h_2 => cases he
    rename_i cs hx
    split at he
    case h_2 => cases he
    rename_i fields hu
    split at he
    case h_2 => cases he
    rename_i fd hfd
    obtain ⟨h1, rfl⟩ := yU he
    have e := zB hs hx
    generalize a.eval x = xv at e
    cases e with
    | agg h2 h3 =>
      rename_i cs'
      obtain ⟨v', e, hv⟩ := zbO (cs' := cs') h1 ⟨by simpa using h2, fun i x y hx hy => h3 i x y (by simpa using hx) (by simpa using hy)⟩ w
      refine .still hr ⟨v', ?_, hv⟩
      simp only [Instr.field, Sem.run_bind, zh hu, Result.andThen_ok, hfd, asAgg, Sem.run_pure, e]
  ·
    rename_i t x i hop
    simp only [execOp, hop]
    split at he
    case h_2 => cases he
    rename_i xv iv hx hi
    obtain ⟨h1, rfl⟩ := yU he
    exact .still hr (zal h1 (zB hs hx) (zB hs hi) w)
  ·
    rename_i t x i hop
    simp only [execOp, hop]
    split at he
    case h_2 => cases he
    rename_i xv iv hx hi
    obtain ⟨hf, he⟩ := zl he
    obtain ⟨h1, rfl⟩ := yU he
    exact .still hr (KC hf h1 (zB hs hx) (zB hs hi) w)
  ·
    rename_i x i hop
    simp only [execOp, hop]
    split at he
    case h_2 => cases he
    rename_i vs hx
    obtain ⟨h1, rfl⟩ := yU he
    have e := zB hs hx
    generalize a.eval x = xv at e
    cases e with
    | tuple h2 h3 =>
      rename_i vs'
      have hlt : i < vs.size := by
        rcases Nat.lt_or_ge i vs.size with h | h
        . exact h
        . rw [Array.getElem?_eq_none h] at h1; cases h1
      have hy : vs'[i]? = some vs'[i] := Array.getElem?_eq_getElem (h2 ▸ hlt)
      refine .still hr ⟨vs'[i]'(h2 ▸ hlt), ?_, h3 i _ _ h1 hy⟩
      simp only [Instr.extract, hy, Sem.run_pure]
  ·
    rename_i b args ts hop
    simp only [execOp, hop]
    split at he
    case h_2 => cases he
    rename_i vs hvs
    have e := wW hs hvs
    obtain ⟨v', w', ρ', e1, st, hv⟩ := UO (cs := args.map fun | .const _ => true | _ => false) he hr e
    refine ⟨.value v', w', ρ', v', ?_, .inl rfl, st, hv⟩
    simp only [resolve, Sem.run_bind, Sem.run_pure, Result.andThen_ok, invoke]
    rw [<- e1]
    congr 2
    apply Array.ext'
    simp
  ·
    rename_i t hop
    simp only [execOp, hop]
    simp only [Option.some.injEq] at he
    obtain ⟨v', w', ρ', e, st, hv⟩ := UW hr t
    rw [he] at st hv
    exact .val ⟨v', w', ρ', e, st, hv⟩
  ·
    rename_i t x k ok hop
    simp only [execOp, hop]
    split at he
    case h_2 => cases he
    rename_i xv kv hx hk
    obtain ⟨h1, rfl⟩ := yU he
    exact .still hr (QY h1 hr (zB hs hx) (zB hs hk))
  ·
    rename_i t m k x hop
    simp only [execOp, hop]
    split at he
    case h_2 => cases he
    rename_i mv kv xv hm hk hx
    split at he
    case h_2 => cases he
    rename_i h2 hu
    simp only [Option.some.injEq, Prod.mk.injEq] at he
    obtain ⟨rfl, rfl⟩ := he
    obtain ⟨w', e, st⟩ := WL hu hr (zB hs hm) (zB hs hk) (zB hs hx)
    exact ⟨.skip, w', ρ, undef, by simp only [Sem.run_bind, e, Result.andThen_ok, Sem.run_pure], .inr ⟨rfl, rfl⟩, st, .vI _ rfl⟩
  ·
    rename_i t x hop
    simp only [execOp, hop]
    split at he
    case h_2 => cases he
    rename_i xv hx
    exact .val (zad he hr (zB hs hx))
  ·
    rename_i x str hop
    simp only [execOp, hop]
    split at he
    case h_2 => cases he
    rename_i xv hx
    exact .val (zb4 he hr (zB hs hx))
  ·
    rename_i x hop
    simp only [execOp, hop]
    split at he
    case h_2 => cases he
    rename_i xv hx
    obtain ⟨h1, rfl⟩ := yU he
    exact .still hr (zaH h1 hr (zB hs hx))
  . cases he
end
end Go.Ai
namespace Go.Ai
noncomputable section
variable {P : Program}
def fat (b : Frame) (tm : Array Value) (ds : List Deferred) (todo : List Item) : Frame :=
  { fn := b.fn, tmps := tm, todo, defers := ds, mode := .run, kind := b.kind, roundOf := b.roundOf }
theorem KH (b : Frame) (tm : Array Value) (ds : List Deferred) (todo : List Item) : (fat b tm ds todo).eval = (Act.eval ⟨tm, ds⟩) := by
  funext x; cases x <;> rfl
section moves
variable {b : Frame} {tm : Array Value} {ds : List Deferred} {k : List Item} {cs : List Frame} {w : World}
theorem zd5 : step P (lone (fat b tm ds (.code .skip :: k)) cs w) = .next (lone (fat b tm ds k) cs w) := step_lone_go (by simp [stepG, stepG.exec, fat])
theorem zbW {l : Nat} : step P (lone (fat b tm ds (.code (.label l) :: k)) cs w) = .next (lone (fat b tm ds k) cs w) := step_lone_go (by simp [stepG, stepG.exec, fat])
theorem KB {id : Nat} : step P (lone (fat b tm ds (.inBlock id :: k)) cs w) = .next (lone (fat b tm ds k) cs w) := step_lone_go (by simp [stepG, stepG.exec, fat])
theorem Ke {c : Code} : step P (lone (fat b tm ds (.inScope c :: k)) cs w) = .next (lone (fat b tm ds k) cs w) := step_lone_go (by simp [stepG, stepG.exec, fat])
theorem VU {x y : Code} : step P (lone (fat b tm ds (.code (.seq x y) :: k)) cs w) = .next (lone (fat b tm ds (.code x :: .code y :: k)) cs w) := step_lone_go (by simp [stepG, stepG.exec, fat])
theorem zeZ {c : Operand} {x y : Code} {t : Bool} (h : Act.eval ⟨tm, ds⟩ c = .bool t) : step P (lone (fat b tm ds (.code (.cond c x y) :: k)) cs w) = .next (lone (fat b tm ds (.code (if t then x else y) :: k)) cs w) :=
  step_lone_go (by
    have := congrFun (KH b tm ds (.code (.cond c x y) :: k)) c
    simp only [fat] at this
    simp [stepG, stepG.exec, fat, this, h])
theorem kS {id : Nat} {c : Code} : step P (lone (fat b tm ds (.code (.block id c) :: k)) cs w) = .next (lone (fat b tm ds (.code c :: .inBlock id :: k)) cs w) := step_lone_go (by simp [stepG, stepG.exec, fat])
theorem Ym {c : Code} : step P (lone (fat b tm ds (.code (.scope c) :: k)) cs w) = .next (lone (fat b tm ds (.code c :: .inScope c :: k)) cs w) := step_lone_go (by simp [stepG, stepG.exec, fat])
theorem Zl {c : Code} : step P (lone (fat b tm ds (.code (.loop c) :: k)) cs w) = .next (lone (fat b tm ds (.code c :: .inLoop c :: k)) cs w) := step_lone_go (by simp [stepG, stepG.exec, fat])
theorem Jb {c : Code} : step P (lone (fat b tm ds (.inLoop c :: k)) cs w) = .next (lone (fat b tm ds (.code c :: .inLoop c :: k)) cs w) := step_lone_go (by simp [stepG, stepG.exec, fat])
theorem zex {id : Nat} {k' : List Item} (h : exitTo id k = some k') : step P (lone (fat b tm ds (.code (.exit id) :: k)) cs w) = .next (lone (fat b tm ds k') cs w) := step_lone_go (by simp [stepG, stepG.exec, fat, h])
theorem Jy {id : Nat} {ops : Array Oper} : step P (lone (fat b tm ds (.code (.region id ops false) :: k)) cs w) = .next (lone (fat b tm ds (.inRegion ops (List.range ops.size) :: k)) cs w) := step_lone_go (by simp [stepG, stepG.exec, fat])
theorem kz {id : Nat} {ops : Array Oper} : step P (lone (fat b tm ds (.code (.region id ops true) :: k)) cs w) =
    .next (lone (fat b tm ds (.inRegion ops (Region.schedule (P.follows .mixedOrders) ops (w.tape w.drawn (.order b.fn id))) :: k)) cs { w with drawn := w.drawn + 1 }) :=
  step_lone_go (by simp [stepG, stepG.exec, fat, choose, Sem.run, Question.forced, Question.cut])
theorem uw {ops : Array Oper} : step P (lone (fat b tm ds (.inRegion ops [] :: k)) cs w) = .next (lone (fat b tm ds k) cs w) := step_lone_go (by simp [stepG, stepG.exec, fat])
theorem zfA (hb : b.roundOf = none) : step P (lone (fat b tm ds (.code .ret :: k)) cs w) = .next (lone { fat b tm ds (.code .ret :: k) with mode := .returning } cs w) :=
  step_lone_go (by simp [stepG, stepG.exec, fat, hb])
theorem zhI (hb : b.roundOf = none) : step P (lone (fat b tm ds []) cs w) = .next (lone { fat b tm ds [] with mode := .returning } cs w) :=
  step_lone_go (by simp [stepG, stepG.exec, fat, hb])
theorem wZ (ops : Array Oper) (i : Nat) (rest : List Nat) (v : Value) :
    (fat b tm ds (.inRegion ops (i :: rest) :: k)).finish v = fat b (wV tm ((ops[i]?).bind (·.dst)) v) ds (.inRegion ops rest :: k) := by
  cases h : (ops[i]?).bind (·.dst) <;> simp [Frame.finish, fat, wV, h]
theorem Y7 {ops : Array Oper} {i : Nat} {rest : List Nat} (h : ((ops[i]?).map (Region.wanted · (yielded ops tm))).getD false = false) :
    step P (lone (fat b tm ds (.inRegion ops (i :: rest) :: k)) cs w) = .next (lone ((fat b tm ds (.inRegion ops (i :: rest) :: k)).finish undef) cs w) := by
  exact step_lone_go (by
    have h' := h
    simp only [fat] at *
    simp [stepG, stepG.exec, h'])
def qQ : Op -> Bool
  | .defer _ => true
  | _ => false
theorem Xh {ops : Array Oper} {i : Nat} {rest : List Nat} {o : Oper} (ho : ops[i]? = some o) (hw : Region.wanted o (yielded ops tm) = true) (hd : qQ o.op = false) :
    stepG P true { frame := fat b tm ds (.inRegion ops (i :: rest) :: k), callers := cs, status := .running, dying := none } w =
      stepG.apply P true (fat b tm ds (.inRegion ops (i :: rest) :: k)) cs none (execOp (Act.eval ⟨tm, ds⟩) o) w := by
  have he := KH b tm ds (.inRegion ops (i :: rest) :: k)
  have hw' : ((ops[i]?).map (Region.wanted · (yielded ops tm))).getD false = true := by rw [ho]; exact hw
  have h2 : (fat b tm ds (.inRegion ops (i :: rest) :: k)).oper? = some o := by simp [Frame.oper?, fat, ho]
  have h1 : stepG P true { frame := fat b tm ds (.inRegion ops (i :: rest) :: k), callers := cs, status := .running, dying := none } w = stepG.oper P true (fat b tm ds (.inRegion ops (i :: rest) :: k)) cs none w := by
    simp only [stepG, fat]
    simp only [stepG.exec, hw']
    rfl
  rw [h1]
  simp only [stepG.oper, h2, he]
  cases hro : (fat b tm ds (.inRegion ops (i :: rest) :: k)).roundOf with
  | none => rfl
  | some l => cases hop : o.op <;> first | rfl | (rw [hop] at hd; cases hd)
theorem ub {ops : Array Oper} {i : Nat} {rest : List Nat} {o : Oper} (ho : ops[i]? = some o) (hw : Region.wanted o (yielded ops tm) = true) (hd : qQ o.op = false) {v : Value} {w' : World}
    (hr : (execOp (Act.eval ⟨tm, ds⟩) o).run P w = .ok (.value v) w') :
    step P (lone (fat b tm ds (.inRegion ops (i :: rest) :: k)) cs w) = .next (lone ((fat b tm ds (.inRegion ops (i :: rest) :: k)).finish v) cs w') :=
  step_lone_go (by rw [Xh ho hw hd]; simp [stepG.apply, hr])
theorem uE {ops : Array Oper} {i : Nat} {rest : List Nat} {o : Oper} (ho : ops[i]? = some o) (hw : Region.wanted o (yielded ops tm) = true) (hd : qQ o.op = false) {w' : World}
    (hr : (execOp (Act.eval ⟨tm, ds⟩) o).run P w = .ok .skip w') :
    step P (lone (fat b tm ds (.inRegion ops (i :: rest) :: k)) cs w) = .next (lone ((fat b tm ds (.inRegion ops (i :: rest) :: k)).finish undef) cs w') :=
  step_lone_go (by rw [Xh ho hw hd]; simp [stepG.apply, hr])
theorem ZU {ops : Array Oper} {i : Nat} {rest : List Nat} {o : Oper} (ho : ops[i]? = some o) (hw : Region.wanted o (yielded ops tm) = true) (hd : qQ o.op = false) {f : FuncId} {args : Array Value} {w' : World}
    (hr : (execOp (Act.eval ⟨tm, ds⟩) o).run P w = .ok (.enter f args) w') :
    step P (lone (fat b tm ds (.inRegion ops (i :: rest) :: k)) cs w) = .next (lone (Frame.enter P f args .normal) (fat b tm ds (.inRegion ops (i :: rest) :: k) :: cs) w') :=
  step_lone_go (by rw [Xh ho hw hd]; simp [stepG.apply, hr, fat])
end moves
end
end Go.Ai
