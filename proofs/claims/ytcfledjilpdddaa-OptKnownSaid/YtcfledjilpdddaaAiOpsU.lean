/-
  Addresses through unsafe.Pointer, and a text over bytes: what strings.Builder does.
-/
import Derived.Test.YtcfledjilpdddaaAiOpsM
import Derived.Lib.Builder
import Derived.Lib.UnsafeStr
import Derived.LaidEqlPtr
import GoSem.Builtin.Cap
import GoSem.Builtin.UnsafeString
set_option linter.unusedVariables false
namespace Go.Ai
noncomputable section
variable {P : Program}

theorem shape_of_cells {w : World} {l : Nat} {cs : Array Value} {e : TypeId} {fz : Nat × Nat} (h : w.heap[l]? = some (.cells cs e fz)) : w.shape? l = some (e, cs.size) := by
  simp [World.shape?, h]
def aconvU (P : Program) (src dst : TypeId) (x : Value) (h : AHeap) : Option Value :=
  match P.underlying src, P.underlying dst, x with
  | some (.pointer t), some .unsafePointer, .pointer (some ⟨b, off, none⟩) => (match h.get b, P.info? t with
    | some (.cells c _), some j => cond (Nat.blt off c.length && !(Nat.beq j.size 0)) (some (.pointer (some ⟨b, off, none⟩))) none
    | _, _ => none)
  | some .unsafePointer, some (.pointer u), .pointer (some ⟨b, off, none⟩) => (match h.get b, P.info? u with
    | some (.cells c e), some _ => cond (Nat.beq e u && Nat.blt 0 (P.cellsOf u) && Nat.beq (off % P.cellsOf u) 0 && Nat.ble (off + P.cellsOf u) c.length) (some (.pointer (some ⟨b, off, none⟩))) none
    | _, _ => none)
  | _, _, _ => none
theorem lies_one {e : TypeId} {cells o : Nat} (hs : 0 < P.cellsOf e) (h0 : o % P.cellsOf e = 0) (hle : o + P.cellsOf e ≤ cells) : liesAt P P.depth e (cells / P.cellsOf e) o e 1 = true := by
  have hd : P.depth = (2 * (P.types.size + Made.depth) + 1) + 1 := rfl
  have hlt : o / P.cellsOf e + 1 ≤ cells / P.cellsOf e := by
    have h1 := Nat.div_le_div_right (c := P.cellsOf e) hle
    rw [Nat.add_div_right _ hs] at h1
    exact h1
  rw [hd]
  simp only [liesAt, Bool.or_eq_true]
  left
  rw [hd]
  have hne : P.cellsOf e ≠ 0 := by omega
  simp only [rowAt, if_neg hne, h0]
  simp [hlt, sameLayout]
theorem lies_bytes {e : TypeId} (hc : P.cellsOf e = 1) {count o n : Nat} (hn : o + n ≤ count) : liesAt P P.depth e count o e n = true := by
  have hd : P.depth = (2 * (P.types.size + Made.depth) + 1) + 1 := rfl
  rw [hd]
  simp only [liesAt, Bool.or_eq_true]
  left
  rw [hd]
  simp [rowAt, hc, hn, sameLayout, Nat.mod_one]
theorem aconvU_sound {ρ : Ren} {src dst : TypeId} {x x' v : Value} {h : AHeap} {w : World} (he : aconvU P src dst x h = some v) (hr : Rel P ρ h w) (hx : VRel ρ x x') :
    ∃ v', (convert src dst x').run P w = .ok v' w ∧ VRel ρ v v' := by
  unfold aconvU at he
  split at he
  · rename_i t b off hs hd
    cases hx with
    | ptr hb hm =>
      rename_i pl
      split at he
      case h_2 => cases he
      rename_i c e j hg hi
      obtain ⟨hc, he⟩ := condm he
      simp only [Option.some.injEq] at he
      subst he
      simp only [Bool.and_eq_true, Nat.blt_eq, Bool.not_eq_true'] at hc
      obtain ⟨cs, fz, h1, h2, h3, h4, h5, h6⟩ := hr.place hg hm
      have hj : j.size ≠ 0 := by intro ez; rw [ez] at hc; simp at hc
      refine ⟨_, Lib.run_to_unsafe w ⟨pl.c, pl.base + off, none⟩ hs hd hi hj (shape_of_cells h1) ?_, .ptr hb hm⟩
      show pl.base + off < cs.size
      omega
  · rename_i u b off hs hd
    cases hx with
    | ptr hb hm =>
      rename_i pl
      split at he
      case h_2 => cases he
      rename_i c e j hg hi
      obtain ⟨hc, he⟩ := condm he
      simp only [Option.some.injEq] at he
      subst he
      simp only [Bool.and_eq_true, Nat.blt_eq] at hc
      obtain ⟨⟨⟨k1, k2⟩, k3⟩, k4⟩ := hc
      obtain rfl := Nat.eq_of_beq_eq_true k1
      have k3 := Nat.eq_of_beq_eq_true k3
      have k4 := Nat.le_of_ble_eq_true k4
      obtain ⟨cs, fz, h1, h2, ⟨h3, h30⟩, h4, h5, h6⟩ := hr.place hg hm
      refine ⟨_, Lib.run_from_unsafe w ⟨pl.c, pl.base + off, none⟩ hs hd hi (shape_of_cells h1) (lies_one k2 ?_ ?_), .ptr hb hm⟩
      · show (pl.base + off) % P.cellsOf e = 0
        rw [Nat.add_mod, ← h3, h30, h3, k3]; simp
      · show pl.base + off + P.cellsOf e ≤ cs.size
        omega
  · cases he

/-! ### The bytes behind a slice as a text -/
def ausd : Value → Option Value
  | .slice none _ _ => some (.pointer none)
  | .slice (some ⟨b, off, none⟩) n _ => cond (Nat.blt 0 n) (some (.pointer (some ⟨b, off, none⟩))) none
  | _ => none
theorem ausd_sound {ρ : Ren} {x x' v : Value} (he : ausd x = some v) (hx : VRel ρ x x') (ts : Array TypeId) (ty : TypeId) (w : World) : ∃ v', (Builtin.unsafeSliceData_ ts ty #[x']).run P w = .ok v' w ∧ VRel ρ v v' := by
  unfold ausd at he
  split at he
  · simp only [Option.some.injEq] at he
    subst he
    cases hx
    exact ⟨_, Lib.run_unsafeSliceData_nil w ts ty _ _, .ptrNil⟩
  · rename_i b off n c
    obtain ⟨hn, he⟩ := condm he
    simp only [Option.some.injEq] at he
    subst he
    have hn : 0 < n := by simpa [Nat.blt_eq] using hn
    cases hx with
    | slice hb hm hl hc => exact ⟨_, Lib.run_unsafeSliceData_row w ts ty _ _ _ (by omega), .ptr hb hm⟩
    | sliceOut => omega
  · cases he
/-- Cells that are bytes. -/
def byteList : List Value → Option (List UInt8)
  | [] => some []
  | .int .u8 z :: r => cond (decide (((UInt8.ofNat z.toNat).toNat : Int) = z)) ((byteList r).map fun l => UInt8.ofNat z.toNat :: l) none
  | _ => none
theorem byteList_at : ∀ {c : List Value} {l : List UInt8}, byteList c = some l → c.length = l.length ∧ ∀ (j : Nat) x, l[j]? = some x → c[j]? = some (.int .u8 x.toNat)
  | [], l, h => by simp only [byteList, Option.some.injEq] at h; subst h; exact ⟨rfl, fun j x hx => by simp at hx⟩
  | a :: c, l, h => by
    unfold byteList at h
    split at h
    · rename_i e; cases e
    · rename_i z r e
      simp only [List.cons.injEq] at e
      obtain ⟨rfl, rfl⟩ := e
      obtain ⟨hz, h⟩ := condm h
      obtain ⟨l', hl, rfl⟩ := Option.map_eq_some_iff.1 h
      obtain ⟨q1, q2⟩ := byteList_at hl
      have hz := of_decide_eq_true hz
      refine ⟨by simp [q1], fun j x hx => ?_⟩
      cases j with
      | zero => simp only [List.getElem?_cons_zero, Option.some.injEq] at hx ⊢; subst hx; rw [hz]
      | succ j => simpa using q2 j x (by simpa using hx)
    · cases h
theorem run_unsafeString_at {pt it ty e : TypeId} (hp : P.underlying pt = some (.pointer e)) (hc : P.cellsOf e = 1) {w : World} {g o cells : Nat} (hsh : w.shape? g = some (e, cells)) {l : List UInt8} (h0 : l ≠ []) (hn : o + l.length ≤ cells) (h63 : l.length ≤ 9223372036854775807)
    (hcell : ∀ (j : Nat) x, l[j]? = some x → w.cell? ((⟨g, o, none⟩ : Addr).add j) = some (.int .u8 x.toNat)) :
    (Builtin.unsafeString_ #[pt, it] ty #[.pointer (some ⟨g, o, none⟩), .int .i64 l.length]).run P w = .ok (.string ⟨l.toArray⟩) (w.freeze ⟨g, o, none⟩ l.length) := by
  have hl : l.length ≠ 0 := by simpa using h0
  have hlb := Lib.run_loadBytes (P := P) w l ⟨g, o, none⟩ .empty hcell
  have hlies := lies_bytes (P := P) hc (count := cells / P.cellsOf e) (o := o) (n := l.length) (by rw [hc]; simpa using hn)
  have h63' : ¬ (9223372036854775807 : Int) < (l.length : Int) := by omega
  have hmax : IntKind.i64.max = 9223372036854775807 := rfl
  have hneg : ¬ (l.length : Int) < 0 := by omega
  rw [show Builtin.unsafeString_ #[pt, it] ty #[.pointer (some ⟨g, o, none⟩), .int .i64 l.length] = (asInt (.int .i64 l.length) >>= _) from rfl]
  simp [asInt, asIntOf, hmax, h63', hneg, hl, variablesAt, hsh, elemOf, run_underlying hp, hlies, hlb]
def ptrTo (P : Program) (pt e : TypeId) : Bool :=
  match P.underlying pt with
  | some (.pointer e') => Nat.beq e' e
  | _ => false
theorem ptrTo_eq {pt e : TypeId} (h : ptrTo P pt e = true) : P.underlying pt = some (.pointer e) := by
  unfold ptrTo at h
  split at h
  · rename_i e' he; rw [he, Nat.eq_of_beq_eq_true h]
  · cases h
def aus (P : Program) (pt : TypeId) (p : Value) (n : Int) (h : AHeap) : Option (Value × AHeap) :=
  match p with
  | .pointer none => cond (decide (n = 0)) (some (.string .empty, h)) none
  | .pointer (some ⟨b, off, none⟩) => cond (decide (n = 0)) (some (.string .empty, h)) (match h.get b with
    | some (.cells c e) => (match byteList ((c.drop off).take n.toNat) with
      | some l => cond (Nat.ble h.ro b && ptrTo P pt e && Nat.beq (P.cellsOf e) 1 && decide (n = (l.length : Int)) && Nat.blt 0 l.length && Nat.ble l.length 9223372036854775807) (some (.string ⟨l.toArray⟩, h.set b none)) none
      | none => none)
    | _ => none)
  | _ => none
theorem heap_freeze_ne (w : World) (p : Addr) (n k : Nat) (hk : k ≠ p.block) : (w.freeze p n).heap[k]? = w.heap[k]? := by
  unfold World.freeze
  split
  · rfl
  · simp only [Array.getElem?_modify]
    rw [if_neg (by omega)]
theorem freeze_parts (w : World) (p : Addr) (n : Nat) : (w.freeze p n).os = w.os ∧ (w.freeze p n).tape = w.tape ∧ (w.freeze p n).output = w.output ∧ (w.freeze p n).heap.size = w.heap.size := by
  unfold World.freeze
  split
  · exact ⟨rfl, rfl, rfl, rfl⟩
  · exact ⟨rfl, rfl, rfl, by simp⟩
/-- A block that is left alone from now on may turn. -/
theorem Step.leave {ρ : Ren} {h : AHeap} {w w' : World} (hr : Rel P ρ h w) {b : Nat} {o : AObj} {pl : Place} (hg : h.get b = some o) (hm : ρ.m b = some pl) (hro : h.ro ≤ b) (hos : w'.os = w.os) (htape : w'.tape = w.tape) (hout : w'.output = w.output) (hsz : w'.heap.size = w.heap.size)
    (hfr : ∀ k, k ≠ pl.c → w'.heap[k]? = w.heap[k]?) : Step P ρ h w ρ (h.set b none) w' := by
  have hd := hr.drop b
  refine ⟨Ren.le_refl _, ⟨hd.next, hd.ro, hd.dom, fun x ox hx => ?_, hd.inj, hd.gro, hd.glob⟩, rfl, hos, htape, hout, by omega, fun k _ hn => hfr k (fun e => hn ⟨b, o, pl, hg, hro, hm, e.symm⟩), fun k hk hM => ?_⟩
  · obtain ⟨p, hp, hc⟩ := hd.ok x ox hx
    refine ⟨p, hp, hc.other (hfr _ (fun ec => ?_))⟩
    rw [AHeap.get_set] at hx
    split at hx
    · cases hx
    · rename_i ne
      exact ne (hr.inj x b _ _ p pl hx hg hp hm ec)
  · obtain ⟨x, ox, p, hx, h1, h2, h3⟩ := hM
    rw [AHeap.get_set] at hx
    split at hx
    · cases hx
    · exact ⟨x, ox, p, hx, h1, h2, h3⟩
theorem aus_sound {ρ : Ren} {pt it ty : TypeId} {p p' v : Value} {n : Int} {h h' : AHeap} {w : World} (he : aus P pt p n h = some (v, h')) (hr : Rel P ρ h w) (hx : VRel ρ p p') :
    ∃ v' w', (Builtin.unsafeString_ #[pt, it] ty #[p', .int .i64 n]).run P w = .ok v' w' ∧ Step P ρ h w ρ h' w' ∧ VRel ρ v v' := by
  unfold aus at he
  split at he
  · obtain ⟨hn, he⟩ := condm he
    simp only [Option.some.injEq, Prod.mk.injEq] at he
    obtain ⟨rfl, rfl⟩ := he
    obtain rfl := of_decide_eq_true hn
    cases hx
    exact ⟨_, w, Lib.run_unsafeString_none w _ _ _ _, .refl hr, .string _⟩
  · rename_i b off
    cases hx with
    | ptr hb hm =>
      rename_i pl
      cases hn : decide (n = 0) with
      | true =>
        rw [hn] at he
        simp only [cond_true, Option.some.injEq, Prod.mk.injEq] at he
        obtain ⟨rfl, rfl⟩ := he
        obtain rfl := of_decide_eq_true hn
        exact ⟨_, w, Lib.run_unsafeString_none w _ _ _ _, .refl hr, .string _⟩
      | false =>
        rw [hn] at he
        simp only [cond_false] at he
        split at he
        case h_2 => cases he
        rename_i c e hg
        split at he
        case h_2 => cases he
        rename_i l hl
        obtain ⟨hc, he⟩ := condm he
        simp only [Option.some.injEq, Prod.mk.injEq] at he
        obtain ⟨rfl, rfl⟩ := he
        simp only [Bool.and_eq_true, decide_eq_true_eq, Nat.blt_eq] at hc
        obtain ⟨⟨⟨⟨⟨k1, k2⟩, k3⟩, k4⟩, k5⟩, k6⟩ := hc
        have k1 := Nat.le_of_ble_eq_true k1
        have k3 := Nat.eq_of_beq_eq_true k3
        have k6 := Nat.le_of_ble_eq_true k6
        subst k4
        obtain ⟨q1, q2⟩ := byteList_at hl
        simp only [Int.toNat_natCast, List.length_take, List.length_drop] at q1
        obtain ⟨cs, fz, h1, h2, h3, h4, h5, h6⟩ := hr.place hg hm
        obtain ⟨f1, f2, f3, f4⟩ := freeze_parts w ⟨pl.c, pl.base + off, none⟩ l.length
        refine ⟨_, _, run_unsafeString_at (ptrTo_eq k2) k3 (shape_of_cells h1) (by intro el; subst el; simp at k5) (by omega) k6 (fun j x hx => ?_), .leave hr hg hm k1 f1 f2 f3 f4 (fun k hk => heap_freeze_ne _ _ _ _ hk), .string _⟩
        have hq := q2 j x hx
        simp only [Int.toNat_natCast] at hq
        have hjl : j < l.length := by
          rcases Nat.lt_or_ge j l.length with h7 | h7
          · exact h7
          · rw [List.getElem?_eq_none h7] at hx; cases hx
        rw [List.getElem?_take_of_lt hjl, List.getElem?_drop] at hq
        obtain ⟨y, hy, hxy⟩ := h6 _ _ hq
        cases hxy
        have ea : (⟨pl.c, pl.base + off, none⟩ : Addr).add j = ⟨pl.c, pl.base + off + j, none⟩ := addr_add _ _ _
        rw [ea]
        simp only [World.cell?, h1]
        rw [Nat.add_assoc]
        simpa using hy
  · cases he

/-! ### One address and itself; a capacity that is known -/
def aptr (P : Program) (op : BinOp) (t : TypeId) (a b : Value) : Option Value :=
  match P.underlying t, a, b with
  | some (.pointer te), .pointer (some ⟨b1, o1, none⟩), .pointer (some ⟨b2, o2, none⟩) => (match P.info? te with
    | some _ => cond (Nat.beq b1 b2 && Nat.beq o1 o2) (match op with
      | .eql => some (.bool true)
      | .neq => some (.bool false)
      | _ => none) none
    | none => none)
  | _, _, _ => none
def abin2 (P : Program) (op : BinOp) (t : TypeId) (x y : Operand) (a b : Value) : Option Value :=
  match abin P op t x y a b with
  | some v => some v
  | none => aptr P op t a b
theorem abin2_sound {ρ : Ren} {op : BinOp} {t : TypeId} {x y : Operand} {a b a' b' v : Value} (h : abin2 P op t x y a b = some v) (ha : VRel ρ a a') (hb : VRel ρ b b') (w : World) :
    ∃ v', (do eqGuard op t x y a' b'; binOp op t a' b' : Sem Value).run P w = .ok v' w ∧ VRel ρ v v' := by
  unfold abin2 at h
  split at h
  · rename_i u hu
    simp only [Option.some.injEq] at h
    subst h
    exact abin_sound hu ha hb w
  · unfold aptr at h
    split at h
    case h_2 => cases h
    rename_i te b1 o1 b2 o2 ht0 ht
    split at h
    case h_2 => cases h
    rename_i j hj
    obtain ⟨hc, hh⟩ := condm h
    clear h
    simp only [Bool.and_eq_true] at hc
    obtain rfl := Nat.eq_of_beq_eq_true hc.1
    obtain rfl := Nat.eq_of_beq_eq_true hc.2
    cases ha with
    | ptr h1 m1 =>
      rename_i pl
      cases hb with
      | ptr h2 m2 =>
        rename_i pl2
        rw [m1] at m2
        cases m2
        have hg : (eqGuard op t x y (.pointer (some ⟨pl.c, pl.base + o1, none⟩)) (.pointer (some ⟨pl.c, pl.base + o1, none⟩))).run P w = .ok () w := by cases op <;> simp [eqGuard]
        split at hh
        · simp only [Option.some.injEq] at hh
          subst hh
          exact ⟨.bool true, by simp only [Sem.run_bind, hg, Result.andThen_ok, run_eql_ptr_same w _ ht0 hj], .bool true⟩
        · simp only [Option.some.injEq] at hh
          subst hh
          exact ⟨.bool false, by simp only [Sem.run_bind, hg, Result.andThen_ok, Lib.run_neq_ptr_same w _ ht0 hj], .bool false⟩
        · cases hh
def acap (P : Program) (t : TypeId) (x : Value) : Option Value :=
  match srun P (underlying t), x with
  | some (.slice _), .slice none _ _ => some (goInt 0)
  | some (.slice _), .slice (some ⟨_, _, none⟩) _ c => cond (Nat.ble 2 c) (some (goInt (c - 2 : Nat))) none
  | _, _ => none
theorem acap_sound {ρ : Ren} {t : TypeId} {x x' v : Value} (he : acap P t x = some v) (hx : VRel ρ x x') (r : TypeId) (w : World) : (Builtin.cap_ #[t] r #[x']).run P w = .ok v w ∧ VRel ρ v v := by
  unfold acap at he
  split at he
  · rename_i hu
    simp only [Option.some.injEq] at he
    subst he
    refine ⟨?_, .int _ _⟩
    cases hx
    simp [Builtin.cap_, srun_sound hu]
  · rename_i b off n c hu
    obtain ⟨hc, he⟩ := condm he
    simp only [Option.some.injEq] at he
    subst he
    have hc := Nat.le_of_ble_eq_true hc
    refine ⟨?_, .int _ _⟩
    cases hx with
    | slice hb hm hl hcap =>
      rename_i cap pl
      have := (hcap (by omega)).2 (c - 2) (by omega)
      subst this
      simp [Builtin.cap_, srun_sound hu]
    | sliceOut hb h2 =>
      have : c - 2 = 0 := by omega
      rw [this]
      simp [Builtin.cap_, srun_sound hu]
  · cases he
end
end Go.Ai
