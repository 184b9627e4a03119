/-
  RTL: a program as the caller's memory holds it, read.
-/
import Derived.Test.YtikgepmgdhkngaaGreatDoorRgDa
import Derived.Test.YtikgepmgdhkngaaGreatDoorAiD
namespace Go.Rtl
open Go.Ai Go.Proofs
set_option linter.unusedVariables false
set_option linter.unusedSimpArgs false
set_option maxRecDepth 100000
theorem absH_lt (w : World) (b : Nat) (o : AObj) (h : (absH Tryz.prog w).get b = some o) : b < (absH Tryz.prog w).next := (rel_absH Tryz.prog w).dom b o h
theorem c2 : Tryz.prog.cellsOf 2 = 1 := by kernel_rfl
theorem c3 : Tryz.prog.cellsOf 3 = 1 := by kernel_rfl
theorem c9 : Tryz.prog.cellsOf 9 = 1 := by kernel_rfl
theorem c22 : Tryz.prog.cellsOf 22 = 1 := by kernel_rfl
theorem c23 : Tryz.prog.cellsOf 23 = 1 := by kernel_rfl
theorem c25 : Tryz.prog.cellsOf 25 = 3 := by kernel_rfl
theorem c43 : Tryz.prog.cellsOf 46 = 1 := by kernel_rfl
theorem c45 : Tryz.prog.cellsOf 48 = 6 := by kernel_rfl
theorem c50 : Tryz.prog.cellsOf 43 = 9 := by kernel_rfl
theorem y3 : Tryz.prog.bytesOf 3 = 8 := by kernel_rfl
theorem y45 : Tryz.prog.bytesOf 48 = 88 := by kernel_rfl
theorem y50 : Tryz.prog.bytesOf 43 = 88 := by kernel_rfl
theorem reach_eq : reachBytes = 140737488351232 := rfl
/-- One of each. -/
theorem list_of {α : Type} {n : Nat} {Q : Nat → α → Prop} (h : ∀ i, i < n → ∃ z, Q i z) : ∃ l : List α, l.length = n ∧ ∀ i z, l[i]? = some z → Q i z := by
  obtain ⟨f, hf⟩ := Classical.axiomOfChoice (r := fun (i : Fin n) z => Q i.1 z) fun i => h i.1 i.2
  refine ⟨List.ofFn f, by simp, fun i z hz => ?_⟩
  rw [List.getElem?_ofFn] at hz
  split at hz
  · rename_i hi
    simp only [Option.some.injEq] at hz
    subst hz
    exact hf ⟨i, hi⟩
  · cases hz
theorem one_take {c : List Value} {n : Nat} {v : Value} (h : (c.drop n).take 1 = [v]) : c[n]? = some v := by
  have := congrArg (fun l => l[0]?) h
  simpa [List.getElem?_take, List.getElem?_drop] using this
section
variable {h : AHeap} (hw : ∀ b o, h.get b = some o → b < h.next)
include hw
theorem rd_ints {a : Value} (r : RWD Tryz.prog h 22 [a]) : ∃ zs, SliceI h a zs ∧ zs.length ≤ 17592186043904 := by
  rcases rw_slice Tryz.underlying22 c3 y3 (by decide) r with e | ⟨b, off, len, e, hl, hc⟩
  · simp only [List.cons.injEq, and_true] at e
    exact ⟨[], .inl ⟨e, rfl⟩, Nat.zero_le _⟩
  · simp only [List.cons.injEq, and_true] at e
    subst e
    rw [reach_eq] at hl
    by_cases h0 : 0 < len
    · obtain ⟨c, t, hg, hat⟩ := hc h0
      obtain ⟨l, e1, e2⟩ := list_of (n := len) (Q := fun i (z : Int) => c[off + i]? = some (.int .i64 z)) fun i hi => by
        obtain ⟨h1, h2⟩ := hat i hi
        obtain ⟨z, hz, _⟩ := rw_int Tryz.underlying3 h2
        rw [Nat.mul_one] at hz
        exact ⟨z, one_take hz⟩
      refine ⟨l, .inr ⟨b, off, 0, by rw [e1], fun _ => ⟨c, t, hw b _ hg, hg, e2⟩⟩, by omega⟩
    · have : len = 0 := by omega
      subst this
      exact ⟨[], .inr ⟨b, off, 0, rfl, fun q => absurd rfl q⟩, Nat.zero_le _⟩
theorem rd_ins {cs : List Value} (r : RWD Tryz.prog h 43 cs) : ∃ x : Ins, cs = x.row ∧ InsOk h x := by
  obtain ⟨hl, hf⟩ := rw_struct Tryz.underlying43 r
  rw [c50] at hl
  match cs, hl with
  | [a0, a1, a2, a3, a4, a5, a6, a7, a8], _ =>
    have f0 : RWD Tryz.prog h 3 (([a0, a1, a2, a3, a4, a5, a6, a7, a8].drop 0).take (Tryz.prog.cellsOf 3)) := hf _ (Array.mem_of_getElem? (i := 0) rfl)
    have f1 : RWD Tryz.prog h 3 (([a0, a1, a2, a3, a4, a5, a6, a7, a8].drop 1).take (Tryz.prog.cellsOf 3)) := hf _ (Array.mem_of_getElem? (i := 1) rfl)
    have f2 : RWD Tryz.prog h 3 (([a0, a1, a2, a3, a4, a5, a6, a7, a8].drop 2).take (Tryz.prog.cellsOf 3)) := hf _ (Array.mem_of_getElem? (i := 2) rfl)
    have f3 : RWD Tryz.prog h 3 (([a0, a1, a2, a3, a4, a5, a6, a7, a8].drop 3).take (Tryz.prog.cellsOf 3)) := hf _ (Array.mem_of_getElem? (i := 3) rfl)
    have f4 : RWD Tryz.prog h 3 (([a0, a1, a2, a3, a4, a5, a6, a7, a8].drop 4).take (Tryz.prog.cellsOf 3)) := hf _ (Array.mem_of_getElem? (i := 4) rfl)
    have f5 : RWD Tryz.prog h 2 (([a0, a1, a2, a3, a4, a5, a6, a7, a8].drop 5).take (Tryz.prog.cellsOf 2)) := hf _ (Array.mem_of_getElem? (i := 5) rfl)
    have f6 : RWD Tryz.prog h 22 (([a0, a1, a2, a3, a4, a5, a6, a7, a8].drop 6).take (Tryz.prog.cellsOf 22)) := hf _ (Array.mem_of_getElem? (i := 6) rfl)
    have f7 : RWD Tryz.prog h 3 (([a0, a1, a2, a3, a4, a5, a6, a7, a8].drop 7).take (Tryz.prog.cellsOf 3)) := hf _ (Array.mem_of_getElem? (i := 7) rfl)
    have f8 : RWD Tryz.prog h 3 (([a0, a1, a2, a3, a4, a5, a6, a7, a8].drop 8).take (Tryz.prog.cellsOf 3)) := hf _ (Array.mem_of_getElem? (i := 8) rfl)
    simp only [c2, c3, c22, List.drop_zero, List.drop_succ_cons, List.take_succ_cons, List.take_zero] at f0 f1 f2 f3 f4 f5 f6 f7 f8
    obtain ⟨z0, e0, _⟩ := rw_int Tryz.underlying3 f0
    obtain ⟨z1, e1, _⟩ := rw_int Tryz.underlying3 f1
    obtain ⟨z2, e2, _⟩ := rw_int Tryz.underlying3 f2
    obtain ⟨z3, e3, _⟩ := rw_int Tryz.underlying3 f3
    obtain ⟨z4, e4, _⟩ := rw_int Tryz.underlying3 f4
    obtain ⟨z5, e5, _⟩ := rw_int Tryz.underlying2 f5
    obtain ⟨z7, e7, _⟩ := rw_int Tryz.underlying3 f7
    obtain ⟨z8, e8, _⟩ := rw_int Tryz.underlying3 f8
    obtain ⟨l, S, hl⟩ := rd_ints hw f6
    simp only [List.cons.injEq, and_true] at e0 e1 e2 e3 e4 e5 e7 e8
    subst e0 e1 e2 e3 e4 e5 e7 e8
    exact ⟨⟨z0, z1, z2, z3, z4, z5, a6, l, z7, z8⟩, rfl, S, hl⟩
/-- Rows. -/
theorem rd_rows {α : Type} {row : α → List Value} {ok : α → Prop} {ts te : TypeId} {n bz : Nat} (hu : Tryz.prog.underlying ts = some (.slice te)) (hs : Tryz.prog.cellsOf te = n) (hb : Tryz.prog.bytesOf te = bz) (h0n : 0 < n) (h8 : 8 ≤ bz)
    (hrow : ∀ cs, RWD Tryz.prog h te cs → ∃ x, cs = row x ∧ ok x) {a : Value} (r : RWD Tryz.prog h ts [a]) : ∃ l : List α, SliceR h a n (l.map row) ∧ l.length * bz ≤ 140737488351232 ∧ ∀ x, x ∈ l → ok x := by
  rcases rw_slice hu hs hb h0n r with e | ⟨b, off, len, e, hl, hc⟩
  · simp only [List.cons.injEq, and_true] at e
    exact ⟨[], .inl ⟨e, rfl⟩, by simp, fun x hx => by cases hx⟩
  · simp only [List.cons.injEq, and_true] at e
    subst e
    rw [reach_eq] at hl
    by_cases h0 : 0 < len
    · obtain ⟨c, t, hg, hat⟩ := hc h0
      obtain ⟨l, e1, e2⟩ := list_of (n := len) (Q := fun i x => off + i * n + n ≤ c.length ∧ (c.drop (off + i * n)).take n = row x ∧ ok x) fun i hi => by
        obtain ⟨h1, h2⟩ := hat i hi
        obtain ⟨x, hx, hok⟩ := hrow _ h2
        exact ⟨x, h1, hx, hok⟩
      refine ⟨l, .inr ⟨b, off, 0, by rw [List.length_map, e1], fun _ => ⟨c, t, hw b _ hg, hg, fun i r hr => ?_⟩⟩, ?_, fun x hx => ?_⟩
      · rw [List.getElem?_map] at hr
        cases hx : l[i]? with
        | none => rw [hx] at hr; cases hr
        | some x =>
          rw [hx] at hr
          simp only [Option.map_some, Option.some.injEq] at hr
          subst hr
          exact ⟨(e2 i x hx).1, (e2 i x hx).2.1⟩
      · rw [e1]; exact hl
      · obtain ⟨k, hk, rfl⟩ := List.getElem_of_mem hx
        exact (e2 k _ (List.getElem?_eq_getElem hk)).2.2
    · have : len = 0 := by omega
      subst this
      exact ⟨[], .inr ⟨b, off, 0, rfl, fun q => absurd rfl q⟩, by simp, fun x hx => by cases hx⟩
theorem rd_fn {cs : List Value} (r : RWD Tryz.prog h 48 cs) : ∃ f : Fn, cs = f.row ∧ FnOk h f := by
  obtain ⟨hl, hf⟩ := rw_struct Tryz.underlying48 r
  rw [c45] at hl
  match cs, hl with
  | [a0, a1, a2, a3, a4, a5], _ =>
    have f0 : RWD Tryz.prog h 9 (([a0, a1, a2, a3, a4, a5].drop 0).take (Tryz.prog.cellsOf 9)) := hf _ (Array.mem_of_getElem? (i := 0) rfl)
    have f1 : RWD Tryz.prog h 22 (([a0, a1, a2, a3, a4, a5].drop 1).take (Tryz.prog.cellsOf 22)) := hf _ (Array.mem_of_getElem? (i := 1) rfl)
    have f2 : RWD Tryz.prog h 3 (([a0, a1, a2, a3, a4, a5].drop 2).take (Tryz.prog.cellsOf 3)) := hf _ (Array.mem_of_getElem? (i := 2) rfl)
    have f3 : RWD Tryz.prog h 3 (([a0, a1, a2, a3, a4, a5].drop 3).take (Tryz.prog.cellsOf 3)) := hf _ (Array.mem_of_getElem? (i := 3) rfl)
    have f4 : RWD Tryz.prog h 3 (([a0, a1, a2, a3, a4, a5].drop 4).take (Tryz.prog.cellsOf 3)) := hf _ (Array.mem_of_getElem? (i := 4) rfl)
    have f5 : RWD Tryz.prog h 46 (([a0, a1, a2, a3, a4, a5].drop 5).take (Tryz.prog.cellsOf 46)) := hf _ (Array.mem_of_getElem? (i := 5) rfl)
    simp only [c3, c9, c22, c43, List.drop_zero, List.drop_succ_cons, List.take_succ_cons, List.take_zero] at f0 f1 f2 f3 f4 f5
    obtain ⟨s, e0, _⟩ := rw_string Tryz.underlying9 f0
    obtain ⟨z2, e2, _⟩ := rw_int Tryz.underlying3 f2
    obtain ⟨z3, e3, _⟩ := rw_int Tryz.underlying3 f3
    obtain ⟨z4, e4, _⟩ := rw_int Tryz.underlying3 f4
    obtain ⟨l, S, hl⟩ := rd_ints hw f1
    obtain ⟨code, C, hc, hi⟩ := rd_rows hw Tryz.underlying46 c50 y50 (by decide) (by decide) (fun cs r => rd_ins hw r) f5
    simp only [List.cons.injEq, and_true] at e0 e2 e3 e4
    subst e0 e2 e3 e4
    exact ⟨⟨s, a1, l, z2, z3, z4, a5, code⟩, rfl, S, hl, C, hc, hi⟩
theorem rd_pg {cs : List Value} (r : RWD Tryz.prog h 25 cs) : ∃ p : Pg, cs = p.row ∧ PgOk h p := by
  obtain ⟨hl, hf⟩ := rw_struct Tryz.underlying25 r
  rw [c25] at hl
  match cs, hl with
  | [a0, a1, a2], _ =>
    have f0 : RWD Tryz.prog h 22 (([a0, a1, a2].drop 0).take (Tryz.prog.cellsOf 22)) := hf _ (Array.mem_of_getElem? (i := 0) rfl)
    have f1 : RWD Tryz.prog h 23 (([a0, a1, a2].drop 1).take (Tryz.prog.cellsOf 23)) := hf _ (Array.mem_of_getElem? (i := 1) rfl)
    have f2 : RWD Tryz.prog h 3 (([a0, a1, a2].drop 2).take (Tryz.prog.cellsOf 3)) := hf _ (Array.mem_of_getElem? (i := 2) rfl)
    simp only [c3, c22, c23, List.drop_zero, List.drop_succ_cons, List.take_succ_cons, List.take_zero] at f0 f1 f2
    obtain ⟨l, S, hl⟩ := rd_ints hw f0
    obtain ⟨fs, C, hc, hi⟩ := rd_rows hw Tryz.underlying23 c45 y45 (by decide) (by decide) (fun cs r => rd_fn hw r) f1
    obtain ⟨z2, e2, _⟩ := rw_int Tryz.underlying3 f2
    simp only [List.cons.injEq, and_true] at e2
    subst e2
    exact ⟨⟨a0, l, a1, fs, z2⟩, rfl, S, hl, C, hc, hi⟩
end
end Go.Rtl
