/-
  THE ORDER: the greatest ones first.
-/
import Derived.Test.YtogpghbigjnpnaaDoorFwB
import Derived.Test.YtogpghbigjnpnaaDoorFwC
namespace Go.Fw
open Go.Ai Go.Proofs Go.Fl
open Go.Sort (PermIn SortedIn grow)
set_option linter.unusedVariables false
set_option linter.unusedSimpArgs false
set_option maxRecDepth 10000
def ordC (ord : List Nat) : List Value := ord.map fun i => .int .i64 (i : Nat)
theorem order_of {N : Nat} [Inhabited (Fin N)] {key : Nat → Int} {d d' : Array (Fin N)} (hd : ∀ x : Fin N, x ∈ d.toList) (hs : d.size = N) (p : PermIn 0 d.size d d') (q : SortedIn (ltOf (cfK key)) 0 d.size d') : Order N key (d'.toList.map Fin.val) ∧ (d'.toList.map Fin.val).length = N := by
  obtain ⟨p1, p2, p3⟩ := p
  have e1 : d.extract 0 d.size = d := by simp
  have e2 : d'.extract 0 d.size = d' := by rw [← p1]; simp
  rw [e1, e2] at p3
  refine ⟨⟨fun j a h => ?_, fun i hi => ?_, fun j k a b hjk hj hk => ?_⟩, by rw [List.length_map, Array.length_toList, p1, hs]⟩
  · have := List.mem_of_getElem? h
    simp only [List.mem_map] at this
    obtain ⟨x, _, rfl⟩ := this
    exact x.isLt
  · have : (⟨i, hi⟩ : Fin N) ∈ d'.toList := p3.mem_iff.2 (hd _)
    obtain ⟨j, hj, e⟩ := List.getElem_of_mem this
    refine ⟨j, ?_⟩
    rw [List.getElem?_map, List.getElem?_eq_getElem hj, e]; rfl
  · rw [List.getElem?_map, Array.getElem?_toList] at hj hk
    have hk2 : k < d'.size := by
      rcases Nat.lt_or_ge k d'.size with q | q
      · exact q
      · rw [Array.getElem?_eq_none q] at hk; cases hk
    have hj2 : j < d'.size := by omega
    rw [Array.getElem?_eq_getElem hk2] at hk
    rw [Array.getElem?_eq_getElem hj2] at hj
    simp only [Option.map_some, Option.some.injEq] at hj hk
    subst hj hk
    have := (ltK' key).1 (q j k (Nat.zero_le _) hjk (by omega))
    rw [getElem!_pos d' j hj2, getElem!_pos d' k hk2] at this
    exact this
theorem sub_wrap {a b : Int} (h1 : 0 ≤ a) (h2 : a ≤ 1000000) (h3 : 0 ≤ b) (h4 : b ≤ 1000000) : IntKind.i64.wrap (a - b) = a - b := by
  simp only [IntKind.wrap, IntKind.bits, IntKind.signed]; simp; omega
section
variable {h : AHeap} {zs : List Int} {sv : Value} {b6 ob N : Nat}
theorem cell_at {ρ : Go.Ai.Ren} {w : World} (hr : Rel Tryd.prog ρ h w) {b : Nat} {c : List Value} {t : TypeId} {pl : Go.Ai.Place} (hg : h.get b = some (.cells c t)) (hm : ρ.m b = some pl) {i : Nat} {x : Value} (hx : c[i]? = some x) : ∃ y, w.cell? ⟨pl.c, pl.base + i, none⟩ = some y ∧ VRel ρ x y := (hr.place hg hm).cell hx
theorem cell_same {w W : World} {c o : Nat} {v : Value} (h1 : w.cell? ⟨c, o, none⟩ = some v) (h2 : W.heap[c]? = w.heap[c]?) : W.cell? ⟨c, o, none⟩ = some v := by
  unfold World.cell? at *
  rw [h2]; exact h1
theorem sort_pos (S : SliceI h sv zs) (hN : zs.length = N) (h0 : 0 < N) (h1 : N ≤ 2000) (hz : ∀ z, z ∈ zs → 0 ≤ z ∧ z ≤ 1000000) (g6 : h.get b6 = some (.cells [sv] 23)) (go : h.get ob = some (.cells (ordC (List.range N)) 3)) (hro : h.ro ≤ ob) (n6 : ¬ b6 = ob) (ns : ∀ b off n c, sv = .slice (some ⟨b, off, none⟩) n c → ¬ b = ob) :
    DC Tryd.prog 14 [.slice (some ⟨ob, 0, none⟩) N (N + 2), .func (.func 15) #[] #[.pointer (some ⟨b6, 0, none⟩)]] h (fun v h' => v = .tuple #[] ∧ ∃ ord : List Nat, Order N (at0 zs) ord ∧ ord.length = N ∧ h' = h.set ob (some (.cells (ordC ord) 3))) := by
  haveI : Inhabited (Fin N) := ⟨⟨0, h0⟩⟩
  have hsz : (Array.ofFn (fun i : Fin N => i)).size = N := Array.size_ofFn
  have := sort_dc (P := Tryd.prog) Tryd.sortInt (n := N) (at0 zs) (g := 15) (b := ob) (c := N + 2) (cv := .pointer (some ⟨b6, 0, none⟩)) (Array.ofFn (fun i : Fin N => i)) (cs := ordC (List.range N)) (t := 3) (h := h)
    (enters_of Tryd.func15 (by kernel_rfl) rfl) go hro (by omega) (by omega) (by rw [hsz]; simp [ordC]) (fun i hi => ?_) (fun ρ w W z x y hr hv hf => ?_)
  · rw [hsz] at this
    refine DC.mono this ?_
    rintro v h' ⟨rfl, d', p, q, rfl⟩
    obtain ⟨o1, o2⟩ := order_of (d := Array.ofFn (fun i : Fin N => i)) (key := at0 zs) (fun x => by simp) hsz (by rw [hsz]; exact p) (by rw [hsz]; exact q)
    refine ⟨rfl, _, o1, o2, ?_⟩
    have e1 : (ordC (List.range N)).drop N = [] := by simp [ordC]
    have e2 : d'.toList.map encK = ordC (d'.toList.map Fin.val) := by
      unfold ordC
      rw [List.map_map]; rfl
    rw [e1, e2, List.append_nil]
  · rw [hsz] at hi
    unfold ordC
    rw [List.getElem?_map, List.getElem?_range hi]
    simp [encK]
  · obtain ⟨pl6, m6, _⟩ := hr.cells b6 _ _ g6
    obtain ⟨plo, mo, _⟩ := hr.cells ob _ _ go
    have c6 : ¬ pl6.c = plo.c := fun e => n6 (hr.inj b6 ob _ _ pl6 plo g6 go m6 mo e)
    obtain ⟨y6, hy6, vy6⟩ := cell_at hr g6 m6 (i := 0) rfl
    rcases S with ⟨rfl, rfl⟩ | ⟨sb, so, cp, rfl, hc⟩
    · simp at hN; omega
    obtain ⟨c, t, hb, hg, hat⟩ := hc (by intro e; subst e; simp at hN; omega)
    obtain ⟨pls, ms, oks⟩ := hr.cells sb _ _ hg
    have cs : ¬ pls.c = plo.c := fun e => ns _ _ _ _ rfl (hr.inj sb ob _ _ pls plo hg go ms mo e)
    have lt6 : pl6.c < w.heap.size := (hr.place g6 m6).lt
    have lts : pls.c < w.heap.size := oks.lt
    have f6 : W.heap[pl6.c]? = w.heap[pl6.c]? := hf _ lt6 fun pl q e => by rw [mo] at q; cases q; exact c6 e
    have fs : W.heap[pls.c]? = w.heap[pls.c]? := hf _ lts fun pl q e => by rw [mo] at q; cases q; exact cs e
    have val : ∀ x : Fin N, W.cell? ⟨pls.c, pls.base + (so + x.val), none⟩ = some (.int .i64 (at0 zs x.val)) := fun x => by
      have hx : zs[x.val]? = some (at0 zs x.val) := at0_get (by omega)
      obtain ⟨u, hu, vu⟩ := cell_at hr hg ms (hat x.val _ hx)
      cases vu
      exact cell_same hu fs
    have bnd : ∀ x : Fin N, 0 ≤ at0 zs x.val ∧ at0 zs x.val ≤ 1000000 := fun x => by
      have hx : zs[x.val]? = some (at0 zs x.val) := at0_get (by omega)
      exact hz _ (List.mem_of_getElem? hx)
    cases hv with
    | ptr hb6 hm6 =>
      rw [m6] at hm6
      cases hm6
      generalize hNz : zs.length = Z at vy6
      cases vy6 with
      | sliceOut => omega
      | slice hbs hms hle hcap =>
        rw [ms] at hms
        cases hms
        have vx := val x
        have vy := val y
        refine (cmp_w (x.val : Nat) (y.val : Nat) (at0 zs x.val) (at0 zs y.val) pl6.c (pl6.base + 0) pls.c (pls.base + so) Z _ W (by omega) (by omega) (by omega) (by omega) (by omega) (sub_wrap (bnd y).1 (bnd y).2 (bnd x).1 (bnd x).2) (cell_same hy6 f6) ?_ ?_)
        · rw [Int.toNat_natCast, Nat.add_assoc]; exact vx
        · rw [Int.toNat_natCast, Nat.add_assoc]; exact vy
end
end Go.Fw
