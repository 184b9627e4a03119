/-
  SLICES: of the caller's, and of one's own as parts of a heap.
-/
import Derived.Test.YtogpghbigjnpnaaDoorAiSL
import Derived.Test.YtogpghbigjnpnaaDoorAiD
namespace Go.Fl
open Go.Ai
set_option linter.unusedVariables false
set_option linter.unusedSimpArgs false
set_option maxRecDepth 10000
theorem cap_ne (c n : Nat) : capafter c n ≠ 0 := by
  unfold capafter
  split
  · cases Nat.ble n _ <;> simp
  · simp
theorem get_setMany (vs : List Value) : ∀ (cs : List Value) (o i : Nat), o + vs.length ≤ cs.length → (setMany cs o vs)[i]? = if o ≤ i ∧ i < o + vs.length then vs[i - o]? else cs[i]? := by
  induction vs with
  | nil => intro cs o i _; rw [if_neg (by simp)]; rfl
  | cons v vs ih =>
    intro cs o i h
    simp only [List.length_cons] at h ⊢
    unfold setMany
    rw [ih (cs.set o v) (o + 1) i (by rw [List.length_set]; omega)]
    by_cases h1 : o + 1 ≤ i ∧ i < o + 1 + vs.length
    · rw [if_pos h1, if_pos (by omega), show i - o = i - (o + 1) + 1 by omega, List.getElem?_cons_succ]
    · rw [if_neg h1]
      by_cases h2 : i = o
      · subst h2; rw [if_pos (by omega), List.getElem?_set_self (by omega)]; simp
      · rw [if_neg (by omega), List.getElem?_set_ne (by omega)]
/-- What was there is as it was. -/
structure Old (h h' : AHeap) : Prop where
  next : h.next ≤ h'.next
  ro : h'.ro = h.ro
  get : ∀ b, b < h.next → h'.get b = h.get b
theorem Old.refl (h : AHeap) : Old h h := ⟨Nat.le_refl _, rfl, fun _ _ => rfl⟩
theorem Old.trans {a b c : AHeap} (x : Old a b) (y : Old b c) : Old a c := ⟨Nat.le_trans x.next y.next, y.ro.trans x.ro, fun i hi => (y.get i (Nat.lt_of_lt_of_le hi x.next)).trans (x.get i hi)⟩
theorem Old.push (h : AHeap) (o : AObj) : Old h (h.push o) := ⟨Nat.le_succ _, rfl, fun b hb => get_push_lt hb⟩
theorem Old.set {h h' : AHeap} (x : Old h h') {b : Nat} (hb : h.next ≤ b) (o : Option AObj) : Old h (h'.set b o) := ⟨x.next, x.ro, fun c hc => (get_set_ne (by omega)).trans (x.get c hc)⟩
/-- A slice of numbers. -/
def SliceI (h : AHeap) (sv : Value) (zs : List Int) : Prop := (sv = .slice none 0 0 ∧ zs = []) ∨ ∃ b off cp, sv = .slice (some ⟨b, off, none⟩) zs.length cp ∧ (zs ≠ [] → ∃ c t, b < h.next ∧ h.get b = some (.cells c t) ∧ ∀ (i : Nat) z, zs[i]? = some z → c[off + i]? = some (.int .i64 z))
section
variable {h h' : AHeap} {sv : Value} {zs : List Int}
theorem SliceI.nob (S : SliceI h sv zs) : isBot sv = false := by
  rcases S with ⟨rfl, _⟩ | ⟨b, off, cp, rfl, _⟩ <;> rfl
theorem SliceI.cok (S : SliceI h sv zs) : cellOk sv = true := by
  rcases S with ⟨rfl, _⟩ | ⟨b, off, cp, rfl, _⟩ <;> rfl
theorem SliceI.old (S : SliceI h sv zs) (e : Old h h') : SliceI h' sv zs := by
  rcases S with a | ⟨b, off, cp, rfl, hc⟩
  · exact .inl a
  · refine .inr ⟨b, off, cp, rfl, fun hz => ?_⟩
    obtain ⟨c, t, hb, hg, hat⟩ := hc hz
    exact ⟨c, t, Nat.lt_of_lt_of_le hb e.next, by rw [e.get b hb]; exact hg, hat⟩
theorem SliceI.lock (S : SliceI h sv zs) : SliceI h.lock sv zs := by
  rcases S with a | ⟨b, off, cp, rfl, hc⟩
  · exact .inl a
  · refine .inr ⟨b, off, cp, rfl, fun hz => ?_⟩
    obtain ⟨c, t, hb, hg, hat⟩ := hc hz
    exact ⟨c, t, hb, by rw [get_lock]; exact hg, hat⟩
end
/-- A slice of rows, each of n cells. -/
def SliceR (h : AHeap) (sv : Value) (n : Nat) (rows : List (List Value)) : Prop := (sv = .slice none 0 0 ∧ rows = []) ∨ ∃ b off cp, sv = .slice (some ⟨b, off, none⟩) rows.length cp ∧
  (rows ≠ [] → ∃ c t, b < h.next ∧ h.get b = some (.cells c t) ∧ ∀ (i : Nat) r, rows[i]? = some r → off + i * n + n ≤ c.length ∧ (c.drop (off + i * n)).take n = r)
section
variable {h h' : AHeap} {sv : Value} {n : Nat} {rows : List (List Value)}
theorem SliceR.nob (S : SliceR h sv n rows) : isBot sv = false := by
  rcases S with ⟨rfl, _⟩ | ⟨b, off, cp, rfl, _⟩ <;> rfl
theorem SliceR.cok (S : SliceR h sv n rows) : cellOk sv = true := by
  rcases S with ⟨rfl, _⟩ | ⟨b, off, cp, rfl, _⟩ <;> rfl
theorem SliceR.old (S : SliceR h sv n rows) (e : Old h h') : SliceR h' sv n rows := by
  rcases S with a | ⟨b, off, cp, rfl, hc⟩
  · exact .inl a
  · refine .inr ⟨b, off, cp, rfl, fun hz => ?_⟩
    obtain ⟨c, t, hb, hg, hat⟩ := hc hz
    exact ⟨c, t, Nat.lt_of_lt_of_le hb e.next, by rw [e.get b hb]; exact hg, hat⟩
theorem SliceR.lock (S : SliceR h sv n rows) : SliceR h.lock sv n rows := by
  rcases S with a | ⟨b, off, cp, rfl, hc⟩
  · exact .inl a
  · refine .inr ⟨b, off, cp, rfl, fun hz => ?_⟩
    obtain ⟨c, t, hb, hg, hat⟩ := hc hz
    exact ⟨c, t, hb, by rw [get_lock]; exact hg, hat⟩
/-- A row's place. -/
theorem SliceR.spot (S : SliceR h sv n rows) {i : Nat} {r : List Value} (hr : rows[i]? = some r) (hn : r.length = n) : ∃ b o c t, (∃ off cp, sv = .slice (some ⟨b, off, none⟩) rows.length cp ∧ o = off + i * n) ∧ i < rows.length ∧ b < h.next ∧ h.get b = some (.cells c t) ∧ o + n ≤ c.length ∧ (c.drop o).take n = r ∧ ∀ k, k < n → c[o + k]? = r[k]? := by
  rcases S with ⟨rfl, rfl⟩ | ⟨b, off, cp, rfl, hc⟩
  · cases hr
  · have hlt : i < rows.length := by
      rcases Nat.lt_or_ge i rows.length with a | a
      · exact a
      · rw [List.getElem?_eq_none a] at hr; cases hr
    obtain ⟨c, t, hb, hg, hat⟩ := hc (by intro e; subst e; cases hr)
    obtain ⟨h1, h2⟩ := hat i r hr
    refine ⟨b, off + i * n, c, t, ⟨off, cp, rfl, rfl⟩, hlt, hb, hg, h1, h2, fun k hk => ?_⟩
    · rw [← h2, List.getElem?_take_of_lt hk, List.getElem?_drop]
end
theorem get_some {α : Type} {l : List α} {k : Nat} (h : k < l.length) : ∃ x, l[k]? = some x ∧ x ∈ l := ⟨l[k], List.getElem?_eq_getElem h, List.getElem_mem h⟩
theorem flat_at {n : Nat} : ∀ {rows : List (List Value)}, (∀ r, r ∈ rows → r.length = n) → ∀ {i : Nat} {r : List Value} {k : Nat}, rows[i]? = some r → k < n → rows.flatten[i * n + k]? = r[k]?
  | [], _, i, r, k, hr, _ => by cases hr
  | r0 :: rows, hn, 0, r, k, hr, hk => by
    simp only [List.getElem?_cons_zero, Option.some.injEq] at hr
    subst hr
    rw [List.flatten_cons, List.getElem?_append_left (by rw [hn _ (by simp)]; omega)]
    simp
  | r0 :: rows, hn, i + 1, r, k, hr, hk => by
    have h0 := hn r0 (by simp)
    rw [List.flatten_cons, List.getElem?_append_right (by rw [h0, Nat.add_mul]; omega), h0, show (i + 1) * n + k - n = i * n + k by rw [Nat.add_mul]; omega]
    exact flat_at (fun r hr => hn r (by simp [hr])) (by simpa using hr) hk
theorem flat_len {n : Nat} : ∀ {rows : List (List Value)}, (∀ r, r ∈ rows → r.length = n) → rows.flatten.length = rows.length * n
  | [], _ => by simp
  | r0 :: rows, hn => by
    rw [List.flatten_cons, List.length_append, flat_len (fun r hr => hn r (by simp [hr])), hn r0 (by simp), List.length_cons, Nat.add_mul]; omega
theorem flat_row {n : Nat} {rows : List (List Value)} (hn : ∀ r, r ∈ rows → r.length = n) {i : Nat} {r : List Value} (hr : rows[i]? = some r) : i * n + n ≤ rows.flatten.length ∧ (rows.flatten.drop (i * n)).take n = r := by
  have hi : i < rows.length := by
    rcases Nat.lt_or_ge i rows.length with a | a
    · exact a
    · rw [List.getElem?_eq_none a] at hr; cases hr
  have hl : r.length = n := hn r (List.mem_of_getElem? hr)
  constructor
  · rw [flat_len hn]
    have := Nat.mul_le_mul_right n (Nat.succ_le_of_lt hi)
    rw [Nat.succ_mul] at this
    exact this
  · refine List.ext_getElem? fun k => ?_
    rw [List.getElem?_take, List.getElem?_drop]
    by_cases hk : k < n
    · rw [if_pos hk]; exact flat_at hn hr hk
    · rw [if_neg hk, List.getElem?_eq_none (by omega)]
/-- Rows, perhaps with more behind them. -/
def slc (ty : TypeId) (n : Nat) (sv : Value) (rows : List (List Value)) : HP := fun m =>
  (sv = .slice none 0 0 ∧ rows = [] ∧ ∀ x, m x = none) ∨ ∃ b c cs, sv = .slice (some ⟨b, 0, none⟩) rows.length c ∧ c ≠ 0 ∧ rows.length * n ≤ cs.length ∧ cs.take (rows.length * n) = rows.flatten ∧ pt b (.cells cs ty) m
section
variable {lo : Low} {h : AHeap} {L : List HP} {ty : TypeId} {n : Nat} {sv : Value} {rows : List (List Value)}
theorem slc_cases (s : Sat lo h (slc ty n sv rows :: L)) : (sv = .slice none 0 0 ∧ rows = [] ∧ Sat lo h L) ∨ ∃ b c cs, sv = .slice (some ⟨b, 0, none⟩) rows.length c ∧ c ≠ 0 ∧ rows.length * n ≤ cs.length ∧ cs.take (rows.length * n) = rows.flatten ∧ Sat lo h (pt b (.cells cs ty) :: L) := by
  obtain ⟨a, ha, d, w, s⟩ := s
  rcases ha with ⟨e1, e2, e3⟩ | ⟨b, c, cs, e1, e2, e3, e4, e5⟩
  · exact .inl ⟨e1, e2, by rw [Low.un_emp e3] at s; exact s⟩
  · exact .inr ⟨b, c, cs, e1, e2, e3, e4, a, e5, d, w, s⟩
theorem slc_nil (ty : TypeId) (n : Nat) (s : Sat lo h L) : Sat lo h (slc ty n (.slice none 0 0) [] :: L) := ⟨fun _ => none, .inl ⟨rfl, rfl, fun _ => rfl⟩, fun _ _ e => (by cases e), fun _ _ e => (by cases e), by rw [Low.un_emp fun _ => rfl]; exact s⟩
theorem slc_pt {b c : Nat} {cs : List Value} (hc : c ≠ 0) (hl : rows.length * n ≤ cs.length) (ht : cs.take (rows.length * n) = rows.flatten) (s : Sat lo h (pt b (.cells cs ty) :: L)) : Sat lo h (slc ty n (.slice (some ⟨b, 0, none⟩) rows.length c) rows :: L) := by
  obtain ⟨a, ha, d, w, s⟩ := s
  exact ⟨a, .inr ⟨b, c, cs, rfl, hc, hl, ht, ha⟩, d, w, s⟩
theorem slc_full {b c : Nat} {cs : List Value} (hc : c ≠ 0) (hn : ∀ r, r ∈ rows → r.length = n) (he : cs = rows.flatten) (s : Sat lo h (pt b (.cells cs ty) :: L)) : Sat lo h (slc ty n (.slice (some ⟨b, 0, none⟩) rows.length c) rows :: L) :=
  slc_pt hc (by rw [he, flat_len hn]; exact Nat.le_refl _) (by rw [he, List.take_of_length_le (by rw [flat_len hn]; exact Nat.le_refl _)]) s
theorem slc_shape (s : Sat lo h (slc ty n sv rows :: L)) : ∃ a c, sv = .slice a rows.length c := by
  rcases slc_cases s with ⟨rfl, rfl, _⟩ | ⟨b, c, cs, rfl, _⟩ <;> exact ⟨_, _, rfl⟩
theorem slc_nob (s : Sat lo h (slc ty n sv rows :: L)) : isBot sv = false := by obtain ⟨_, _, rfl⟩ := slc_shape s; rfl
theorem slc_cok (s : Sat lo h (slc ty n sv rows :: L)) : cellOk sv = true := by obtain ⟨_, _, rfl⟩ := slc_shape s; rfl
/-- It can be read. -/
theorem slc_read (s : Sat lo h (slc ty n sv rows :: L)) (hn : ∀ r, r ∈ rows → r.length = n) : SliceR h sv n rows := by
  rcases slc_cases s with ⟨e1, e2, _⟩ | ⟨b, c, cs, rfl, hc, hl, hf, s⟩
  · exact .inl ⟨e1, e2⟩
  · refine .inr ⟨b, 0, c, rfl, fun _ => ⟨cs, ty, s.lt, s.get, fun i r hr => ?_⟩⟩
    have hi : i < rows.length := by
      rcases Nat.lt_or_ge i rows.length with a | a
      · exact a
      · rw [List.getElem?_eq_none a] at hr; cases hr
    obtain ⟨f1, f2⟩ := flat_row hn hr
    have hm := Nat.mul_le_mul_right n (Nat.succ_le_of_lt hi)
    rw [Nat.succ_mul] at hm
    refine ⟨by omega, ?_⟩
    rw [← f2, ← hf, Nat.zero_add, List.drop_take, List.take_take]
    congr 1
    omega
/-- One row more. -/
theorem slc_app (s : Sat lo h (slc ty n sv rows :: L)) (hn : ∀ r, r ∈ rows → r.length = n) (row : List Value) (hr : row.length = n) (h0n : 0 < n) (bz : Nat) (hb : (rows.length + 1) * bz ≤ 2 ^ 47) :
    ∃ b' c' h', app2 h ty n bz 1 row sv = some (.slice (some ⟨b', 0, none⟩) (rows.length + 1) c', h') ∧ Sat lo h' (slc ty n (.slice (some ⟨b', 0, none⟩) (rows.length + 1) c') (rows ++ [row]) :: L) := by
  have hn2 : ∀ r, r ∈ rows ++ [row] → r.length = n := fun r q => by
    rcases List.mem_append.1 q with q | q
    · exact hn r q
    · simp only [List.mem_singleton] at q; subst q; exact hr
  have hlen : (rows ++ [row]).length = rows.length + 1 := by simp
  rcases slc_cases s with ⟨rfl, rfl, s'⟩ | ⟨b, c, cs, rfl, hc, hl, hf, s⟩
  · refine ⟨h.next, 1, h.push (.cells row ty), ?_, slc_full (cs := row) (rows := [] ++ [row]) (c := 1) (by decide) hn2 (by simp) (s'.push (.cells row ty))⟩
    simp only [app2]
    rw [if_neg (by decide), if_pos (by simp at hb; omega)]; rfl
  · have hroom : roomFor c (rows.length + 1) bz = true := by
      unfold roomFor
      cases Nat.beq c 2 <;> simp only [cond_true, cond_false, Nat.ble_eq] <;> omega
    refine ⟨h.next, capafter c (rows.length + 1), (h.set b none).push (.cells (((cs.drop 0).take (rows.length * n)) ++ row) ty), ?_, ?_⟩
    · simp only [app2, s.get]
      rw [if_neg (by decide), if_pos ⟨hc, trivial, s.wr, by omega, hroom, by simp⟩]
    · have q := slc_full (rows := rows ++ [row]) (c := capafter c (rows.length + 1)) (cap_ne _ _) hn2 (by rw [List.drop_zero, hf, List.flatten_append]; simp) ((s.forget none).push (.cells (((cs.drop 0).take (rows.length * n)) ++ row) ty))
      rw [hlen] at q
      exact q
theorem take_row {cs : List Value} {i : Nat} {row : List Value} (hi : i < rows.length) (hn : ∀ r, r ∈ rows → r.length = n) (hr : row.length = n) (hl : rows.length * n ≤ cs.length) (ht : cs.take (rows.length * n) = rows.flatten) :
    (setMany cs (i * n) row).take (rows.length * n) = (rows.set i row).flatten := by
  have hn2 : ∀ r, r ∈ rows.set i row → r.length = n := fun r q => by
    rcases List.mem_or_eq_of_mem_set q with q | rfl
    · exact hn r q
    · exact hr
  have hm : i * n + n ≤ cs.length := by
    have := Nat.mul_le_mul_right n (Nat.succ_le_of_lt hi)
    rw [Nat.succ_mul] at this; omega
  apply List.ext_getElem?
  intro j
  by_cases hj : j < rows.length * n
  · rw [List.getElem?_take_of_lt hj, get_setMany _ _ _ _ (by rw [hr]; exact hm), hr]
    have e0 := congrArg (fun l => l[j]?) ht
    simp only [List.getElem?_take_of_lt hj] at e0
    have h0 : 0 < n := by rcases Nat.eq_zero_or_pos n with q | q; · subst q; simp at hj
                          · exact q
    have hq : j / n < rows.length := Nat.div_lt_of_lt_mul (by rw [Nat.mul_comm]; exact hj)
    have hj3 : j / n * n + j % n = j := by rw [Nat.mul_comm]; exact Nat.div_add_mod j n
    have hmn : j % n < n := Nat.mod_lt _ h0
    have get : ∀ (m : List (List Value)), (∀ r, r ∈ m → r.length = n) → ∀ x, m[j / n]? = some x → m.flatten[j]? = x[j % n]? := fun m hm x hx => by
      have := flat_at hm hx hmn
      rwa [hj3] at this
    rw [e0, get _ hn _ (List.getElem?_eq_getElem hq)]
    by_cases e : i = j / n
    · rw [get _ hn2 row (by rw [e, List.getElem?_set_self hq]), if_pos (by rw [e]; omega), e]
      congr 1; omega
    · rw [get _ hn2 _ (by rw [List.getElem?_set_ne e, List.getElem?_eq_getElem hq]), if_neg]
      rintro ⟨a, b⟩
      apply e
      exact (Nat.div_eq_of_lt_le a (by rw [Nat.succ_mul]; exact b)).symm
  · rw [List.getElem?_eq_none (by simp; omega), List.getElem?_eq_none (by rw [flat_len hn2]; simp; omega)]
/-- A row is turned. -/
theorem slc_row (s : Sat lo h (slc ty n sv rows :: L)) (hn : ∀ r, r ∈ rows → r.length = n) {i : Nat} (hi : i < rows.length) :
    ∃ b c cs, sv = .slice (some ⟨b, 0, none⟩) rows.length c ∧ h.get b = some (.cells cs ty) ∧ h.ro ≤ b ∧ i * n + n ≤ cs.length ∧ ∀ row, row.length = n → Sat lo (h.set b (some (.cells (setMany cs (i * n) row) ty))) (slc ty n sv (rows.set i row) :: L) := by
  rcases slc_cases s with ⟨rfl, rfl, _⟩ | ⟨b, c, cs, rfl, hc, hl, hf, s⟩
  · cases hi
  · refine ⟨b, c, cs, rfl, s.get, s.wr, ?_, fun row hr => ?_⟩
    · have := Nat.mul_le_mul_right n (Nat.succ_le_of_lt hi)
      rw [Nat.succ_mul] at this; omega
    · have q := slc_pt (n := n) (rows := rows.set i row) (c := c) hc (by rw [List.length_set, length_setMany]; exact hl) (by rw [List.length_set]; exact take_row hi hn hr hl hf) (s.set (.cells (setMany cs (i * n) row) ty))
      rwa [List.length_set] at q
theorem slc_sto {b i : Nat} {cs row : List Value} {K : AHeap → Prop} (gb : h.get b = some (.cells cs ty)) (wb : h.ro ≤ b) (lb : i * n + n ≤ cs.length) (s3 : ∀ row, row.length = n → Sat lo (h.set b (some (.cells (setMany cs (i * n) row) ty))) (slc ty n sv (rows.set i row) :: L))
    (hr : row.length = n) (hc : row.all cellOk = true) (k : ∀ h', Sat lo h' (slc ty n sv (rows.set i row) :: L) → K h') : opt (sto h b (i * n) row) K := by
  rw [sto_of gb, if_pos ⟨by omega, wb, hc⟩]
  exact k _ (s3 row hr)
/-- A new slice of one row. -/
theorem slc_one (s : Sat lo h L) (row : List Value) (ty : TypeId) : Sat lo (h.push (.cells row ty)) (slc ty row.length (.slice (some ⟨h.next, 0, none⟩) 1 3) [row] :: L) :=
  slc_full (rows := [row]) (c := 3) (by decide) (by simp) (by simp) (s.push (.cells row ty))
theorem row_of {α : Type} {f : α → List Value} {n : Nat} (hf : ∀ a, (f a).length = n) (l : List α) : ∀ r, r ∈ l.map f → r.length = n := by
  intro r hr
  simp only [List.mem_map] at hr
  obtain ⟨y, _, rfl⟩ := hr
  exact hf y
end
def ptrV (b : Nat) : Value := .pointer (some ⟨b, 0, none⟩)
def intRow (z : Int) : List Value := [.int .i64 z]
/-- What may be read, whatever else is turned. -/
def Rd (lo : Low) (X : AHeap → Prop) : Prop := ∀ h, Base lo h → X h
theorem Rd.mono {lo lo' : Low} {X : AHeap → Prop} (x : Rd lo X) (l : lo.Le lo') : Rd lo' X := fun h b => x h (b.mono l)
theorem Rd.at {lo : Low} {X : AHeap → Prop} {h : AHeap} {L : List HP} (x : Rd lo X) (s : Sat lo h L) : X h := x h s.base
theorem Rd.of {lo : Low} {X : AHeap → Prop} {h0 : AHeap} (hl : lo.Has h0) (x : X h0) (m : ∀ h, Old h0 h → X h) : Rd lo X := fun h b => m h (by obtain ⟨a, c, d⟩ := hl.old b; exact ⟨a, c, d⟩)
section
variable {lo : Low} {h : AHeap} {L : List HP} {ty : TypeId} {n : Nat} {sv : Value} {rows : List (List Value)}
/-- Rows that are read alone for a while. -/
theorem slc_rd (s : Sat lo h (slc ty n sv rows :: L)) (hn : ∀ r, r ∈ rows → r.length = n) : ∃ lo1, lo.Le lo1 ∧ Rd lo1 (SliceR · sv n rows) ∧ Sat lo1 h L ∧ ∀ h' L', Sat lo1 h' L' → Sat lo h' (slc ty n sv rows :: L') := by
  obtain ⟨a, ha, d, w, s⟩ := s
  refine ⟨lo.un a, Low.le_un d, fun h1 b1 => ?_, s, fun h' L' s' => ⟨a, ha, d, w, s'⟩⟩
  have : Sat lo h1 [slc ty n sv rows] := ⟨a, ha, d, w, b1⟩
  exact slc_read this hn
end
section
variable {lo : Low} {h : AHeap} {L : List HP} {ty : TypeId} {n : Nat} {sv : Value} {rows : List (List Value)}
/-- Some rows more. -/
theorem slc_appn (s : Sat lo h (slc ty n sv rows :: L)) (hn : ∀ r, r ∈ rows → r.length = n) (rows2 : List (List Value)) (hn2 : ∀ r, r ∈ rows2 → r.length = n) (bz : Nat) (hb : (rows.length + rows2.length) * bz ≤ 2 ^ 47) (hne : rows2 ≠ []) :
    ∃ b' c' h', app2 h ty n bz rows2.length rows2.flatten sv = some (.slice (some ⟨b', 0, none⟩) (rows.length + rows2.length) c', h') ∧ Sat lo h' (slc ty n (.slice (some ⟨b', 0, none⟩) (rows.length + rows2.length) c') (rows ++ rows2) :: L) := by
  have hn3 : ∀ r, r ∈ rows ++ rows2 → r.length = n := fun r q => by
    rcases List.mem_append.1 q with q | q
    · exact hn r q
    · exact hn2 r q
  have hlen : (rows ++ rows2).length = rows.length + rows2.length := by simp
  have h0 : ¬ rows2.length = 0 := fun e => hne (List.length_eq_zero_iff.1 e)
  rcases slc_cases s with ⟨rfl, rfl, s'⟩ | ⟨b, c, cs, rfl, hc, hl, hf, s⟩
  · refine ⟨h.next, 1, h.push (.cells rows2.flatten ty), ?_, ?_⟩
    · simp only [app2]
      rw [if_neg h0, if_pos (by simp at hb; omega)]; simp
    · have q := slc_full (cs := rows2.flatten) (rows := [] ++ rows2) (c := 1) (by decide) hn3 (by simp) (s'.push (.cells rows2.flatten ty))
      rw [hlen] at q
      exact q
  · have hroom : roomFor c (rows.length + rows2.length) bz = true := by
      unfold roomFor
      cases Nat.beq c 2 <;> simp only [cond_true, cond_false, Nat.ble_eq] <;> omega
    refine ⟨h.next, capafter c (rows.length + rows2.length), (h.set b none).push (.cells (((cs.drop 0).take (rows.length * n)) ++ rows2.flatten) ty), ?_, ?_⟩
    · simp only [app2, s.get]
      rw [if_neg h0, if_pos ⟨hc, trivial, s.wr, by omega, hroom, by simp⟩]
    · have q := slc_full (rows := rows ++ rows2) (c := capafter c (rows.length + rows2.length)) (cap_ne _ _) hn3 (by rw [List.drop_zero, hf, List.flatten_append]) ((s.forget none).push (.cells (((cs.drop 0).take (rows.length * n)) ++ rows2.flatten) ty))
      rw [hlen] at q
      exact q
end
theorem sliceR_I {h : AHeap} {sv : Value} {zs : List Int} (S : SliceI h sv zs) : SliceR h sv 1 (zs.map intRow) := by
  rcases S with ⟨e, e2⟩ | ⟨b, off, cp, rfl, hc⟩
  · exact .inl ⟨e, by rw [e2]; rfl⟩
  · refine .inr ⟨b, off, cp, by rw [List.length_map], fun hz => ?_⟩
    obtain ⟨c, t, hb, hg, hat⟩ := hc (by simpa using hz)
    refine ⟨c, t, hb, hg, fun i r hr => ?_⟩
    rw [List.getElem?_map] at hr
    cases hz : zs[i]? with
    | none => rw [hz] at hr; cases hr
    | some z =>
      rw [hz] at hr
      cases hr
      have := hat i z hz
      have hlt : off + i < c.length := by
        rcases Nat.lt_or_ge (off + i) c.length with q | q
        · exact q
        · rw [List.getElem?_eq_none q] at this; cases this
      refine ⟨by omega, ?_⟩
      rw [Nat.mul_one, List.drop_eq_getElem_cons hlt]
      rw [List.getElem?_eq_getElem hlt] at this
      rw [Option.some.inj this]
      rfl
theorem take_eq {c : List Value} {off : Nat} {l : List Value} (h : ∀ (i : Nat) v, l[i]? = some v → c[off + i]? = some v) : (l = [] ∨ off + l.length ≤ c.length) ∧ (c.drop off).take l.length = l := by
  have hle : l = [] ∨ off + l.length ≤ c.length := by
    cases hl : l.length with
    | zero => exact .inl (List.length_eq_zero_iff.1 hl)
    | succ n =>
      have := h n l[n] (List.getElem?_eq_getElem (by omega))
      rcases Nat.lt_or_ge (off + n) c.length with q | q
      · exact .inr (by omega)
      · rw [List.getElem?_eq_none q] at this; cases this
  refine ⟨hle, List.ext_getElem? fun i => ?_⟩
  rw [List.getElem?_take, List.getElem?_drop]
  by_cases hi : i < l.length
  · rw [if_pos hi, List.getElem?_eq_getElem hi]; exact h i _ (List.getElem?_eq_getElem hi)
  · rw [if_neg hi, List.getElem?_eq_none (by omega)]
section
variable {h : AHeap}
theorem SliceR.first {sv : Value} {n : Nat} {rows : List (List Value)} (S : SliceR h sv n rows) (h0 : 0 < n) (hn : ∀ r, r ∈ rows → r.length = n) : firstc h rows.length n sv = some rows.flatten := by
  rcases S with ⟨rfl, rfl⟩ | ⟨b, off, cp, rfl, hc⟩
  · rfl
  · cases rows with
    | nil => unfold firstc; simp only [List.length_nil, Nat.zero_mul]; rfl
    | cons r0 rows =>
      obtain ⟨c, t, hb, hg, hat⟩ := hc (by simp)
      obtain ⟨h1, h2⟩ := take_eq (c := c) (off := off) (l := (r0 :: rows).flatten) (fun j v hv => by
        have hj : j < (r0 :: rows).length * n := by
          rcases Nat.lt_or_ge j ((r0 :: rows).flatten.length) with a | a
          · rw [flat_len hn] at a; exact a
          · rw [List.getElem?_eq_none a] at hv; cases hv
        have hi : j / n < (r0 :: rows).length := (Nat.div_lt_iff_lt_mul h0).2 hj
        have hk : j % n < n := Nat.mod_lt _ h0
        have hr : (r0 :: rows)[j / n]? = some (r0 :: rows)[j / n] := List.getElem?_eq_getElem hi
        have e : j = j / n * n + j % n := by rw [Nat.mul_comm]; exact (Nat.div_add_mod j n).symm
        rw [e, flat_at hn hr hk] at hv
        obtain ⟨_, h4⟩ := hat _ _ hr
        rw [← h4, List.getElem?_take, if_pos hk, List.getElem?_drop] at hv
        rw [e, ← Nat.add_assoc]; exact hv)
      have hl := flat_len hn
      rw [hl] at h1 h2
      have hne : (r0 :: rows).length * n ≠ 0 := by rw [List.length_cons]; exact Nat.mul_ne_zero (by omega) (by omega)
      have h3 : off + (r0 :: rows).length * n ≤ c.length := by
        rcases h1 with e | e
        · rw [e] at hl; exact absurd hl.symm hne
        · exact e
      unfold firstc
      simp only [hg]
      rw [show Nat.beq ((r0 :: rows).length * n) 0 = false by rw [← Bool.not_eq_true, Nat.beq_eq]; exact hne, cond_false, Nat.ble_eq_true_of_le h3, cond_true, h2]
end
end Go.Fl
