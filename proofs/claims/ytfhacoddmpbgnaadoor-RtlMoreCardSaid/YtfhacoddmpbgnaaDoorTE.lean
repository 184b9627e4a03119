/- A part of the proof. -/
import Derived.Test.YtfhacoddmpbgnaaDoorTD
import Derived.ChangeStays
import Derived.ChangeArms
import Derived.SizedLaws
set_option linter.unusedVariables false
set_option linter.unusedSimpArgs false
set_option linter.unusedVariables false
namespace Go.Ai
noncomputable section
variable {P : Program}
def zmn (n : Nat) : Value -> Value
  | .bool b => .bool b
  | .int k i => .int k i
  | .float k i => .float k i
  | .string s => .string s
  | .pointer none => .pointer none
  | .pointer (some ⟨b, off, none⟩) => cond (Nat.blt b n) (.pointer (some ⟨b, off, none⟩)) bot
  | .slice none 0 0 => .slice none 0 0
  | .slice (some _) 0 0 => .slice (some ⟨0, 0, none⟩) 0 0
  | .slice (some ⟨b, off, none⟩) l c => cond (Nat.blt b n && Nat.ble l c) (.slice (some ⟨b, off, none⟩) l 0) bot
  | .nilFunc => .nilFunc
  | .nilIface => .nilIface
  | .map none => .map none
  | _ => bot
def zkz (f : Nat -> Option wB) : Nat -> Tr wB
  | 0 => .e
  | n + 1 => (zkz f n).set n (f n)
theorem zdU (f : Nat -> Option wB) (n k : Nat) : (zkz f n).get k = if k < n then f k else none := by
  induction n with
  | zero => simp [zkz]
  | succ n ih =>
    rw [zkz, Tr.zP, ih]
    by_cases h : k = n
    . subst h; rw [if_pos rfl, if_pos (by omega)]
    . rw [if_neg h]
      by_cases h2 : k < n
      . rw [if_pos h2, if_pos (by omega)]
      . rw [if_neg h2, if_neg (by omega)]
def zbr (P : Program) (w : World) : Ren := ⟨max w.heap.size P.globals.size + 1, fun b => match w.heap[b]? with
  | some (.cells cs t _) => some ⟨b, 0, cs.size, P.cellsOf t⟩
  | _ => some ⟨b, 0, 0, 1⟩⟩
theorem VY (P : Program) (w : World) (b : Nat) : ∃ pl, (zbr P w).m b = some pl /\ pl.c = b /\ pl.base = 0 := by
  unfold zbr
  simp only
  split
  . exact ⟨_, rfl, rfl, rfl⟩
  . exact ⟨_, rfl, rfl, rfl⟩
theorem zh9 (P : Program) (w : World) {v : Value} (h : cellOk v = true) : z9 (zbr P w) (zmn w.heap.size v) v := by
  have un : (∀ b, v ≠ .bool b) -> z9 (zbr P w) bot v := fun hb => .odd (by
    cases v with
    | bool b => exact absurd rfl (hb b)
    | agg _ => cases h
    | tuple _ => cases h
    | _ => rfl)
  have lt : ∀ {b : Nat}, Nat.blt b w.heap.size = true -> b < (zbr P w).next := fun {b} hb => by
    have h1 : b < w.heap.size := by simpa [Nat.blt_eq] using hb
    show b < max w.heap.size P.globals.size + 1
    omega
  unfold zmn
  split
  . exact .bool _
  . exact .int _ _
  . exact .float _ _
  . exact .string _
  . exact .ptrNil
  . rename_i b off
    cases hb : Nat.blt b w.heap.size with
    | true =>
      obtain ⟨pl, hm, hc, h0⟩ := VY P w b
      have := z9.ptr (ρ := zbr P w) (off := off) (lt hb) hm
      rw [hc, h0, Nat.zero_add] at this
      exact this
    | false => exact un (fun b h => by cases h)
  . exact .sliceNil _
  . exact .sliceOut (show 0 < max w.heap.size P.globals.size + 1 by omega) (by decide)
  . rename_i b off l c hne
    cases hb : Nat.blt b w.heap.size && Nat.ble l c with
    | true =>
      obtain ⟨pl, hm, hc, h0⟩ := VY P w b
      simp only [Bool.and_eq_true] at hb
      have := z9.slice (ρ := zbr P w) (off := off) (c := 0) (lt hb.1) hm (Nat.le_of_ble_eq_true hb.2) (fun h => absurd rfl h)
      rw [hc, h0, Nat.zero_add] at this
      exact this
    | false => exact un (fun b h => by cases h)
  . exact .nilFunc
  . exact .nilIface
  . exact .mapNil
  . rename_i h1 h2 h3 h4 h5 h6 h7 h8 h9 h10 h11 h12
    exact un (fun b h => h1 b h)
theorem zcN (P : Program) (w : World) : ∀ v : Value, ∃ x, z9 (zbr P w) x v
  | .agg a => by
    have h : ∀ i : Fin a.size, ∃ x, z9 (zbr P w) x a[i] := fun i => zcN P w a[i]
    obtain ⟨f, hf⟩ := Classical.axiomOfChoice h
    refine ⟨.agg (Array.ofFn f), .agg (by simp) (fun i x y hx hy => ?_)⟩
    have hi : i < a.size := by
      rcases Nat.lt_or_ge i a.size with q | q
      . exact q
      . rw [Array.getElem?_eq_none q] at hy; cases hy
    rw [Array.getElem?_eq_getElem hi] at hy
    simp only [Option.some.injEq] at hy
    subst hy
    rw [Array.getElem?_eq_getElem (by simpa using hi)] at hx
    simp only [Option.some.injEq, Array.getElem_ofFn] at hx
    subst hx
    exact hf ⟨i, hi⟩
  | .tuple a => by
    have h : ∀ i : Fin a.size, ∃ x, z9 (zbr P w) x a[i] := fun i => zcN P w a[i]
    obtain ⟨f, hf⟩ := Classical.axiomOfChoice h
    refine ⟨.tuple (Array.ofFn f), .tuple (by simp) (fun i x y hx hy => ?_)⟩
    have hi : i < a.size := by
      rcases Nat.lt_or_ge i a.size with q | q
      . exact q
      . rw [Array.getElem?_eq_none q] at hy; cases hy
    rw [Array.getElem?_eq_getElem hi] at hy
    simp only [Option.some.injEq] at hy
    subst hy
    rw [Array.getElem?_eq_getElem (by simpa using hi)] at hx
    simp only [Option.some.injEq, Array.getElem_ofFn] at hx
    subst hx
    exact hf ⟨i, hi⟩
  | .bool b => ⟨_, .bool b⟩
  | .int _ _ | .float _ _ | .complex _ _ _ | .string _ | .pointer _ | .slice _ _ _ | .map _ | .nilFunc | .func _ _ _ | .nilIface | .iface _ _ | .chan _ => ⟨bot, .odd rfl⟩
termination_by v => SizeOf.sizeOf v
decreasing_by
  all_goals
    have := Array.sizeOf_lt_of_mem (Array.getElem_mem i.2)
    simp only [Value.agg.sizeOf_spec, Value.tuple.sizeOf_spec]
    simp only [Fin.getElem_fin] at this ⊢
    omega
def QP (P : Program) (w : World) (v : Value) : Value := if cellOk v = true then zmn w.heap.size v else Classical.choose (zcN P w v)
theorem WS (P : Program) (w : World) (v : Value) : z9 (zbr P w) (QP P w v) v := by
  unfold QP
  split
  . rename_i h; exact zh9 P w h
  . exact Classical.choose_spec (zcN P w v)
theorem absC_ok {w : World} {v : Value} (h : cellOk v = true) : QP P w v = zmn w.heap.size v := if_pos h
def zm6 (P : Program) (w : World) (b : Nat) : Option wB := match w.heap[b]? with
  | some (.cells cs t _) => some (.cells (cs.toList.map (QP P w)) t)
  | _ => none
def absH (P : Program) (w : World) : za := ⟨zkz (zm6 P w) w.heap.size, max w.heap.size P.globals.size + 1, max w.heap.size P.globals.size + 1⟩
theorem KD {w : World} {b : Nat} {o : wB} (h : (absH P w).get b = some o) : b < w.heap.size /\ ∃ cs t fz, w.heap[b]? = some (.cells cs t fz) /\ o = .cells (cs.toList.map (QP P w)) t := by
  have h2 : (zkz (zm6 P w) w.heap.size).get b = some o := h
  rw [zdU] at h2
  split at h2
  case isFalse => cases h2
  rename_i hb
  refine ⟨hb, ?_⟩
  unfold zm6 at h2
  split at h2
  . rename_i cs t fz hw
    simp only [Option.some.injEq] at h2
    exact ⟨cs, t, fz, hw, h2.symm⟩
  . cases h2
theorem absH_get {w : World} {b : Nat} {cs : Array Value} {t : TypeId} {fz : Nat × Nat} (h : w.heap[b]? = some (.cells cs t fz)) : (absH P w).get b = some (.cells (cs.toList.map (QP P w)) t) := by
  have hb : b < w.heap.size := u3 h
  show (zkz (zm6 P w) w.heap.size).get b = _
  rw [zdU, if_pos hb]
  unfold zm6
  rw [h]
theorem zds (P : Program) (w : World) : Rel P (zbr P w) (absH P w) w := by
  refine ⟨rfl, Nat.le_refl _, fun b o h => ?_, fun b o h => ?_, fun b1 b2 o1 o2 p1 p2 _ _ h1 h2 e => ?_, Nat.le_succ_of_le (Nat.le_max_right _ _), fun b pl _ h => ?_⟩
  . have := (KD h).1
    show b < max w.heap.size P.globals.size + 1
    omega
  . obtain ⟨hb, cs, t, fz, hw, rfl⟩ := KD h
    refine ⟨⟨b, 0, cs.size, P.cellsOf t⟩, by simp only [zbr, hw], ?_⟩
    refine ⟨cs, fz, hw, rfl, ⟨rfl, Nat.zero_mod _⟩, by simp, fun hd => ?_, fun i x hx => ?_⟩
    . have hd : max w.heap.size P.globals.size + 1 <= b := of_decide_eq_true hd
      omega
    . simp only [List.getElem?_map, Option.map_eq_some_iff] at hx
      obtain ⟨y, hy, rfl⟩ := hx
      exact ⟨y, by simpa using hy, WS P w y⟩
  . obtain ⟨q1, a1, b1, c1⟩ := VY P w b1
    obtain ⟨q2, a2, b2, c2⟩ := VY P w b2
    rw [h1] at a1; rw [h2] at a2
    cases a1; cases a2
    omega
  . obtain ⟨q1, a1, b1, c1⟩ := VY P w b
    rw [h] at a1
    cases a1
    exact ⟨b1, c1⟩
theorem Calls_of_TCW {f : FuncId} {args vs : List Value} {v : Value} (w : World) (ha : yQ (zbr P w) args vs) (hv : zec v = true) (ht : TC P f args (absH P w) (fun v1 _ => v1 = v)) :
    Calls P f vs.toArray w fun e w' => e = .returned v /\ RowKit.Below w.heap.size w w' := by
  refine (ht _ w vs (zds P w) ha).mono fun e w' => ?_
  rintro ⟨v1, v', h1, ρ', rfl, rfl, st, hvr⟩
  refine ⟨by rw [zgv hv hvr], st.os, st.tape, st.output, st.size, fun k hk => st.frame k hk ?_⟩
  rintro ⟨b, o, pl, hb, hro, _⟩
  have h1 := (KD hb).1
  have h2 : max w.heap.size P.globals.size + 1 <= b := hro
  omega
end
end Go.Ai
set_option linter.unusedVariables false
namespace Go.Ai
noncomputable section
variable {P : Program}
theorem zez {f : FuncId} {v : Value} {m : Nat} {tabs : List (Nat × List Value)} (hv : zec v = true) (hn : P.globals.size <= m) (hfl : ∀ x, x ∈ tabs -> x.1 < m /\ x.1 < P.globals.size /\ x.2.all flat = true) (ht : TC P f [] (zdQ m tabs) (fun v1 _ => v1 = v)) {h : za}
    (hh : ∀ x, x ∈ tabs -> ∃ c t, h.get x.1 = some (.cells c t) /\ ∀ (i : Nat) y, x.2[i]? = some y -> c[i]? = some y) : TC P f [] h (fun v1 h1 => v1 = v /\ h1 = h) := by
  intro ρ w cargs hr hvl
  have hT : ∀ x, x ∈ tabs -> x.1 < m /\ x.2.all flat = true /\ zcs w x.1 x.2 := by
    intro x hx
    obtain ⟨f1, f2, f3⟩ := hfl x hx
    refine ⟨f1, f3, ?_⟩
    obtain ⟨c, t, hc, hce⟩ := hh x hx
    obtain ⟨pl, hm, cs, fz, h1, h2, h3, h4, h5, h6⟩ := hr.ok x.1 _ hc
    obtain ⟨g1, g2⟩ := hr.Yt x.1 pl f2 hm
    refine ⟨cs, t, fz, by rw [<- g1]; exact h1, fun i y hy => ?_⟩
    obtain ⟨z, hz, hzz⟩ := h6 i y (hce i y hy)
    simp only [g2, Nat.zero_add] at hz
    rw [hz]
    simp only [List.all_eq_true] at f3
    rw [vE hzz (f3 y (List.mem_of_getElem? hy))]
  refine (ht _ w cargs (zeW P w m tabs hn hT) ?_).mono fun e w' => ?_
  . cases hvl.xJ; exact .nil _
  rintro ⟨v1, v', h1, ρ', rfl, rfl, st, hvr⟩
  have hsame : ∀ c, c < w.heap.size -> w'.heap[c]? = w.heap[c]? := fun c hc => st.frame c hc (by
    rintro ⟨b, o, pl, hb, hro, _⟩
    obtain ⟨c', hc', _⟩ := XH hb
    have h1 := (hfl _ hc').1
    have h2 : m <= b := hro
    omega)
  exact ⟨v1, v', h, ρ, rfl, ⟨rfl, rfl⟩, ⟨Ren.le_refl _, hr.grow hsame, rfl, st.os, st.tape, st.output, st.size, fun c hc _ => hsame c hc, fun c _ hm => hm⟩, zfC hvr hv ρ⟩
end
end Go.Ai
set_option linter.unusedVariables false
namespace Go.Ai
noncomputable section
variable {P : Program}
section
variable {h : za} {t e : TypeId} {cs : List Value} {k : IntKind}
end
section
variable {H : Type} {enc : TypeId × Value -> H} {w : World} {held : Bool}
theorem ziC (k : IntKind) (i : Int) : QP P w (.int k i) = .int k i := by rw [absC_ok rfl]; rfl
theorem zfy (b : Bool) : QP P w (.bool b) = .bool b := by rw [absC_ok rfl]; rfl
theorem zcc (s : ByteArray) : QP P w (.string s) = .string s := by rw [absC_ok rfl]; rfl
theorem zij : QP P w (.slice none 0 0) = .slice none 0 0 := by rw [absC_ok rfl]; rfl
theorem zh6 (a : Addr) : QP P w (.slice (some a) 0 0) = .slice (some ⟨0, 0, none⟩) 0 0 := by rw [absC_ok rfl]; rfl
theorem zeq {b off len cap : Nat} (h0 : 0 < cap) (hl : len <= cap) (hb : b < w.heap.size) : QP P w (.slice (some ⟨b, off, none⟩) len cap) = .slice (some ⟨b, off, none⟩) len 0 := by
  rw [absC_ok rfl]
  have h1 : (Nat.blt b w.heap.size && Nat.ble len cap) = true := by simp [Nat.blt_eq, hb, hl]
  obtain ⟨c, rfl⟩ : ∃ c, cap = c + 1 := ⟨cap - 1, by omega⟩
  simp only [zmn, h1, cond_true]
theorem zdu {base : Nat} {a : Addr} {n : Nat} {l : List Value} (h : w.cells? base a n = some l) (h0 : 0 < n) : ∃ cs t fz, w.heap[a.block]? = some (.cells cs t fz) /\ a.spot = none /\ a.off + n <= cs.size /\ l = (cs.toList.drop a.off).take n := by
  obtain ⟨_, hl, hc⟩ := World.cells?_some h
  have hat : ∀ i, i < n -> ∃ cs t fz, w.heap[a.block]? = some (.cells cs t fz) /\ (i = 0 -> a.spot = none) /\ cs[a.off + i]? = l[i]? /\ a.off + i < cs.size := by
    intro i hi
    have h1 := hc i (by omega)
    have hb : (a.add i).block = a.block := by unfold Addr.add; split <;> rfl
    have ho : (a.add i).off = a.off + i := by unfold Addr.add; split <;> simp_all
    unfold World.cell? at h1
    rw [hb, ho] at h1
    have hli : ∃ v, l[i]? = some v := ⟨l[i], List.getElem?_eq_getElem (by omega)⟩
    obtain ⟨v, hv⟩ := hli
    split at h1
    . rename_i cs t fz hw
      refine ⟨cs, t, fz, hw, fun e => ?_, ?_, ?_⟩
      . subst e
        have : a.add 0 = a := by unfold Addr.add; simp
        rw [this] at h1
        cases hs : a.spot with
        | none => rfl
        | some x => rw [hs] at h1; simp at h1; rw [h1] at hv; cases hv
      . split at h1
        . rw [hv] at h1; cases h1
        . exact h1
      . split at h1
        . rw [hv] at h1; cases h1
        . rw [hv] at h1
          rcases Nat.lt_or_ge (a.off + i) cs.size with q | q
          . exact q
          . rw [Array.getElem?_eq_none q] at h1; cases h1
    . rw [hv] at h1; cases h1
  obtain ⟨cs, t, fz, hw, hs, _⟩ := hat 0 h0
  refine ⟨cs, t, fz, hw, hs rfl, ?_, ?_⟩
  . obtain ⟨cs', t', fz', hw', _, _, hlt⟩ := hat (n - 1) (by omega)
    rw [hw] at hw'
    cases hw'
    omega
  . apply List.ext_getElem?
    intro i
    by_cases hi : i < n
    . obtain ⟨cs', t', fz', hw', _, he, _⟩ := hat i hi
      rw [hw] at hw'
      cases hw'
      rw [<- he, List.getElem?_take_of_lt hi, List.getElem?_drop]
      simp
    . rw [List.getElem?_eq_none (by omega), List.getElem?_eq_none (by simp; omega)]
end
end
end Go.Ai
set_option linter.unusedVariables false
namespace Go.Ai
noncomputable section
variable {P : Program}
def ziW (P : Program) (w : World) : Value -> Value
  | .agg a => .agg (a.map (QP P w))
  | v => QP P w v
theorem ziJ (P : Program) (w : World) (v : Value) : z9 (zbr P w) (ziW P w v) v := by
  unfold ziW
  split
  . rename_i a
    refine .agg (by simp) (fun i x y hx hy => ?_)
    simp only [Array.getElem?_map, hy, Option.map_some, Option.some.injEq] at hx
    subst hx
    exact WS P w y
  . exact WS P w _
def ZY : Value -> Bool
  | .agg _ => false
  | _ => true
theorem VO {w : World} {v : Value} (h : ZY v = true) : ZY (QP P w v) = true := by
  have := WS P w v
  cases v with
  | agg => cases h
  | _ =>
    generalize QP P w _ = x at this
    cases this <;> rfl
theorem qI {v : Value} (h : ZY v = true) : v.cells.toList = [v] := by
  cases v <;> first | rfl | cases h
theorem zeu (P : Program) (w : World) (v : Value) : (ziW P w v).cells.toList = v.cells.toList.map (QP P w) := by
  cases hv : ZY v with
  | false => cases v <;> first | (simp [ziW, Value.cells]; done) | cases hv
  | true =>
    have e : ziW P w v = QP P w v := by cases v <;> first | rfl | cases hv
    rw [e, qI hv, qI (VO hv)]
    rfl
theorem zcd {w : World} {v : Value} (h : ZY v = true) : ZY (ziW P w v) = true := by
  have e : ziW P w v = QP P w v := by cases v <;> first | rfl | cases h
  rw [e]
  exact VO h
def isRow (P : Program) (t : TypeId) : Bool := match P.underlying t with
  | some (.struct _) | some (.array _ _) => true
  | _ => false
theorem agg_of {a : Value} {l : List Value} (h : a.cells.toList = l) (hl : l.length ≠ 1) : a = .agg l.toArray := by
  cases ha : ZY a with
  | true => rw [qI ha] at h; subst h; exact absurd rfl hl
  | false =>
    cases a with
    | agg c => subst h; rfl
    | _ => cases ha
theorem zaL {w : World} {r : Reach} {base : Nat} {t : TypeId} {v : Value} (h : Value.okWide P w r base t v) (hr : isRow P t = false) : ZY v = true := by
  cases v with
  | agg c =>
    exfalso
    unfold isRow at hr
    unfold Value.okWide at h
    split at hr
    . cases hr
    . cases hr
    . rename_i n1 n2
      split at h
      . rename_i fs hu; exact n1 _ hu
      . rename_i m e hu; exact n2 _ _ hu
      . unfold Cell.okWide at h
        split at h <;> first | (rename_i hh; cases hh; done) | skip
        all_goals first
          | (rename_i h2 h3; cases h3; done)
          | skip
        unfold Cell.ok at h
        split at h <;> first | exact h | (rename_i h2 h3; cases h3)
  | _ => rfl
section
variable {H : Type} {enc : TypeId × Value -> H} {w : World} {held : Bool}
def kidsOk (P : Program) (l : List TypeId) : Bool := l.all fun t => match P.underlying t with
  | some (.pointer e) => l.contains e
  | some (.slice e) => l.contains e && Nat.blt 0 (P.cellsOf e)
  | some (.array _ _) => false
  | some (.map _ _) => false
  | some (.struct fs) => (fs.toList.all fun f => l.contains f.type) && Nat.beq (P.cellsOf t) ((fs.toList.map fun f => P.cellsOf f.type).sum) && (List.range fs.size).all fun j => match fs.toList[j]? with
    | some f => Nat.beq f.offset ((fs.toList.take j).map fun f => P.cellsOf f.type).sum
    | none => true
  | _ => true
theorem zlu {l : List TypeId} (h : kidsOk P l = true) : Kids P (· ∈ l) /\ ∀ {t e : TypeId}, t ∈ l -> P.underlying t = some (.slice e) -> 0 < P.cellsOf e := by
  unfold kidsOk at h
  rw [List.all_eq_true] at h
  refine ⟨⟨fun ht hu => ?_, fun ht hu => ?_, fun ht hu => ?_, fun ht hu => ?_, fun ht hu => ?_⟩, fun ht hu => ?_⟩
  . have := h _ ht; rw [hu] at this; simpa using this
  . have := h _ ht; rw [hu] at this; simp only [Bool.and_eq_true] at this; simpa using this.1
  . have := h _ ht; rw [hu] at this; cases this
  . rename_i t fs
    have := h _ ht
    rw [hu] at this
    simp only [Bool.and_eq_true, List.all_eq_true] at this
    obtain ⟨⟨h1, h2⟩, h3⟩ := this
    refine ⟨fun f hf => by simpa using h1 f hf, Nat.eq_of_beq_eq_true h2, fun j f hj => ?_⟩
    have hlt : j < fs.size := by
      rcases Nat.lt_or_ge j fs.toList.length with q | q
      . simpa using q
      . rw [List.getElem?_eq_none q] at hj; cases hj
    have := h3 j (by simpa using hlt)
    rw [hj] at this
    exact Nat.eq_of_beq_eq_true this
  . have := h _ ht; rw [hu] at this; cases this
  . have := h _ ht; rw [hu] at this; simp only [Bool.and_eq_true] at this; simpa [Nat.blt_eq] using this.2
theorem ze1 {w w' : World} (hb : RowKit.Below w.heap.size w w') {p : MemPlace} (hp : p.block < w.heap.size) : w.sameAt w' p := by
  cases p with
  | cell b off =>
    have hk := hb.block b hp
    show w'.cell? _ = w.cell? _
    unfold World.cell?
    simp only [hk]
  | map b => exact hb.block b hp
theorem args_stay {l : List TypeId} (hk : kidsOk P l = true) {w' : World} (hb : RowKit.Below w.heap.size w w') {sp : Nat -> Bool} : ∀ (ts : List TypeId) (vs : List Value) (ds : List (DataW H)) (p : List MemPlace), DataW.TrodAll enc P w 0 (fun _ => true) true ts vs ds p ->
    (∀ t, t ∈ ts -> t ∈ l) -> (∀ x, x ∈ p -> x.block < w.heap.size) -> (∀ x, x ∈ p -> sp x.block = true) -> DataW.TrodAll enc P w' 0 sp true ts vs ds p
  | [], [], [], p, h, ht, hl, hs => h
  | t :: ts, v :: vs, d :: ds, p, h, ht, hl, hs => by
    obtain ⟨p1, q1, ⟨n, h1⟩, h2, rfl⟩ := h
    obtain ⟨K, hsz⟩ := zlu hk
    refine ⟨p1, q1, ⟨n, ?_⟩, args_stay hk hb ts vs ds q1 h2 (fun t h => ht t (by simp [h])) (fun x hx => hl x (by simp [hx])) (fun x hx => hs x (by simp [hx])), rfl⟩
    exact DataW.trod_stays K hsz (fun e => by cases e) (ht t (by simp)) h1 (fun x hx => ze1 hb (hl x (by simp [hx]))) (fun x hx => hs x (by simp [hx]))
  | [], _ :: _, _, p, h, _, _, _ => by cases h
  | [], [], _ :: _, p, h, _, _, _ => by cases h
  | _ :: _, [], _, p, h, _, _, _ => by cases h
  | _ :: _, _ :: _, [], p, h, _, _, _ => by cases h
end
end
end Go.Ai
set_option linter.unusedVariables false
namespace Go.Ai
noncomputable section
variable {P : Program}
def RW (P : Program) (h : za) : Nat -> TypeId -> List Value -> Prop
  | 0, _, _ => False
  | n + 1, t, cs => match P.underlying t with
    | some .bool => ∃ b, cs = [.bool b]
    | some (.int k) => ∃ i, cs = [.int k i] /\ (Lit.int k i).wf = true
    | some .string => ∃ s : ByteArray, cs = [.string s] /\ s.size <= maxLen
    | some (.slice e) => 0 < P.cellsOf e -> cs = [.slice none 0 0] \/ ∃ b off len, cs = [.slice (some ⟨b, off, none⟩) len 0] /\ len * P.bytesOf e <= reachBytes /\ (0 < len -> ∃ c t', h.get b = some (.cells c t') /\
        ∀ i, i < len -> off + i * P.cellsOf e + P.cellsOf e <= c.length /\ RW P h n e ((c.drop (off + i * P.cellsOf e)).take (P.cellsOf e)))
    | some (.struct fs) => cs.length = P.cellsOf t /\ ∀ f, f ∈ fs -> RW P h n f.type ((cs.drop f.offset).take (P.cellsOf f.type))
    | _ => True
def RWD (P : Program) (h : za) (t : TypeId) (cs : List Value) : Prop := ∃ n, RW P h n t cs
section
variable {h : za} {t e : TypeId} {cs : List Value} {k : IntKind}
theorem rw_int (hu : P.underlying t = some (.int k)) (r : RWD P h t cs) : ∃ i, cs = [.int k i] /\ (Lit.int k i).wf = true := by
  obtain ⟨n, r⟩ := r
  cases n with
  | zero => exact r.elim
  | succ n => simpa only [RW, hu] using r
theorem zhQ (hu : P.underlying t = some .string) (r : RWD P h t cs) : ∃ s : ByteArray, cs = [.string s] /\ s.size <= maxLen := by
  obtain ⟨n, r⟩ := r
  cases n with
  | zero => exact r.elim
  | succ n => simpa only [RW, hu] using r
theorem Kx (hu : P.underlying t = some (.slice e)) {sz bz : Nat} (hs : P.cellsOf e = sz) (hb : P.bytesOf e = bz) (h0 : 0 < sz) (r : RWD P h t cs) : cs = [.slice none 0 0] \/ ∃ b off len, cs = [.slice (some ⟨b, off, none⟩) len 0] /\ len * bz <= reachBytes /\
    (0 < len -> ∃ c t', h.get b = some (.cells c t') /\ ∀ i, i < len -> off + i * sz + sz <= c.length /\ RWD P h e ((c.drop (off + i * sz)).take sz)) := by
  subst hs hb
  obtain ⟨n, r⟩ := r
  cases n with
  | zero => exact r.elim
  | succ n =>
    simp only [RW, hu] at r
    rcases r h0 with r | ⟨b, off, len, e1, e2, e3⟩
    . exact .inl r
    . refine .inr ⟨b, off, len, e1, e2, fun hl => ?_⟩
      obtain ⟨c, t', g, hc⟩ := e3 hl
      exact ⟨c, t', g, fun i hi => ⟨(hc i hi).1, n, (hc i hi).2⟩⟩
theorem W5 {fs : Array Field} (hu : P.underlying t = some (.struct fs)) (r : RWD P h t cs) : cs.length = P.cellsOf t /\ ∀ f, f ∈ fs -> RWD P h f.type ((cs.drop f.offset).take (P.cellsOf f.type)) := by
  obtain ⟨n, r⟩ := r
  cases n with
  | zero => exact r.elim
  | succ n =>
    simp only [RW, hu] at r
    exact ⟨r.1, fun f hf => ⟨n, r.2 f hf⟩⟩
end
theorem ZV {H : Type} {e : TypeId} : ∀ {l : List (DataW H)} {i : Nat} {d : DataW H}, l[i]? = some d -> ∀ n ∈ d.weights P e, n ∈ DataW.weightsAll P e l
  | d0 :: l, 0, d, hd, n, hn => by
    simp only [List.getElem?_cons_zero, Option.some.injEq] at hd
    subst hd
    simp only [DataW.weightsAll, List.mem_append]
    exact Or.inl hn
  | d0 :: l, i + 1, d, hd, n, hn => by
    simp only [List.getElem?_cons_succ] at hd
    simp only [DataW.weightsAll, List.mem_append]
    exact Or.inr (ZV hd n hn)
  | [], _, _, hd, _, _ => by simp at hd
section
variable {H : Type} {enc : TypeId × Value -> H} {w : World} {held : Bool}
theorem XU {sp : Nat -> Bool} (hsp : ∀ b, sp b = true) : ∀ (n : Nat) (t : TypeId) (cs : List Value) (x : DataW H × List MemPlace), DataW.trod enc P w 0 sp held n t cs = some x -> (∀ m ∈ x.1.weights P t, m <= reachBytes) -> RW P (absH P w) n t (cs.map (QP P w))
  | 0, t, cs, x, h, _ => by simp [DataW.trod] at h
  | n + 1, t, cs, x, h, hwt => by
    unfold RW
    split
    . rename_i hu
      obtain ⟨b, rfl, _⟩ := DataW.trod_bool hu h
      exact ⟨b, by simp only [List.map_cons, List.map_nil, zfy]⟩
    . rename_i k hu
      obtain ⟨i, rfl, _, hw⟩ := DataW.trod_int hu h
      exact ⟨i, by simp only [List.map_cons, List.map_nil, ziC], hw⟩
    . rename_i hu
      obtain ⟨s, rfl, _, hw⟩ := DataW.trod_string hu h
      exact ⟨s, by simp only [List.map_cons, List.map_nil, zcc], hw⟩
    . rename_i e hu
      intro hz
      rcases DataW.trod_slice hu h with ⟨rfl, _⟩ | ⟨a, len, cap, elems, rest, m, hm, rfl, hx, _, hl, hmx, hel, hat, hrest, _⟩
      . exact .inl (by simp only [List.map_cons, List.map_nil, zij])
      . cases hm
        right
        have hr := hrest (hsp _)
        have hwt2 : ∀ m ∈ (elems.length + rest.length) * P.bytesOf e :: (DataW.weightsAll P e (elems.map (·.1)) ++ DataW.weightsAll P e (rest.map (·.1))), m <= reachBytes := by
          intro m hm'
          apply hwt
          rw [hx]
          simp only [DataW.weights, hu, List.length_map]
          exact hm'
        have all : ∀ i, i < cap -> ∃ l y, w.cells? 0 (a.add (i * P.cellsOf e)) (P.cellsOf e) = some l /\ DataW.trod enc P w 0 sp held n e l = some y := by
          intro i hi
          by_cases h1 : i < len
          . have := hat i h1
            rw [List.getElem?_eq_getElem (by omega)] at this
            simp only [Option.bind_eq_some_iff] at this
            obtain ⟨l, a1, a2⟩ := this
            exact ⟨l, _, a1, a2⟩
          . have := hr.2 (i - len) (by omega)
            rw [List.getElem?_eq_getElem (by omega), show len + (i - len) = i by omega] at this
            simp only [Option.bind_eq_some_iff] at this
            obtain ⟨l, a1, a2⟩ := this
            exact ⟨l, _, a1, a2⟩
        by_cases hcap : cap = 0
        . have hlen : len = 0 := by omega
          subst hcap hlen
          exact ⟨0, 0, 0, by simp only [List.map_cons, List.map_nil, zh6], by rw [Nat.zero_mul]; exact Nat.zero_le _, fun q => absurd q (by decide)⟩
        . · obtain ⟨l0, y0, c0, _⟩ := all 0 (by omega)
            have ha0 : a.add (0 * P.cellsOf e) = a := by rw [Nat.zero_mul]; unfold Addr.add; simp
            rw [ha0] at c0
            obtain ⟨cc, t', fz, hw, hs, _, _⟩ := zdu c0 hz
            have hb : a.block < w.heap.size := u3 hw
            obtain ⟨ab, ao, as⟩ := a
            simp only at hs hb hw
            subst hs
            refine ⟨ab, ao, len, by simp only [List.map_cons, List.map_nil, zeq (Nat.pos_of_ne_zero hcap) hl hb], Nat.le_trans (Nat.mul_le_mul_right _ (by omega)) (hwt2 _ List.mem_cons_self), fun _ => ⟨_, t', absH_get hw, fun i hi => ?_⟩⟩
            have hati := hat i hi
            rw [List.getElem?_eq_getElem (by omega)] at hati
            simp only [Option.bind_eq_some_iff] at hati
            obtain ⟨l, c1, c2⟩ := hati
            have hmy : ∀ m ∈ (elems[i]'(by omega)).1.weights P e, m <= reachBytes := fun m hm' => hwt2 m (List.mem_cons_of_mem _ (List.mem_append_left _ (ZV (i := i) (by rw [List.getElem?_map, List.getElem?_eq_getElem (by omega)]; rfl) m hm')))
            obtain ⟨cc', t2, fz2, hw2, hs2, hle, rfl⟩ := zdu c1 hz
            have hblk : (Addr.add ⟨ab, ao, none⟩ (i * P.cellsOf e)).block = ab := by unfold Addr.add; split <;> rfl
            have hoff : (Addr.add ⟨ab, ao, none⟩ (i * P.cellsOf e)).off = ao + i * P.cellsOf e := by unfold Addr.add; split <;> simp_all
            rw [hblk, hw] at hw2
            cases hw2
            rw [hoff] at hle c2
            refine ⟨by simpa using hle, ?_⟩
            have := XU hsp n e _ _ c2 hmy
            rw [List.map_take, List.map_drop] at this
            exact this
    . rename_i fs hu
      obtain ⟨xs, m, hm, hx, hl, hlen, hf⟩ := DataW.trod_struct hu h
      cases hm
      refine ⟨by simpa using hl, fun f hfm => ?_⟩
      obtain ⟨i, hi, e⟩ := Array.getElem_of_mem hfm
      have := hf i f (by rw [Array.getElem?_eq_getElem hi, e])
      rw [List.getElem?_eq_getElem (by omega)] at this
      have hmy : ∀ m ∈ (xs[i]'(by omega)).1.weights P f.type, m <= reachBytes := fun m hm' => hwt m (by
        rw [hx]
        simp only [DataW.weights, hu]
        exact DataW.weights_mem_each (j := i) (by rw [List.getElem?_map, Array.getElem?_toList, Array.getElem?_eq_getElem hi, e]; rfl) (by rw [List.getElem?_map, List.getElem?_eq_getElem (by omega)]; rfl) m hm')
      have := XU hsp n f.type _ _ this hmy
      rw [List.map_take, List.map_drop] at this
      exact this
    . trivial
theorem Vk {ts : List TypeId} {t : TypeId} {ds : List (DataW H)} {d : DataW H} (h : ∀ m ∈ DataW.weightsEach P (t :: ts) (d :: ds), m <= reachBytes) : (∀ m ∈ d.weights P t, m <= reachBytes) /\ ∀ m ∈ DataW.weightsEach P ts ds, m <= reachBytes := by
  simp only [DataW.weightsEach, List.mem_append] at h
  exact ⟨fun m hm => h m (.inl hm), fun m hm => h m (.inr hm)⟩
def RWs (P : Program) (h : za) : List TypeId -> List Value -> Prop
  | [], [] => True
  | t :: ts, a :: as' => (RWD P h t a.cells.toList /\ (isRow P t = false -> ZY a = true)) /\ RWs P h ts as'
  | _, _ => False
theorem rw_one {h : za} {t : TypeId} {a : Value} (hr : isRow P t = false) (r : RWD P h t a.cells.toList /\ (isRow P t = false -> ZY a = true)) : RWD P h t [a] := by
  have := r.1
  rwa [qI (r.2 hr)] at this
theorem args_rw {sp : Nat -> Bool} (hsp : ∀ b, sp b = true) {r : Reach} {base : Nat} : ∀ (ts : List TypeId) (vs : List Value) (ds : List (DataW H)) (p : List MemPlace), DataW.TrodAll enc P w 0 sp held ts vs ds p ->
    (∀ (j : Nat) t v, ts[j]? = some t -> vs[j]? = some v -> Value.okWide P w r base t v) -> (∀ m ∈ DataW.weightsEach P ts ds, m <= reachBytes) -> yQ (zbr P w) (vs.map (ziW P w)) vs /\ RWs P (absH P w) ts (vs.map (ziW P w))
  | [], [], [], p, h, hv, _ => ⟨.nil _, trivial⟩
  | t :: ts, v :: vs, d :: ds, p, h, hv, hm => by
    obtain ⟨p1, q1, ⟨n, h1⟩, h2, _⟩ := h
    obtain ⟨m1, m2⟩ := Vk hm
    obtain ⟨a1, a2⟩ := args_rw hsp ts vs ds q1 h2 (fun j t v hj hv' => hv (j + 1) t v (by simpa using hj) (by simpa using hv')) m2
    refine ⟨.cons (ziJ P w v) a1, ⟨⟨n, ?_⟩, fun hr => zcd (zaL (hv 0 t v rfl rfl) hr)⟩, a2⟩
    rw [zeu]
    exact XU hsp n t _ _ h1 m1
  | [], _ :: _, _, p, h, hv, _ => by cases h
  | [], [], _ :: _, p, h, hv, _ => by cases h
  | _ :: _, [], _, p, h, hv, _ => by cases h
  | _ :: _, _ :: _, [], p, h, hv, _ => by cases h
end
end
end Go.Ai
set_option linter.unusedVariables false
namespace Go.Ai
noncomputable section
variable {P : Program}
def zV : Value -> Bool
  | .complex _ _ _ => true
  | _ => false
structure Le (r s : Env) : Prop where
  size : r.size = s.size
  get : ∀ i, zV (r.get i) = true \/ r.get i = s.get i
theorem Le.refl (s : Env) : Le s s := ⟨rfl, fun _ => .inr rfl⟩
theorem Le.trans {a b c : Env} (h : Le a b) (k : Le b c) : Le a c := ⟨h.size.trans k.size, fun i => by
  rcases h.get i with e | e
  . exact .inl e
  . rcases k.get i with f | f
    . exact .inl (by rw [e]; exact f)
    . exact .inr (e.trans f)⟩
theorem Le.put {r s r1 : Env} {d : Option Nat} {v u : Value} (h : Le r s) (hp : r.put d v = some r1) (hv : zV v = true \/ v = u) : ∃ s1, s.put d u = some s1 /\ Le r1 s1 := by
  cases d with
  | none => simp only [Env.put, Option.some.injEq] at hp; subst hp; exact ⟨s, rfl, h⟩
  | some d =>
    simp only [Env.put] at hp ⊢
    obtain ⟨hc, hp⟩ := zl hp
    rw [h.size] at hc
    rw [hc]
    simp only [Option.some.injEq] at hp
    subst hp
    refine ⟨_, rfl, ⟨h.size, fun i => ?_⟩⟩
    rw [Env.zP, Env.zP]
    by_cases e : i = d
    . rw [if_pos e, if_pos e]; exact hv
    . rw [if_neg e, if_neg e]; exact h.get i
def ev (s : Env) : Operand -> Value
  | .tmp t => s.get t
  | .const v => cond (flat v) v bot
  | .global g => .pointer (some ⟨g, 0, some 0⟩)
  | .func f => .func (.func f) #[] #[]
theorem lev {r s : Env} (h : Le r s) (x : Operand) : zV (ev r x) = true \/ aev s x = some (ev r x) := by
  cases x with
  | tmp t => rcases h.get t with e | e
             . exact .inl e
             . exact .inr (by simp only [aev, ev, e])
  | const v => cases hf : flat v with
    | true => exact .inr (by simp only [aev, ev, hf, cond_true])
    | false => exact .inl (by simp only [ev, hf, cond_false]; rfl)
  | global g => exact .inr rfl
  | func f => exact .inr rfl
theorem Yx {r s : Env} (h : Le r s) {x : Operand} (hb : zV (ev r x) = false) : aev s x = some (ev r x) := by
  rcases lev h x with e | e
  . rw [e] at hb; cases hb
  . exact e
def evs (s : Env) : List Operand -> List Value
  | [] => []
  | x :: l => ev s x :: evs s l
def yH : List Value -> Bool
  | [] => true
  | v :: l => cond (zV v) false (yH l)
theorem KZ {r s : Env} (h : Le r s) : ∀ {xs : List Operand}, yH (evs r xs) = true -> QD s xs = some (evs r xs)
  | [], _ => rfl
  | x :: xs, hb => by
    simp only [evs, yH] at hb
    cases hx : zV (ev r x) with
    | true => rw [hx] at hb; cases hb
    | false =>
      rw [hx] at hb
      simp only [QD, evs, Yx h hx, KZ h hb]
def evp (s : Env) : List (Nat × Operand) -> List (Nat × Value)
  | [] => []
  | (i, x) :: l => (i, ev s x) :: evp s l
def zmR : List (Nat × Value) -> List Value
  | [] => []
  | (_, v) :: l => v :: zmR l
theorem znK {r s : Env} (h : Le r s) : ∀ {ps : List (Nat × Operand)}, yH (zmR (evp r ps)) = true -> Zf s ps = some (evp r ps)
  | [], _ => rfl
  | (i, x) :: ps, hb => by
    simp only [evp, zmR, yH] at hb
    cases hx : zV (ev r x) with
    | true => rw [hx] at hb; cases hb
    | false =>
      rw [hx] at hb
      simp only [Zf, evp, Yx h hx, znK h hb]
def evo (s : Env) : Option Operand -> Option Value
  | none => none
  | some x => some (ev s x)
def onb : Option Value -> Bool
  | none => true
  | some v => !zV v
theorem zoG {r s : Env} (h : Le r s) {x : Option Operand} (hb : onb (evo r x) = true) : zhW s x = some (evo r x) := by
  cases x with
  | none => rfl
  | some y =>
    simp only [evo, onb, Bool.not_eq_true'] at hb
    simp only [zhW, evo, Yx h hb]; rfl
def opt {α : Type} (x : Option α) (K : α -> Prop) : Prop := match x with
  | some a => K a
  | none => False
@[congr] theorem zlT {α : Type} {x y : Option α} {K : α -> Prop} (h : x = y) : opt x K = opt y K := by rw [h]
theorem zk {α : Type} (a : α) (K : α -> Prop) : opt (some a) K = K a := rfl
theorem wq {α : Type} {x : Option α} {K : α -> Prop} (h : opt x K) : ∃ a, x = some a /\ K a := by
  cases x with
  | none => exact h.elim
  | some a => exact ⟨a, rfl, h⟩
def xg (x : Option (Value × za)) (K : Value -> za -> Prop) : Prop := match x with
  | some (v, h) => K v h
  | none => False
@[congr] theorem zlM {x y : Option (Value × za)} {K : Value -> za -> Prop} (h : x = y) : xg x K = xg y K := by rw [h]
theorem yf (v : Value) (h : za) (K : Value -> za -> Prop) : xg (some (v, h)) K = K v h := rfl
theorem vX {x : Option (Value × za)} {K : Value -> za -> Prop} (h : xg x K) : ∃ v g, x = some (v, g) /\ K v g := by
  cases x with
  | none => exact h.elim
  | some a => exact ⟨a.1, a.2, rfl, h⟩
def nw (h : za) (c : List Value) (t : TypeId) (K : Value -> za -> Prop) : Prop := K (.pointer (some ⟨h.next, 0, none⟩)) (h.push (.cells c t))
def nb {α : Type} (l : List Value) (x : Option α) : Option α := cond (yH l) x none
theorem x0 {α : Type} {l : List Value} {x : Option α} {a : α} (h : nb l x = some a) : yH l = true /\ x = some a := zl h
def pk (c a b : Value) : Option Value := match c with
  | .bool true => nb [a] (some a)
  | .bool false => nb [b] (some b)
  | _ => none
def nck : Value -> Option Value
  | .pointer (some a) => some (.pointer (some a))
  | .func (.func f) a c => some (.func (.func f) a c)
  | _ => none
def aun (P : Program) (op : UnOp) (a : Value) : Option Value := cond (flat a) (fl (yM P (Op.unary op a))) none
def zoE (P : Program) (t : TypeId) (a : Value) : Option Value := match yM P (Instr.makeInterface t (.bool true)) with
  | some _ => some (.iface t a)
  | none => none
def asl (P : Program) (t : TypeId) (x : Value) (lo hi : Option Value) (h : za) : Option Value := match x with
  | .string str => cond (zgy lo && zgy hi) (fl (yM P (Instr.sliceAt t (.string str) lo hi none))) none
  | v => QB P t v lo hi h
def afv (P : Program) (t : TypeId) (x : Value) (f : Nat) : Option Value := match x with
  | .agg cs => (match yM P (underlying t) with
    | some (.struct fields) => (match fields[f]? with
      | some fd => apart P fd.type cs.toList fd.offset
      | none => none)
    | _ => none)
  | _ => none
def znB (P : Program) (t : TypeId) (a b : Value) : Option Value := cond (flat a && flat b) (fl (yM P (Instr.index t a b))) none
def axt (x : Value) (i : Nat) : Option Value := match x with
  | .tuple vs => nb (vs.toList) vs[i]?
  | _ => none
def WF' (h : za) : Prop := (∀ b o, h.get b = some o -> b < h.next) /\ h.ro <= h.next
def DC (P : Program) (f : FuncId) (args : List Value) (h : za) (R : Value -> za -> Prop) : Prop :=
  WF' h -> ∃ v h1, R v h1 /\ AF h h1 /\ TC P f args h (fun v' h' => v' = v /\ h' = h1)
def zn0 (P : Program) (g : FuncId) (args : List Value) (h : za) (K : Value -> za -> Prop) : Prop :=
  yH args = true /\ ((yT P g = true /\ DC P g args h K) \/ xg (zih P g args h) K)
def znw (P : Program) (L : Nat) (args : List Value) (h : za) (K : Value -> za -> Prop) : Prop :=
  yH args = true /\ (WF' h -> ∃ v h1, K v h1 /\ AF h h1 /\ TY P L args h (fun v' h' => v' = v /\ h' = h1))
def zI (P : Program) (f : Value) (args : List Value) (h : za) (K : Value -> za -> Prop) : Prop := match f with
  | .func (.func g) a c => yH args = true /\ zn0 P g (a.toList ++ args ++ c.toList) h K
  | .func (.yield L) a c => a = #[] /\ c = #[] /\ znw P L args h K
  | _ => False
def mv (s : Env) (x : Operand) (h : za) (K : Value -> za -> Prop) : Prop := match x with
  | .tmp t => K (s.get t) h
  | .const v => cond (flat v) (K v h) False
  | .global g => K (.pointer (some ⟨g, 0, some 0⟩)) h
  | .func f => K (.func (.func f) #[] #[]) h
def opA (P : Program) (s : Env) (o : Oper) (h : za) (K : Value -> za -> Prop) : Prop := match o.op with
  | .move x | .assign x => mv s x h K
  | .pick c a b => opt (pk (ev s c) (ev s a) (ev s b)) fun v => K v h
  | .box t x => opt (nb [ev s x] (some (ev s x).cells.toList)) fun c => nw h c t K
  | .alloc t => opt (xo P t) fun z => nw h z.cells.toList t K
  | .build t parts => opt (nb (zmR (evp s parts.toList)) (yj P t (evp s parts.toList))) fun v => K v h
  | .buildSlice t len parts => xg (nb (zmR (evp s parts.toList)) (yd P t len (evp s parts.toList) h)) K
  | .load t a => opt (zd P t (ev s a) h) fun v => K v h
  | .store t a x => opt (nb [ev s x] (zj P t (ev s a) (ev s x) h)) fun h' => K undef h'
  | .nilCheck x => opt (nck (ev s x)) fun v => K v h
  | .binOp op t x y _ => opt (nb [ev s x, ev s y] (zf P op t x y (ev s x) (ev s y))) fun v => K v h
  | .unOp op _ x => opt (aun P op (ev s x)) fun v => K v h
  | .convert src dst x => xg (nb [ev s x] (vf P src dst (ev s x) h)) K
  | .makeInterface t x => opt (nb [ev s x] (zoE P t (ev s x))) fun v => K v h
  | .makeFunc (.func f) first captured => opt (nb (evs s first.toList ++ evs s captured.toList) (some (Value.func (.func f) (evs s first.toList).toArray (evs s captured.toList).toArray))) fun v => K v h
  | .makeSlice t l c => xg (ZQ P t (ev s l) (ev s c) h) K
  | .slice t x lo hi none => opt (nb [ev s x] (cond (onb (evo s lo) && onb (evo s hi)) (asl P t (ev s x) (evo s lo) (evo s hi) h) none)) fun v => K v h
  | .fieldAddr t x f => opt (zb P t (ev s x) f) fun v => K v h
  | .field t x f => opt (afv P t (ev s x) f) fun v => K v h
  | .indexAddr t x i => opt (zG P t (ev s x) (ev s i)) fun v => K v h
  | .index t x i => opt (znB P t (ev s x) (ev s i)) fun v => K v h
  | .extract x i => opt (axt (ev s x) i) fun v => K v h
  | .call { callee := .builtin b, args, argTypes } => xg (nb (evs s args.toList) (zg P b argTypes.toList o.type (evs s args.toList) h)) K
  | .makeMap _ none => K (Zu h).1 (Zu h).2
  | .lookup t x k ok => opt (nb [ev s x, ev s k] (KF P t (ev s x) (ev s k) ok h)) fun v => K v h
  | .mapUpdate t m k x => opt (nb [ev s m, ev s k, ev s x] (uT P t (ev s m) (ev s k) (ev s x) h)) fun h' => K undef h'
  | .range t x => xg (nb [ev s x] (QC P t (ev s x) h)) K
  | .next x str => xg (nb [ev s x] (zdX P (ev s x) str h)) K
  | .entry x => opt (nb [ev s x] (zcE (ev s x) h)) fun v => K v h
  | _ => False
theorem jG {v : Value} (h : yH [v] = true) : zV v = false := by
  simp only [yH] at h; cases hb : zV v with | true => rw [hb] at h; cases h | false => rfl
theorem Jc {v w : Value} (h : yH [v, w] = true) : zV v = false /\ zV w = false := by
  simp only [yH] at h; cases hb : zV v with | true => rw [hb] at h; cases h | false => rw [hb] at h; exact ⟨rfl, jG h⟩
theorem zfS {u v w : Value} (h : yH [u, v, w] = true) : zV u = false /\ zV v = false /\ zV w = false := by
  simp only [yH] at h; cases hb : zV u with | true => rw [hb] at h; cases h | false => rw [hb] at h; exact ⟨rfl, Jc h⟩
theorem zhs {l m : List Value} (h : yH (l ++ m) = true) : yH l = true /\ yH m = true := by
  induction l with
  | nil => exact ⟨rfl, h⟩
  | cons v l ih =>
    simp only [List.cons_append, yH] at h ⊢
    cases hb : zV v with
    | true => rw [hb] at h; cases h
    | false => rw [hb] at h; exact ih h
theorem kd {h : za} {x : Option Value} {v : Value} (e : x = some v) : one h x = some (v, h) := by rw [e]; rfl
theorem qE {v : Value} (h : zV v = true) : ∃ k a b, v = .complex k a b := by cases v <;> first | exact ⟨_, _, _, rfl⟩ | cases h
theorem zcv {r s : Env} (hl : Le r s) {x : Operand} {h : za} {K : Value -> za -> Prop} (hk : mv r x h K) : ∃ v u, aev s x = some u /\ (zV v = true \/ v = u) /\ K v h := by
  cases x with
  | tmp t => exact ⟨_, _, rfl, hl.get t, hk⟩
  | const v =>
    simp only [mv] at hk
    cases hf : flat v with
    | true => rw [hf] at hk; exact ⟨v, v, by simp only [aev, hf, cond_true], .inr rfl, hk⟩
    | false => rw [hf] at hk; exact hk.elim
  | global g => exact ⟨_, _, rfl, .inr rfl, hk⟩
  | func f => exact ⟨_, _, rfl, .inr rfl, hk⟩
theorem vg {r s : Env} (hl : Le r s) {o : Oper} {h : za} {K : Value -> za -> Prop} (hk : opA P r o h K) :
    ∃ v u h', aop P s o h = some (u, h') /\ (zV v = true \/ v = u) /\ K v h' := by
  have strict : ∀ (x : Operand) {α : Type} (F : Value -> Option α) {a : α}, (∀ k p q, F (.complex k p q) = none) -> F (ev r x) = some a -> aev s x = some (ev r x) := by
    intro x α F a hF e
    refine Yx hl ?_
    cases hb : zV (ev r x) with
    | false => rfl
    | true => obtain ⟨k, p, q, e2⟩ := qE hb; rw [e2, hF] at e; cases e
  unfold opA at hk
  unfold aop
  split at hk <;> rename_i hop <;> simp only [hop]
  . obtain ⟨v, u, e, hv, hk⟩ := zcv hl hk
    exact ⟨v, u, h, by rw [e]; rfl, hv, hk⟩
  . obtain ⟨v, u, e, hv, hk⟩ := zcv hl hk
    exact ⟨v, u, h, by rw [e]; rfl, hv, hk⟩
  . rename_i c a b
    obtain ⟨v, e, hk⟩ := wq hk
    have ec := strict c (fun x => pk x (ev r a) (ev r b)) (fun _ _ _ => rfl) e
    rw [ec]
    unfold pk at e
    split at e
    . rename_i hc
      obtain ⟨n, e⟩ := x0 e
      cases e
      rw [hc]; simp only [Yx hl (jG n)]
      exact ⟨_, _, h, rfl, .inr rfl, hk⟩
    . rename_i hc
      obtain ⟨n, e⟩ := x0 e
      cases e
      rw [hc]; simp only [Yx hl (jG n)]
      exact ⟨_, _, h, rfl, .inr rfl, hk⟩
    . cases e
  . obtain ⟨c, e, hk⟩ := wq hk
    obtain ⟨n, e⟩ := x0 e
    cases e
    simp only [Yx hl (jG n)]
    exact ⟨_, _, _, rfl, .inr rfl, hk⟩
  . obtain ⟨z, e, hk⟩ := wq hk
    rw [e]
    exact ⟨_, _, _, rfl, .inr rfl, hk⟩
  . obtain ⟨v, e, hk⟩ := wq hk
    obtain ⟨n, e⟩ := x0 e
    simp only [znK hl n]
    exact ⟨_, _, _, kd e, .inr rfl, hk⟩
  . obtain ⟨v, g, e, hk⟩ := vX hk
    obtain ⟨n, e⟩ := x0 e
    simp only [znK hl n]
    exact ⟨_, _, _, e, .inr rfl, hk⟩
  . obtain ⟨v, e, hk⟩ := wq hk
    rw [strict _ (fun x => zd P _ x h) (fun _ _ _ => rfl) e]
    exact ⟨_, _, _, kd e, .inr rfl, hk⟩
  . obtain ⟨v, e, hk⟩ := wq hk
    obtain ⟨n, e⟩ := x0 e
    rw [strict _ (fun x => zj P _ x _ h) (fun _ _ _ => rfl) e]
    simp only [Yx hl (jG n), e]
    exact ⟨_, _, _, rfl, .inr rfl, hk⟩
  . obtain ⟨v, e, hk⟩ := wq hk
    rw [strict _ nck (fun _ _ _ => rfl) e]
    unfold nck at e
    split at e
    . rename_i hc; cases e; rw [hc]; exact ⟨_, _, _, rfl, .inr rfl, hk⟩
    . rename_i hc; cases e; rw [hc]; exact ⟨_, _, _, rfl, .inr rfl, hk⟩
    . cases e
  . obtain ⟨v, e, hk⟩ := wq hk
    obtain ⟨n, e⟩ := x0 e
    simp only [Yx hl (Jc n).1, Yx hl (Jc n).2]
    exact ⟨_, _, _, kd e, .inr rfl, hk⟩
  . obtain ⟨v, e, hk⟩ := wq hk
    rw [strict _ (aun P _) (fun _ _ _ => rfl) e]
    obtain ⟨hf, e⟩ := zl e
    simp only [hf, cond_true]
    exact ⟨_, _, _, kd e, .inr rfl, hk⟩
  . obtain ⟨v, g, e, hk⟩ := vX hk
    obtain ⟨n, e⟩ := x0 e
    simp only [Yx hl (jG n)]
    exact ⟨_, _, _, e, .inr rfl, hk⟩
  . obtain ⟨v, e, hk⟩ := wq hk
    obtain ⟨n, e⟩ := x0 e
    simp only [Yx hl (jG n)]
    unfold zoE at e
    split at e
    . rename_i hm; cases e; rw [hm]; exact ⟨_, _, _, rfl, .inr rfl, hk⟩
    . cases e
  . obtain ⟨v, e, hk⟩ := wq hk
    obtain ⟨n, e⟩ := x0 e
    cases e
    obtain ⟨n1, n2⟩ := zhs n
    simp only [KZ hl n1, KZ hl n2]
    exact ⟨_, _, _, rfl, .inr rfl, hk⟩
  . rename_i t l c
    obtain ⟨v, g, e, hk⟩ := vX hk
    have e1 := strict l (fun x => ZQ P t x (ev r c) h) (fun _ _ _ => rfl) e
    have e2 := strict c (fun x => ZQ P t (ev r l) x h) (fun k p q => by unfold ZQ; split <;> first | rfl | (rename_i hh _; cases hh)) e
    simp only [e1, e2]
    exact ⟨_, _, _, e, .inr rfl, hk⟩
  . rename_i t x lo hi
    obtain ⟨v, e, hk⟩ := wq hk
    obtain ⟨n, e⟩ := x0 e
    obtain ⟨hb, e⟩ := zl e
    simp only [Bool.and_eq_true] at hb
    simp only [Yx hl (jG n), zoG hl hb.1, zoG hl hb.2]
    unfold asl at e
    split at e
    . rename_i str hs
      rw [hs]
      simp only [aop.flatSlice, e]
      exact ⟨_, _, _, rfl, .inr rfl, hk⟩
    . rename_i hs
      split
      . rename_i a b c str h1 h2 h3
        exact absurd (Option.some.inj h1) (fun q => hs _ q)
      . rename_i h1 h2 h3
        cases h1; cases h2; cases h3
        exact ⟨_, _, _, kd e, .inr rfl, hk⟩
      . rename_i h1 h2
        exact absurd rfl (h2 _ _ _ rfl rfl)
  . rename_i t x f
    obtain ⟨v, e, hk⟩ := wq hk
    rw [strict x (fun x => zb P t x f) (fun _ _ _ => rfl) e]
    exact ⟨_, _, _, kd e, .inr rfl, hk⟩
  . rename_i t x f
    obtain ⟨v, e, hk⟩ := wq hk
    rw [strict x (fun x => afv P t x f) (fun _ _ _ => rfl) e]
    unfold afv at e
    split at e
    . rename_i cs hc
      rw [hc]
      split at e
      . rename_i fields hu
        simp only [hu]
        split at e
        . rename_i fd hfd; simp only [hfd]; exact ⟨_, _, _, kd e, .inr rfl, hk⟩
        . cases e
      . cases e
    . cases e
  . rename_i t x i
    obtain ⟨v, e, hk⟩ := wq hk
    have e1 := strict x (fun x => zG P t x (ev r i)) (fun k p q => by unfold zG; split <;> (try rfl); split <;> first | rfl | (rename_i hh; cases hh)) e
    have e2 := strict i (fun y => zG P t (ev r x) y) (fun k p q => rfl) e
    simp only [e1, e2]
    exact ⟨_, _, _, kd e, .inr rfl, hk⟩
  . rename_i t x i
    obtain ⟨v, e, hk⟩ := wq hk
    have e1 := strict x (fun x => znB P t x (ev r i)) (fun k p q => rfl) e
    have e2 := strict i (fun y => znB P t (ev r x) y) (fun k p q => by unfold znB; cases flat (ev r x) <;> rfl) e
    obtain ⟨hf, e⟩ := zl e
    simp only [e1, e2, hf, cond_true]
    exact ⟨_, _, _, kd e, .inr rfl, hk⟩
  . rename_i x i
    obtain ⟨v, e, hk⟩ := wq hk
    rw [strict x (fun x => axt x i) (fun _ _ _ => rfl) e]
    unfold axt at e
    split at e
    . rename_i vs hc
      rw [hc]
      obtain ⟨n, e⟩ := x0 e
      exact ⟨_, _, _, kd e, .inr rfl, hk⟩
    . cases e
  . obtain ⟨v, g, e, hk⟩ := vX hk
    obtain ⟨n, e⟩ := x0 e
    simp only [KZ hl n]
    exact ⟨_, _, _, e, .inr rfl, hk⟩
  . exact ⟨_, _, _, rfl, .inr rfl, hk⟩
  . obtain ⟨v, e, hk⟩ := wq hk
    obtain ⟨n, e⟩ := x0 e
    simp only [Yx hl (Jc n).1, Yx hl (Jc n).2]
    exact ⟨_, _, _, kd e, .inr rfl, hk⟩
  . obtain ⟨v, e, hk⟩ := wq hk
    obtain ⟨n, e⟩ := x0 e
    simp only [Yx hl (zfS n).1, Yx hl (zfS n).2.1, Yx hl (zfS n).2.2, e]
    exact ⟨_, _, _, rfl, .inr rfl, hk⟩
  . obtain ⟨v, g, e, hk⟩ := vX hk
    obtain ⟨n, e⟩ := x0 e
    simp only [Yx hl (jG n)]
    exact ⟨_, _, _, e, .inr rfl, hk⟩
  . obtain ⟨v, g, e, hk⟩ := vX hk
    obtain ⟨n, e⟩ := x0 e
    simp only [Yx hl (jG n)]
    exact ⟨_, _, _, e, .inr rfl, hk⟩
  . obtain ⟨v, e, hk⟩ := wq hk
    obtain ⟨n, e⟩ := x0 e
    simp only [Yx hl (jG n)]
    exact ⟨_, _, _, kd e, .inr rfl, hk⟩
  . exact hk.elim
end
end Go.Ai
set_option linter.unusedVariables false
namespace Go.Ai
noncomputable section
variable {P : Program}
def zns (d : Option Nat) : Nat := match d with
  | some d => 1 <<< d
  | none => 0
def Xy : List Oper -> Nat
  | [] => 0
  | o :: os => zns o.dst ||| Xy os
def ZZ : Code -> Nat
  | .region _ ops _ => Xy ops.toList
  | .seq a b => ZZ a ||| ZZ b
  | .cond _ a b => ZZ a ||| ZZ b
  | .block _ a => ZZ a
  | .scope a => ZZ a
  | .loop a => ZZ a
  | _ => 0
def zol (x : Operand) : Nat := match x with
  | .tmp t => 1 <<< t
  | _ => 0
def zoz : List Operand -> Nat
  | [] => 0
  | x :: l => zol x ||| zoz l
def zow (d : Nat) : List Oper -> Nat
  | [] => 0
  | o :: os => (Nat.xor (zoz o.op.operands.toList ||| d) d) ||| zow (d ||| zns o.dst) os
def dfn : Code -> Nat
  | .region _ ops _ => Xy ops.toList
  | .seq a b => dfn a ||| dfn b
  | .cond _ a b => Nat.land (dfn a) (dfn b)
  | .scope a => dfn a
  | _ => 0
def see : Code -> Nat
  | .region _ ops _ => zow 0 ops.toList
  | .seq a b => see a ||| Nat.xor (see b ||| dfn a) (dfn a)
  | .cond x a b => zol x ||| see a ||| see b
  | .block _ a => see a
  | .scope a => see a
  | .loop a => see a
  | .rangeFunc f _ a b => zol f ||| see a ||| see b
  | _ => 0
def bits (m n : Nat) : List Nat := (List.range n).filter fun t => m.testBit t
theorem zi9 {m n t : Nat} : t ∈ bits m n ↔ t < n /\ m.testBit t = true := by simp [bits]
structure Fr (m : Nat) (s s1 : Env) : Prop where
  size : s1.size = s.size
  get : ∀ t, m.testBit t = false -> s1.get t = s.get t
  out : ∀ t, s.size <= t -> s1.get t = s.get t
theorem Fr.refl (m : Nat) (s : Env) : Fr m s s := ⟨rfl, fun _ _ => rfl, fun _ _ => rfl⟩
theorem Fr.trans {m : Nat} {a b c : Env} (h : Fr m a b) (k : Fr m b c) : Fr m a c :=
  ⟨k.size.trans h.size, fun t ht => (k.get t ht).trans (h.get t ht), fun t ht => (k.out t (by rw [h.size]; exact ht)).trans (h.out t ht)⟩
theorem Fr.left {m n : Nat} {a b : Env} (h : Fr m a b) : Fr (m ||| n) a b := ⟨h.size, fun t ht => h.get t (by rw [Nat.testBit_or] at ht; simp only [Bool.or_eq_false_iff] at ht; exact ht.1), h.out⟩
theorem Fr.right {m n : Nat} {a b : Env} (h : Fr n a b) : Fr (m ||| n) a b := ⟨h.size, fun t ht => h.get t (by rw [Nat.testBit_or] at ht; simp only [Bool.or_eq_false_iff] at ht; exact ht.2), h.out⟩
theorem Fr.put {s s1 : Env} {d : Option Nat} {v : Value} (h : s.put d v = some s1) : Fr (zns d) s s1 := by
  cases d with
  | none => simp only [Env.put, Option.some.injEq] at h; subst h; exact .refl _ _
  | some d =>
    simp only [Env.put] at h
    obtain ⟨hd, h⟩ := zl h
    simp only [Option.some.injEq] at h
    subst h
    have hd : d < s.size := by simpa [Nat.blt_eq] using hd
    refine ⟨rfl, fun t ht => ?_, fun t ht => ?_⟩
    . rw [Env.zP]
      simp only [zns, Nat.testBit_shiftLeft] at ht
      rw [if_neg (by intro e; subst e; simp at ht)]
    . rw [Env.zP, if_neg (by omega)]
def nth : List Value -> Nat -> Value
  | [], _ => bot
  | a :: _, 0 => a
  | _ :: l, n + 1 => nth l n
def Ya (lv : Nat) (s : Env) : List Nat -> List Value
  | [] => []
  | t :: ts => cond (lv.testBit t) (s.get t :: Ya lv s ts) (Ya lv s ts)
def Y5 (lv : Nat) (vs : List Value) : List Nat -> Nat -> Env -> Env
  | [], _, s => s
  | t :: ts, i, s => cond (lv.testBit t) (Y5 lv vs ts (i + 1) (s.set t (nth vs i))) (Y5 lv vs ts i (s.set t bot))
theorem VF {lv : Nat} {vs : List Value} {r1 s1 : Env} (h1 : Le r1 s1) : ∀ (ts : List Nat) (i : Nat) (r : Env), r.size = s1.size -> (∀ k, nth vs (i + k) = nth (Ya lv r1 ts) k) -> (∀ t, t ∈ ts \/ zV (r.get t) = true \/ r.get t = s1.get t) -> Le (Y5 lv vs ts i r) s1
  | [], i, r, hz, _, h => ⟨hz, fun t => by rcases h t with h | h; · cases h
                                           . exact h⟩
  | t :: ts, i, r, hz, hv, h => by
    simp only [Y5]
    cases hb : lv.testBit t with
    | true =>
      simp only [cond_true]
      have e0 : nth vs i = r1.get t := by have := hv 0; simp only [Ya, hb, cond_true] at this; exact this
      refine VF h1 ts (i + 1) _ hz (fun k => ?_) (fun t' => ?_)
      . have := hv (k + 1); simp only [Ya, hb, cond_true] at this
        rw [show i + 1 + k = i + (k + 1) by omega]; exact this
      . rw [Env.zP, e0]
        by_cases e : t' = t
        . subst e; rw [if_pos rfl]; exact .inr (h1.get t')
        . rw [if_neg e]
          rcases h t' with h2 | h2
          . rcases List.mem_cons.1 h2 with h3 | h3
            . exact absurd h3 e
            . exact .inl h3
          . exact .inr h2
    | false =>
      simp only [cond_false]
      refine VF h1 ts i _ hz (fun k => ?_) (fun t' => ?_)
      . have := hv k; simp only [Ya, hb, cond_false] at this; exact this
      . rw [Env.zP]
        by_cases e : t' = t
        . rw [if_pos e]; exact .inr (.inl rfl)
        . rw [if_neg e]
          rcases h t' with h2 | h2
          . rcases List.mem_cons.1 h2 with h3 | h3
            . exact absurd h3 e
            . exact .inl h3
          . exact .inr h2
theorem join_le {lv m : Nat} {r s r1 s1 : Env} (h : Le r s) (h1 : Le r1 s1) (f : Fr m s s1) : Le (Y5 lv (Ya lv r1 (bits m r.size)) (bits m r.size) 0 r) s1 := by
  refine VF h1 _ _ _ (h.size.trans f.size.symm) (fun k => by rw [Nat.zero_add]) (fun t => ?_)
  by_cases hm : m.testBit t = true
  . by_cases hz : t < r.size
    . exact .inl (zi9.2 ⟨hz, hm⟩)
    ·
      rcases h.get t with e | e
      . exact .inr (.inl e)
      . exact .inr (.inr (e.trans (f.out t (by rw [<- h.size]; omega)).symm))
  . simp only [Bool.not_eq_true] at hm
    rcases h.get t with e | e
    . exact .inr (.inl e)
    . exact .inr (.inr (e.trans (f.get t hm).symm))
def opW (P : Program) (s : Env) (o : Oper) (h : za) (K : Value -> za -> Prop) : Prop := match o.op with
  | .call { callee := .value f, args, argTypes } => zI P (ev s f) (evs s args.toList) h K
  | _ => opA P s o h K
def GD (g : Value) (want : Bool) (A : (Value -> za -> Prop) -> Prop) (K : Value -> za -> Prop) (h : za) : Prop := match g with
  | .bool b => (b = want -> A K) /\ (b ≠ want -> K undef h)
  | .complex _ _ _ => False
  | _ => K undef h
def wpO (P : Program) (ops : Array Oper) : List Oper -> Env -> za -> (Env -> za -> Prop) -> Prop
  | [], s, h, K => K s h
  | o :: os, s, h, K => (match o.guard with
    | none => opW P s o h fun v h1 => (match s.put o.dst v with
      | some s1 => wpO P ops os s1 h1 K
      | none => False)
    | some (j, want) => (match (ops[j]?).bind (·.dst) with
      | none => False
      | some d => GD (s.get d) want (opW P s o h) (fun v h1 => (match s.put o.dst v with
        | some s1 => wpO P ops os s1 h1 K
        | none => False)) h))
theorem WF'.af {h h' : za} (w : WF' h) (a : AF h h') : WF' h' :=
  ⟨fun b o hb => by
    rcases a.alive b o hb with e | e
    . cases hh : h.get b with
      | none => exact absurd hh e
      | some o' => exact Nat.lt_of_lt_of_le (w.1 b o' hh) a.next
    . exact e.2, by rw [a.ro]; exact Nat.le_trans w.2 a.next⟩
theorem zis {ops : Array Oper} {r s : Env} {h : za} {o : Oper} {f : Operand} {args : Array Operand} {ts : Array TypeId} {K : Value -> za -> Prop}
    (hw : zZ ops s o = true) (hl : Le r s) (wf : WF' h) (hop : o.op = .call { callee := .value f, args := args, argTypes := ts }) (hk : zI P (ev r f) (evs r args.toList) h K) :
    ∃ v h1, K v h1 /\ AF h h1 /\ ∀ (i : Nat) (rest : List Nat) (s1 : Env) (Q : Env -> za -> Prop), ops[i]? = some o -> s.put o.dst v = some s1 -> TO P ops rest s1 h1 Q -> TO P ops (i :: rest) s h Q := by
  unfold zI at hk
  split at hk
  . rename_i g a c hf
    have ef : aev s f = some (.func (.func g) a c) := by rw [Yx hl (x := f) (by rw [hf]; rfl), hf]
    obtain ⟨hn0, hn, hk⟩ := hk
    have ea := KZ hl hn0
    rcases hk with ⟨hc, hd⟩ | hk
    . obtain ⟨v, h1, hK, af, hT⟩ := hd wf
      exact ⟨v, h1, hK, af, fun i rest s1 Q ho hp ht => zhD ho hw hop ef ea hc hT (by rintro v2 h2 ⟨rfl, rfl⟩; exact ⟨s1, hp, ht⟩)⟩
    . obtain ⟨v, g', e, hk⟩ := vX hk
      exact ⟨v, g', hk, (uQ e).af, fun i rest s1 Q ho hp ht => zlY ho hw (by rw [hop]; rfl) (fun ρ w a hr hs => zbD hop ef ea e hr hs) hp ht⟩
  . rename_i L a c hf
    obtain ⟨ha, hc, hn, hk⟩ := hk
    obtain ⟨v, h1, hK, af, hT⟩ := hk wf
    subst ha hc
    have ef : aev s f = some (.func (.yield L) #[] #[]) := by rw [Yx hl (x := f) (by rw [hf]; rfl), hf]
    exact ⟨v, h1, hK, af, fun i rest s1 Q ho hp ht => zdt ho hw hop ef (KZ hl hn) hT (by rintro v2 h2 ⟨rfl, rfl⟩; exact ⟨s1, hp, ht⟩)⟩
  . exact hk.elim
theorem znk {ops : Array Oper} {r s : Env} {h : za} {o : Oper} {K : Value -> za -> Prop} (hw : zZ ops s o = true) (hl : Le r s) (wf : WF' h) (hk : opW P r o h K) :
    ∃ v u h1, K v h1 /\ (zV v = true \/ v = u) /\ AF h h1 /\ ∀ (i : Nat) (rest : List Nat) (s1 : Env) (Q : Env -> za -> Prop), ops[i]? = some o -> s.put o.dst u = some s1 -> TO P ops rest s1 h1 Q -> TO P ops (i :: rest) s h Q := by
  unfold opW at hk
  split at hk
  . rename_i f args ts hop
    obtain ⟨v, h1, hK, af, go⟩ := zis (ops := ops) hw hl wf hop hk
    exact ⟨v, v, h1, hK, .inr rfl, af, go⟩
  . obtain ⟨v, u, h', e, hv, hk⟩ := vg hl hk
    exact ⟨v, u, h', hk, hv, (uu e).1, fun i rest s1 Q ho hp ht => zmu ho hw e hp ht⟩
theorem Ji {ops : Array Oper} : ∀ (l : List Oper) (i : Nat) {r s : Env} {h : za} {K : Env -> za -> Prop}, ops.toList.drop i = l -> Le r s -> WF' h -> wpO P ops l r h K ->
    ∃ r' s' h', Le r' s' /\ K r' h' /\ Fr (Xy l) s s' /\ AF h h' /\ TO P ops (List.range' i l.length) s h (fun s1 h1 => s1 = s' /\ h1 = h')
  | [], i, r, s, h, K, _, hl, wf, hk => ⟨r, s, h, hl, hk, .refl _ _, .refl _, zjr ⟨rfl, rfl⟩⟩
  | o :: os, i, r, s, h, K, hd, hl, wf, hk => by
    have ho : ops[i]? = some o := by
      have := congrArg (fun l => l[0]?) hd
      simp only [List.getElem?_drop, List.getElem?_cons_zero] at this
      simpa using this
    have hd' : ops.toList.drop (i + 1) = os := by rw [<- List.tail_drop, hd]; rfl
    rw [List.length_cons, List.range'_succ]
    have next : ∀ v u h1, AF h h1 -> (match r.put o.dst v with | some s1 => wpO P ops os s1 h1 K | none => False) -> (zV v = true \/ v = u) -> ∃ s1 r' s' h', s.put o.dst u = some s1 /\ Le r' s' /\ K r' h' /\ Fr (Xy (o :: os)) s s' /\ AF h h' /\
        TO P ops (List.range' (i + 1) os.length) s1 h1 (fun s1 h1 => s1 = s' /\ h1 = h') := by
      intro v u h1 af hk hv
      split at hk
      . rename_i r1 hp
        obtain ⟨s1, hp1, hl1⟩ := hl.put hp hv
        obtain ⟨r', s', h', l', k', f', a', t'⟩ := Ji os (i + 1) hd' hl1 (wf.af af) hk
        exact ⟨s1, r', s', h', hp1, l', k', (Fr.put hp1).left.trans f'.right, af.trans a', t'⟩
      . exact hk.elim
    have run : zZ ops s o = true -> opW P r o h (fun v h1 => match r.put o.dst v with | some s1 => wpO P ops os s1 h1 K | none => False) ->
        ∃ r' s' h', Le r' s' /\ K r' h' /\ Fr (Xy (o :: os)) s s' /\ AF h h' /\ TO P ops (i :: List.range' (i + 1) os.length) s h (fun s1 h1 => s1 = s' /\ h1 = h') := by
      intro hw hk
      obtain ⟨v, u, h1, hK, hv, af, go⟩ := znk (ops := ops) hw hl wf hk
      obtain ⟨s1, r', s', h', hp, l', k', f', a', t'⟩ := next v u h1 af hK hv
      exact ⟨r', s', h', l', k', f', a', go i _ s1 _ ho hp t'⟩
    have skip : zZ ops s o = false -> (match r.put o.dst undef with | some s1 => wpO P ops os s1 h K | none => False) ->
        ∃ r' s' h', Le r' s' /\ K r' h' /\ Fr (Xy (o :: os)) s s' /\ AF h h' /\ TO P ops (i :: List.range' (i + 1) os.length) s h (fun s1 h1 => s1 = s' /\ h1 = h') := by
      intro hw hk
      obtain ⟨s1, r', s', h', hp, l', k', f', a', t'⟩ := next undef undef h (.refl _) hk (.inr rfl)
      exact ⟨r', s', h', l', k', f', a', zfs ho hw hp t'⟩
    simp only [wpO] at hk
    split at hk
    . rename_i hg
      exact run (by simp only [zZ, hg]) hk
    . rename_i j want hg
      split at hk
      . exact hk.elim
      . rename_i d hdst
        unfold GD at hk
        split at hk
        . rename_i b hb
          have hs : s.get d = .bool b := by
            rcases hl.get d with e | e
            . rw [hb] at e; cases e
            . rw [<- e, hb]
          have haw : zZ ops s o = (b == want) := by simp only [zZ, hg, hdst, hs]
          by_cases hbw : b = want
          . exact run (by rw [haw, hbw]; simp) (hk.1 hbw)
          . exact skip (by rw [haw]; simpa using hbw) (hk.2 hbw)
        . exact hk.elim
        . rename_i n1 n2
          have hs : s.get d = r.get d := by
            rcases hl.get d with e | e
            . obtain ⟨k, p, q, e2⟩ := qE e; exact absurd e2 (n2 k p q)
            . exact e.symm
          have haw : zZ ops s o = false := by
            simp only [zZ, hg, hdst, hs]
          exact skip haw hk
structure Ks where
  nrm : Env -> za -> Prop
  ret : Env -> za -> Prop
  ext : Nat -> Env -> za -> Prop
def Ks.on (K : Ks) : Ex -> Env -> za -> Prop
  | .normal => K.nrm
  | .ret => K.ret
  | .exit id => K.ext id
def Ks.with (K : Ks) (n : Env -> za -> Prop) : Ks := ⟨n, K.ret, K.ext⟩
def CD (g : Value) (A B : (List Value -> za -> Prop) -> Prop) (J : List Value -> za -> Prop) : Prop := match g with
  | .bool true => A J
  | .bool false => B J
  | _ => False
def BK (A : (List Value -> za -> Prop) -> Prop) (J : List Value -> za -> Prop) : Prop := A J
def LP (step : List Value -> za -> (List Value -> za -> Prop) -> Prop) (vs : List Value) (h : za) : Prop :=
  ∃ (I : Nat -> List Value -> za -> Prop) (n : Nat), I n vs h /\ ∀ n vs h, I n vs h -> step vs h (fun vs' h' => ∃ m, m < n /\ I m vs' h')
def znj : Unit := (fun (_ : Prop) => ()) (∀ (P : Program) (ops : Array Oper) (l : List Oper) (s : Env) (h : za) (K : Env -> za -> Prop) (A B : (List Value -> za -> Prop) -> Prop) (J : List Value -> za -> Prop) (g : Value) (st : List Value -> za -> (List Value -> za -> Prop) -> Prop) (vs : List Value), wpO P ops l s h K /\ CD g A B J /\ BK A J /\ LP st vs h)
def sel (b : Bool) (x y : Prop) : Prop := Function.const Unit (cond b x y) znj
abbrev Wps := Nat -> Code -> Env -> za -> Ks -> Prop
def wpB (P : Program) (D : Array Oper -> Env -> za -> (Env -> za -> Prop) -> Prop) (rec : Wps) : Wps := fun lv c s h K => match c with
  | .skip => K.nrm s h
  | .label _ => K.nrm s h
  | .exit id => K.ext id s h
  | .ret => K.ret s h
  | .seq a b => rec (lv ||| see b) a s h (K.with fun s1 h1 => rec lv b s1 h1 K)
  | .cond x a b => CD (ev s x) (fun j => rec lv a s h (K.with fun s1 h1 => j (Ya lv s1 (bits (ZZ a ||| ZZ b) s.size)) h1)) (fun j => rec lv b s h (K.with fun s1 h1 => j (Ya lv s1 (bits (ZZ a ||| ZZ b) s.size)) h1))
      (fun vs h1 => K.nrm (Y5 lv vs (bits (ZZ a ||| ZZ b) s.size) 0 s) h1)
  | .block id a => BK (fun j => rec lv a s h ⟨fun s1 h1 => j (Ya lv s1 (bits (ZZ a) s.size)) h1, K.ret, fun i s1 h1 => cond (Nat.beq i id) (j (Ya lv s1 (bits (ZZ a) s.size)) h1) (K.ext i s1 h1)⟩)
      (fun vs h1 => K.nrm (Y5 lv vs (bits (ZZ a) s.size) 0 s) h1)
  | .scope a => rec lv a s h K
  | .loop a => LP (fun vs h1 j => rec (lv ||| see a) a (Y5 (lv ||| see a) vs (bits (ZZ a) s.size) 0 s) h1 (K.with fun s1 h2 => j (Ya (lv ||| see a) s1 (bits (ZZ a) s.size)) h2))
      (Ya (lv ||| see a) s (bits (ZZ a) s.size)) h
  | .region _ ops draw => sel draw (D ops s h K.nrm) (wpO P ops ops.toList s h K.nrm)
  | _ => False
def wp (P : Program) (D : Array Oper -> Env -> za -> (Env -> za -> Prop) -> Prop) (n : Nat) : Wps := Nat.rec (fun _ _ _ _ _ => False) (fun _ rec => wpB P D rec) n
def Z1 (P : Program) (D : Array Oper -> Env -> za -> (Env -> za -> Prop) -> Prop) : Prop :=
  ∀ ops r s h K rd id, Le r s -> WF' h -> D ops r h K -> ∃ r' s' h', Le r' s' /\ K r' h' /\ Fr (Xy ops.toList) s s' /\ AF h h' /\ T P rd (.region id ops true) s h (fun e s1 h1 => e = .normal /\ s1 = s' /\ h1 = h')
def Good (P : Program) (rd : Option Nat) (rec : Wps) : Prop := ∀ lv c r s h K, Le r s -> WF' h -> rec lv c r h K -> ∃ e r' s' h', Le r' s' /\ K.on e r' h' /\ Fr (ZZ c) s s' /\ AF h h' /\ T P rd c s h (fun e1 s1 h1 => e1 = e /\ s1 = s' /\ h1 = h')
theorem zcr {D : Array Oper -> Env -> za -> (Env -> za -> Prop) -> Prop} (hD : Z1 P D) {rd : Option Nat} {rec : Wps} (G : Good P rd rec) : Good P rd (wpB P D rec) := by
  intro lv c r s h K hl wf hk
  cases c with
  | skip => exact ⟨.normal, r, s, h, hl, hk, .refl _ _, .refl _, zjH ⟨rfl, rfl, rfl⟩⟩
  | label l => exact ⟨.normal, r, s, h, hl, hk, .refl _ _, .refl _, zgR ⟨rfl, rfl, rfl⟩⟩
  | exit id => exact ⟨.exit id, r, s, h, hl, hk, .refl _ _, .refl _, zjz ⟨rfl, rfl, rfl⟩⟩
  | ret => exact ⟨.ret, r, s, h, hl, hk, .refl _ _, .refl _, zmf ⟨rfl, rfl, rfl⟩⟩
  | seq a b =>
    obtain ⟨e, r1, s1, h1, l1, k1, f1, a1, t1⟩ := G _ _ _ _ _ _ hl wf hk
    cases e with
    | normal =>
      obtain ⟨e2, r2, s2, h2, l2, k2, f2, a2, t2⟩ := G _ _ _ _ _ _ l1 (wf.af a1) k1
      refine ⟨e2, r2, s2, h2, l2, k2, f1.left.trans f2.right, a1.trans a2, ziB (t1.mono ?_)⟩
      rintro e s3 h3 ⟨rfl, rfl, rfl⟩
      exact t2
    | ret =>
      refine ⟨.ret, r1, s1, h1, l1, k1, f1.left, a1, ziB (t1.mono ?_)⟩
      rintro e s3 h3 ⟨rfl, rfl, rfl⟩
      exact ⟨rfl, rfl, rfl⟩
    | exit id =>
      refine ⟨.exit id, r1, s1, h1, l1, k1, f1.left, a1, ziB (t1.mono ?_)⟩
      rintro e s3 h3 ⟨rfl, rfl, rfl⟩
      exact ⟨rfl, rfl, rfl⟩
  | cond x a b =>
    have fin : ∀ (c : Code), (∀ s s1, Fr (ZZ c) s s1 -> Fr (ZZ a ||| ZZ b) s s1) -> rec lv c r h (K.with fun s1 h1 => (fun vs h1 => K.nrm (Y5 lv vs (bits (ZZ a ||| ZZ b) r.size) 0 r) h1) (Ya lv s1 (bits (ZZ a ||| ZZ b) r.size)) h1) ->
        ∃ e r' s' h', Le r' s' /\ K.on e r' h' /\ Fr (ZZ a ||| ZZ b) s s' /\ AF h h' /\ T P rd c s h (fun e1 s1 h1 => e1 = e /\ s1 = s' /\ h1 = h') := by
      intro c hf hk
      obtain ⟨e, r1, s1, h1, l1, k1, f1, a1, t1⟩ := G _ _ _ _ _ _ hl wf hk
      have f2 := hf _ _ f1
      cases e with
      | normal => exact ⟨.normal, _, s1, h1, join_le hl l1 f2, k1, f2, a1, t1⟩
      | ret => exact ⟨.ret, r1, s1, h1, l1, k1, f2, a1, t1⟩
      | exit id => exact ⟨.exit id, r1, s1, h1, l1, k1, f2, a1, t1⟩
    unfold wpB at hk
    dsimp only at hk
    unfold CD at hk
    split at hk
    . rename_i hx
      obtain ⟨e, r', s', h', q1, q2, q3, q4, t⟩ := fin a (fun _ _ f => f.left) hk
      exact ⟨e, r', s', h', q1, q2, q3, q4, zcB (t := true) (by rw [Yx hl (x := x) (by rw [hx]; rfl), hx]) t⟩
    . rename_i hx
      obtain ⟨e, r', s', h', q1, q2, q3, q4, t⟩ := fin b (fun _ _ f => f.right) hk
      exact ⟨e, r', s', h', q1, q2, q3, q4, zcB (t := false) (by rw [Yx hl (x := x) (by rw [hx]; rfl), hx]) t⟩
    . exact hk.elim
  | block id a =>
    have hk : rec lv a r h _ := hk
    obtain ⟨e, r1, s1, h1, l1, k1, f1, a1, t1⟩ := G _ _ _ _ _ _ hl wf hk
    cases e with
    | normal =>
      refine ⟨.normal, _, s1, h1, join_le hl l1 f1, k1, f1, a1, Uf (t1.mono ?_)⟩
      rintro e s3 h3 ⟨rfl, rfl, rfl⟩
      rw [if_neg (by simp)]; exact ⟨rfl, rfl, rfl⟩
    | ret =>
      refine ⟨.ret, r1, s1, h1, l1, k1, f1, a1, Uf (t1.mono ?_)⟩
      rintro e s3 h3 ⟨rfl, rfl, rfl⟩
      rw [if_neg (by simp)]; exact ⟨rfl, rfl, rfl⟩
    | exit i =>
      simp only [Ks.on] at k1
      by_cases hi : i = id
      . subst hi
        rw [show Nat.beq i i = true from Nat.beq_refl i] at k1
        refine ⟨.normal, _, s1, h1, join_le hl l1 f1, k1, f1, a1, Uf (t1.mono ?_)⟩
        rintro e s3 h3 ⟨rfl, rfl, rfl⟩
        rw [if_pos rfl]; exact ⟨rfl, rfl, rfl⟩
      . rw [Tr.beq_false hi] at k1
        refine ⟨.exit i, r1, s1, h1, l1, k1, f1, a1, Uf (t1.mono ?_)⟩
        rintro e s3 h3 ⟨rfl, rfl, rfl⟩
        rw [if_neg (by simpa using hi)]; exact ⟨rfl, rfl, rfl⟩
  | scope a =>
    obtain ⟨e, r1, s1, h1, l1, k1, f1, a1, t1⟩ := G _ _ _ _ _ _ hl wf hk
    exact ⟨e, r1, s1, h1, l1, k1, f1, a1, zhH t1⟩
  | loop a =>
    unfold wpB at hk
    dsimp only at hk
    obtain ⟨I, n, h0, hI⟩ := hk
    have key : ∀ n r1 s1 h1, Le r1 s1 -> WF' h1 -> Fr (ZZ a) s s1 -> I n (Ya (lv ||| see a) r1 (bits (ZZ a) r.size)) h1 ->
        ∃ e r' s' h', Le r' s' /\ K.on e r' h' /\ Fr (ZZ a) s s' /\ AF h1 h' /\ T P rd (.loop a) s1 h1 (fun e1 s2 h2 => e1 = e /\ s2 = s' /\ h2 = h') := by
      intro n
      induction n using Nat.strongRecOn with
      | _ n ih =>
        intro r1 s1 h1 l1 wf1 f1 hn
        have hstep := hI n _ h1 hn
        obtain ⟨e, r2, s2, h2, l2, k2, f2, a2, t2⟩ := G _ _ _ _ _ _ (join_le hl l1 f1) wf1 hstep
        cases e with
        | normal =>
          obtain ⟨m, hm, k2⟩ := k2
          obtain ⟨e3, r3, s3, h3, l3, k3, f3, a3, t3⟩ := ih m hm r2 s2 h2 l2 (wf1.af a2) (f1.trans f2) k2
          refine ⟨e3, r3, s3, h3, l3, k3, f3, a2.trans a3, kY (t2.mono ?_)⟩
          rintro e s4 h4 ⟨rfl, rfl, rfl⟩
          exact t3
        | ret =>
          refine ⟨.ret, r2, s2, h2, l2, k2, f1.trans f2, a2, kY (t2.mono ?_)⟩
          rintro e s4 h4 ⟨rfl, rfl, rfl⟩
          exact ⟨rfl, rfl, rfl⟩
        | exit i =>
          refine ⟨.exit i, r2, s2, h2, l2, k2, f1.trans f2, a2, kY (t2.mono ?_)⟩
          rintro e s4 h4 ⟨rfl, rfl, rfl⟩
          exact ⟨rfl, rfl, rfl⟩
    exact key n r s h hl wf (.refl _ _) h0
  | region id ops draw =>
    cases draw with
    | true =>
      obtain ⟨r', s', h', q1, q2, q3, q4, t⟩ := hD ops r s h K.nrm rd id hl wf hk
      exact ⟨.normal, r', s', h', q1, q2, q3, q4, t⟩
    | false =>
      have hk : wpO P ops ops.toList r h K.nrm := hk
      obtain ⟨r', s', h', q1, q2, q3, q4, t⟩ := Ji ops.toList 0 (List.drop_zero) hl wf hk
      refine ⟨.normal, r', s', h', q1, q2, q3, q4, zcl ?_⟩
      rw [List.range_eq_range']
      rw [Array.length_toList] at t
      exact (fun ρ w tm ds hr hs b k cs => by
        obtain ⟨s1, h1, ρ1, w1, tm1, ⟨e1, e2⟩, rest⟩ := t ρ w tm ds hr hs b k cs
        exact ⟨s1, h1, ρ1, w1, tm1, ⟨rfl, e1, e2⟩, rest⟩)
  | _ => exact hk.elim
theorem zbF {D : Array Oper -> Env -> za -> (Env -> za -> Prop) -> Prop} (hD : Z1 P D) {rd : Option Nat} : ∀ n, Good P rd (wp P D n)
  | 0 => fun _ _ _ _ _ _ _ _ hk => hk.elim
  | n + 1 => zcr hD (zbF hD n)
def RK (nrm ret : za -> Prop) (ext : Nat -> za -> Prop) (e : Ex) (h : za) : Prop := match e with
  | .normal => nrm h
  | .ret => ret h
  | .exit i => ext i h
def RF (P : Program) (f : Value) (params : Array Tmp) (as bd : Code) (s : Env) (h : za) (nrm ret : za -> Prop) (ext : Nat -> za -> Prop) : Prop := match f with
  | .func (.func g) a c => yT P g = true /\ ∀ s1, Le s s1 -> DC P g (a.toList ++ [.func (.yield h.next) #[] #[]] ++ c.toList) (h.push (.loop { state := .ready, pending := none, s := s1, params := params, assign := as, body := bd }))
      (fun _ h1 => ∃ A, h1.get h.next = some (.loop A) /\ (A.state == .busy) = false /\ h1.ro <= h.next /\ ∃ e, kA e = A.pending /\ RK nrm ret ext e (h1.set h.next none))
  | _ => False
def zo5 (P : Program) (D : Array Oper -> Env -> za -> (Env -> za -> Prop) -> Prop) (rec : Wps) : Wps := fun lv c s h K => match c with
  | .rangeFunc f params as bd => RF P (ev s f) params as bd s h (fun h1 => K.nrm s h1) (fun h1 => K.ret s h1) (fun i h1 => K.ext i s h1)
  | c => wpB P D rec lv c s h K
def wp0 (P : Program) (D : Array Oper -> Env -> za -> (Env -> za -> Prop) -> Prop) (n : Nat) : Wps := Nat.rec (fun _ _ _ _ _ => False) (fun _ rec => zo5 P D rec) n
theorem zcP {h : za} (w : WF' h) (o : wB) : WF' (h.push o) := ⟨fun b x hb => by
  rw [za.y6] at hb
  show b < h.next + 1
  split at hb
  . rename_i e; omega
  . have := w.1 b x hb; omega, Nat.le_succ_of_le w.2⟩
theorem zjk {f : Operand} {params : Array Tmp} {as bd : Code} {r s : Env} {h : za} {nrm ret : za -> Prop} {ext : Nat -> za -> Prop} (hl : Le r s) (wf : WF' h) (hk : RF P (ev r f) params as bd r h nrm ret ext) :
    ∃ e h', RK nrm ret ext e h' /\ AF h h' /\ T P none (.rangeFunc f params as bd) s h (fun e1 s1 h1 => e1 = e /\ s1 = s /\ h1 = h') := by
  unfold RF at hk
  split at hk
  case h_2 => exact hk.elim
  rename_i g a c hf
  obtain ⟨hc, hd⟩ := hk
  obtain ⟨v, h1, ⟨A, gA, bA, ro, e, je, kk⟩, af, t⟩ := hd s hl (zcP wf _)
  have ef : aev s f = some (.func (.func g) a c) := by rw [Yx hl (x := f) (by rw [hf]; rfl), hf]
  refine ⟨e, h1.set h.next none, kk, ⟨?_, af.ro, fun b o hb => ?_⟩, W8 ef hc (fun L q => by cases q) (t.mono ?_)⟩
  . have := af.next
    show h.next <= h1.next
    have e1 : (h.push (.loop { state := .ready, pending := none, s := s, params := params, assign := as, body := bd })).next = h.next + 1 := rfl
    omega
  . rw [za.zP] at hb
    split at hb
    . cases hb
    . rename_i hne
      rcases af.alive b o hb with q | q
      . rw [za.y6, if_neg hne] at q
        exact .inl q
      . have e1 : (h.push (.loop { state := .ready, pending := none, s := s, params := params, assign := as, body := bd })).next = h.next + 1 := rfl
        refine .inr ⟨by omega, ?_⟩
        exact q.2
  . rintro v1 h2 ⟨_, rfl⟩
    exact ⟨A, gA, bA, ro, e, je, rfl, rfl, rfl⟩
theorem zc4 {D : Array Oper -> Env -> za -> (Env -> za -> Prop) -> Prop} (hD : Z1 P D) : ∀ n, Good P none (wp0 P D n)
  | 0 => fun _ _ _ _ _ _ _ _ hk => hk.elim
  | n + 1 => fun lv c r s h K hl wf hk => by
    have key : wpB P D (wp0 P D n) lv c r h K -> _ := fun q => zcr hD (zc4 hD n) lv c r s h K hl wf q
    cases c with
    | rangeFunc f params as bd =>
      obtain ⟨e, h', kk, af, t⟩ := zjk hl wf hk
      exact ⟨e, r, s, h', hl, by cases e <;> exact kk, .refl _ _, af, t⟩
    | _ => exact key hk
def rv (vs : List Value) (h : za) (R : Value -> za -> Prop) : Prop := yH vs = true /\ R (ux vs) h
def zmd (P : Program) : List ResultVar -> Env -> za -> (List Value -> Prop) -> Prop
  | [], s, h, K => K []
  | .tmp t :: rs, s, h, K => zmd P rs s h fun vs => K (s.get t :: vs)
  | .cell a t :: rs, s, h, K => opt (zd P t (s.get a) h) fun v => zmd P rs s h fun vs => K (v :: vs)
def znM : List ResultVar -> Nat
  | [] => 0
  | .tmp t :: rs => (1 <<< t) ||| znM rs
  | .cell a _ :: rs => (1 <<< a) ||| znM rs
def wpF (P : Program) (D : Array Oper -> Env -> za -> (Env -> za -> Prop) -> Prop) (n : Nat) (f : FuncId) (args : List Value) (h : za) (R : Value -> za -> Prop) : Prop :=
  match P.funcs[f]? with
  | some fn => (match fn.body with
    | some c => wp0 P D n (znM fn.results.toList) c (Env.enter args fn.ntmps) h ⟨fun s h => zmd P fn.results.toList s h fun vs => rv vs h R, fun s h => zmd P fn.results.toList s h fun vs => rv vs h R, fun _ _ _ => False⟩
    | none => False)
  | none => False
theorem Zt {r s : Env} {h : za} (hl : Le r s) : ∀ {rs : List ResultVar} {K : List Value -> Prop}, zmd P rs r h K -> (∀ vs, K vs -> yH vs = true) -> ∃ vs, wj P s h rs = some vs /\ K vs
  | [], K, hk, _ => ⟨[], rfl, hk⟩
  | .tmp t :: rs, K, hk, hn => by
    obtain ⟨vs, e, q⟩ := Zt hl (rs := rs) hk (fun vs q => by
      have := hn _ q
      simp only [yH] at this
      cases hb : zV (r.get t) with
      | true => rw [hb] at this; cases this
      | false => rw [hb] at this; exact this)
    have hb : zV (r.get t) = false := by
      have := hn _ q
      simp only [yH] at this
      cases hb : zV (r.get t) with
      | true => rw [hb] at this; cases this
      | false => rfl
    have et : r.get t = s.get t := by
      rcases hl.get t with e | e
      . rw [e] at hb; cases hb
      . exact e
    exact ⟨_, by simp only [wj, e, <- et], q⟩
  | .cell a t :: rs, K, hk, hn => by
    obtain ⟨v, ev, hk⟩ := wq hk
    have et : r.get a = s.get a := by
      rcases hl.get a with e | e
      . obtain ⟨k, p, q, e2⟩ := qE e; rw [e2] at ev; cases ev
      . exact e
    obtain ⟨vs, e, q⟩ := Zt hl (rs := rs) hk (fun vs q => by
      have := hn _ q
      simp only [yH] at this
      cases hb : zV v with
      | true => rw [hb] at this; cases this
      | false => rw [hb] at this; exact this)
    exact ⟨_, by simp only [wj, <- et, ev, e], q⟩
theorem Ui {D : Array Oper -> Env -> za -> (Env -> za -> Prop) -> Prop} (hD : Z1 P D) {n : Nat} {f : FuncId} {args : List Value} {h : za} {R : Value -> za -> Prop} (hk : wpF P D n f args h R) : DC P f args h R := by
  intro wf
  unfold wpF at hk
  split at hk
  case h_2 => exact hk.elim
  rename_i fn hf
  split at hk
  case h_2 => exact hk.elim
  rename_i c hb
  obtain ⟨e, r1, s1, h1, l1, k1, _, a1, t1⟩ := zc4 hD n _ _ _ _ _ _ (.refl _) wf hk
  have fin : ∀ {e : Ex}, (e = .normal \/ e = .ret) -> (∃ vs, wj P s1 h1 fn.results.toList = some vs /\ yH vs = true /\ R (ux vs) h1) -> T P none c (Env.enter args fn.ntmps) h (fun e1 s2 h2 => e1 = e /\ s2 = s1 /\ h2 = h1) ->
      ∃ v h1, R v h1 /\ AF h h1 /\ TC P f args h (fun v' h' => v' = v /\ h' = h1) := by
    rintro e he ⟨vs, e1, _, q⟩ t
    refine ⟨_, h1, q, a1, zhk hf hb (t.mono ?_)⟩
    rintro e s2 h2 ⟨rfl, rfl, rfl⟩
    exact ⟨he, vs, e1, rfl, rfl⟩
  cases e with
  | normal =>
    obtain ⟨vs, e, q⟩ := Zt l1 k1 (fun vs q => q.1)
    exact fin (.inl rfl) ⟨vs, e, q⟩ t1
  | ret =>
    obtain ⟨vs, e, q⟩ := Zt l1 k1 (fun vs q => q.1)
    exact fin (.inr rfl) ⟨vs, e, q⟩ t1
  | exit id => exact k1.elim
end
end Go.Ai
set_option linter.unusedVariables false
namespace Go.Ai
noncomputable section
variable {P : Program}
def Kk : Nat -> Nat
  | 2 => 1
  | 3 => 2
  | 4 => 2
  | _ => 3
def y4 (q : FuncId -> Nat) (o : Oper) : Nat := match o.op with
  | .call { callee := .value (.func g), .. } => Kk (q g)
  | .call { callee := .value _, .. } => 3
  | .call { callee := .builtin b, .. } => cond (jl b) 1 3
  | .move _ | .assign _ | .pick _ _ _ | .build _ _ | .nilCheck _ | .binOp _ _ _ _ _ | .unOp _ _ _ | .makeInterface _ _ | .makeFunc _ _ _ | .fieldAddr _ _ _ | .field _ _ _ | .indexAddr _ _ _ | .index _ _ _ | .extract _ _ => 0
  | .load _ _ | .lookup _ _ _ _ | .slice _ _ _ _ _ | .entry _ => 1
  | .box _ _ | .alloc _ | .buildSlice _ _ _ | .makeSlice _ _ _ | .makeMap _ _ | .convert _ _ _ | .range _ _ => 2
  | _ => 3
def zgH (x y : Nat) : Bool := Nat.beq x 0 || Nat.beq y 0 || (Nat.beq x 1 && Nat.ble y 2) || (Nat.beq x 2 && Nat.beq y 1)
def zcj (q : FuncId -> Nat) : List Oper -> Nat -> List Nat -> List (Nat × Nat) -> Bool
  | [], _, _, _ => true
  | o :: os, i, ms, prev => (prev.all fun x => (yq ms o).testBit x.1 || zgH x.2 (y4 q o)) && zcj q os (i + 1) (ms ++ [yq ms o]) ((i, y4 q o) :: prev)
def calm (q : FuncId -> Nat) (ops : Array Oper) : Bool := qF ops ops.toList 0 [] [] && zcj q ops.toList 0 [] []
def trim (h : za) (n : Nat) : za := h.UU (List.range' n (h.next - n))
theorem zik (h : za) (n b : Nat) : (trim h n).get b = if n <= b /\ b < h.next then none else h.get b := by
  unfold trim; rw [uc]; simp only [vG]
def firstFree (m : Nat) : List (Nat × Nat) -> Option Nat
  | [] => none
  | (p, n) :: l => cond (m.testBit p) (firstFree m l) (some n)
def view (m : Nat) (al : List (Nat × Nat)) (h : za) : za := match firstFree m al with
  | none => h
  | some n => trim h n
def qy (P : Program) (g : FuncId) (args : List Value) (h : za) (K : Value -> Prop) : Prop := yT P g = true /\ yH args = true /\ ∃ v, zec v = true /\ TC P g args h.lock (fun v1 _ => v1 = v) /\ K v
def K4 (P : Program) (g : FuncId) (args : List Value) (h : za) (K : Value -> za -> Prop) : Prop :=
  yT P g = true /\ yH args = true /\ ∃ v h2, TC P g args h.lock (fun v1 h1 => v1 = v /\ h1 = h2) /\ AF h.lock h2 /\ K v (wO h h2)
def Yz (P : Program) (g : FuncId) (args : List Value) (h : za) (K : Value -> za -> Prop) : Prop :=
  yT P g = true /\ yH args = true /\ DC P g args h K
def zmZ (P : Program) (g : FuncId) (args : List Value) (h : za) (K : Value -> za -> Prop) : Prop := yH args = true /\ xg (zih P g args h) K
def QH (P : Program) (f : Value) (args : List Value) (h : za) (K : Value -> za -> Prop) : Prop := match f with
  | .func (.func g) a c => yH args = true /\ Yz P g (a.toList ++ args ++ c.toList) h K
  | _ => False
def opD (P : Program) (q : FuncId -> Nat) (s : Env) (o : Oper) (hv h : za) (K : Value -> za -> Prop) : Prop := match o.op with
  | .call { callee := .value (.func g), args, argTypes } => (match q g with
    | 2 => qy P g (evs s args.toList) hv fun v => K v h
    | 3 => K4 P g (evs s args.toList) h K
    | 4 => zmZ P g (evs s args.toList) h K
    | _ => Yz P g (evs s args.toList) h K)
  | .call { callee := .value f, args, argTypes } => QH P (ev s f) (evs s args.toList) h K
  | _ => cond (Nat.beq (y4 q o) 1) (opA P s o hv fun v _ => K v h) (opA P s o h K)
def wpD (P : Program) (q : FuncId -> Nat) (ops : Array Oper) : List Oper -> Nat -> List Nat -> List (Nat × Nat) -> Env -> za -> (Env -> za -> Prop) -> Prop
  | [], _, _, _, s, h, K => K s h
  | o :: os, i, ms, al, s, h, K => (match o.guard with
    | none => opD P q s o (view (yq ms o) al h) h fun v h1 => (match s.put o.dst v with
      | some s1 => wpD P q ops os (i + 1) (ms ++ [yq ms o]) (cond (Nat.beq (y4 q o) 2) (al ++ [(i, h.next)]) al) s1 h1 K
      | none => False)
    | some (j, want) => (match (ops[j]?).bind (·.dst) with
      | none => False
      | some d => GD (s.get d) want (opD P q s o (view (yq ms o) al h) h) (fun v h1 => (match s.put o.dst v with
        | some s1 => wpD P q ops os (i + 1) (ms ++ [yq ms o]) (cond (Nat.beq (y4 q o) 2) (al ++ [(i, h.next)]) al) s1 h1 K
        | none => False)) h))
def Q1 (P : Program) (q : FuncId -> Nat) (ops : Array Oper) (s : Env) (h : za) (K : Env -> za -> Prop) : Prop := cond (calm q ops) (wpD P q ops ops.toList 0 [] [] s h K) False
def jD : Op -> Bool
  | .call { callee := .value _, .. } => true
  | _ => false
theorem Kh {q : FuncId -> Nat} {s : Env} {o : Oper} {h h' : za} {u : Value} (hk : y4 q o = 0) (hc : jD o.op = false) (he : aop P s o h = some (u, h')) : h' = h /\ ∀ g, aop P s o g = some (u, g) := by
  have key : ∀ {x : Option Value}, one h x = some (u, h') -> h' = h /\ ∀ g, one g x = some (u, g) := fun e => by
    obtain ⟨e1, e2⟩ := yU e; exact ⟨e2, fun g => kd e1⟩
  unfold y4 at hk
  unfold aop at he ⊢
  split at he <;> rename_i hop <;> simp only [hop] at hk ⊢ <;> first
    | exact key he
    | (cases he; done)
    | (cases hk; done)
    | skip
  . split at he
    . exact key he
    . exact key he
    . cases he
  . split at he
    . exact key he
    . cases he
  . split at he
    . simp only [Option.some.injEq, Prod.mk.injEq] at he; obtain ⟨rfl, rfl⟩ := he; exact ⟨rfl, fun g => rfl⟩
    . simp only [Option.some.injEq, Prod.mk.injEq] at he; obtain ⟨rfl, rfl⟩ := he; exact ⟨rfl, fun g => rfl⟩
    . cases he
  . split at he
    . exact key he
    . cases he
  . split at he
    . obtain ⟨hf, he⟩ := zl he
      simp only [hf, cond_true]
      exact key he
    . cases he
  . split at he
    . split at he
      . simp only [Option.some.injEq, Prod.mk.injEq] at he; obtain ⟨rfl, rfl⟩ := he; exact ⟨rfl, fun g => rfl⟩
      . cases he
    . cases he
  . split at he
    . simp only [Option.some.injEq, Prod.mk.injEq] at he; obtain ⟨rfl, rfl⟩ := he; exact ⟨rfl, fun g => rfl⟩
    . cases he
  . split at he
    . exact key he
    . cases he
  . split at he
    . split at he
      . split at he
        . exact key he
        . cases he
      . cases he
    . cases he
  . split at he
    . exact key he
    . cases he
  . split at he
    . obtain ⟨hf, he⟩ := zl he
      simp only [hf, cond_true]
      exact key he
    . cases he
  . split at he
    . exact key he
    . cases he
  . exfalso
    rename_i b args ts
    cases hq : jl b <;> rw [hq] at hk <;> cases hk
theorem Yb {q : FuncId -> Nat} {s : Env} {o : Oper} {h h' : za} {u : Value} (hk : y4 q o = 1) (hc : jD o.op = false) (he : aop P s o h = some (u, h')) : h' = h := by
  unfold y4 at hk
  unfold aop at he
  split at he <;> rename_i hop <;> simp only [hop] at hk <;> first
    | (cases he; done)
    | (cases hk; done)
    | skip
  . split at he
    . exact (yU he).2
    . cases he
  . split at he
    . split at he
      . simp only [Option.some.injEq, Prod.mk.injEq] at he; exact he.2.symm
      . cases he
    . exact (yU he).2
    . cases he
  . rename_i b args ts
    split at he
    . refine Z0 ?_ he
      cases hq : jl b with
      | true => rfl
      | false => rw [hq] at hk; cases hk
    . cases he
  . split at he
    . exact (yU he).2
    . cases he
  . split at he
    . exact (yU he).2
    . cases he
theorem Ve {q : FuncId -> Nat} {s : Env} {o : Oper} {h h' : za} {u : Value} (hk : y4 q o = 2) (hc : jD o.op = false) (he : aop P s o h = some (u, h')) : Still h h' := by
  refine (uu he).2 ?_
  unfold y4 at hk
  split at hk <;> rename_i hop <;> first
    | (cases hk; done)
    | (rw [hop] at hc; cases hc; done)
    | (rw [hop]; rfl)
    | skip
  rename_i b args ts
  cases hq : jl b <;> rw [hq] at hk <;> cases hk
end
end Go.Ai
