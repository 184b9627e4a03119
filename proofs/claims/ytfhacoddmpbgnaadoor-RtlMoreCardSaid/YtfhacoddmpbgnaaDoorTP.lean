/- A part of the proof. -/
import Derived.Test.YtfhacoddmpbgnaaDoorTO
import Derived.Test.YtfhacoddmpbgnaaDoorTL
import Derived.Test.YtfhacoddmpbgnaaDoorTK
import Derived.Test.YtfhacoddmpbgnaaDoorTD
import Derived.Test.YtfhacoddmpbgnaaDoorTE
set_option linter.unusedVariables false
set_option linter.unusedSimpArgs false
namespace Go.Rm
open Go.Ai Go.Proofs Go.Mem
open Go.Rtl (Ins Pg writesI)
set_option linter.unusedVariables false
set_option linter.unusedSimpArgs false
set_option maxRecDepth 10000
structure PgG (p : Pg) : Prop where
  ins : ∀ f, f ∈ p.funcs -> ∀ x, x ∈ f.code -> zoI p x
  s : ∀ f, f ∈ p.funcs -> ∀ x, x ∈ f.code -> x.op ≠ 12 -> 0 <= x.s /\ x.s < f.code.length
  t : ∀ f, f ∈ p.funcs -> ∀ x, x ∈ f.code -> x.op = 11 -> 0 <= x.t /\ x.t < f.code.length
  entry : ∀ f, f ∈ p.funcs -> 0 <= f.entry /\ f.entry < f.code.length
  par : ∀ f, f ∈ p.funcs -> f.params.length <= 100000 /\ ∀ r, r ∈ f.params -> r < 100000
  main : 0 <= p.main /\ p.main < p.funcs.length
  globals : p.globals.length <= 200
structure FrI (p : Pg) (c : Fr) : Prop where
  len : c.zD.length <= 100000
  zD : ∀ v, v ∈ c.zD -> vb v
  blk : ZR c.blk
  at_ : ∃ f, p.funcs[c.f]? = some f /\ 0 <= c.pt /\ c.pt < f.code.length
structure StI (p : Pg) (S : St) : Prop where
  fr : ∀ c, c ∈ S.calls -> FrI p c
  low : ∀ c, c ∈ S.calls.dropLast -> ∃ i, XJ p c = some i /\ i.op = 10
  many : S.calls.length <= 20000
  lk : (S.lk.length : Int) <= S.steps
  ev : (S.ev.length : Int) <= S.steps
  used : 0 <= S.used /\ S.used <= S.steps
  mem : U4 S.mem
  gl : S.gl.length = p.globals.length
  glb : ∀ z, z ∈ S.gl -> ZR z
theorem Q7 {p : Pg} {c : Fr} (h : FrI p c) : ∃ f i, p.funcs[c.f]? = some f /\ f ∈ p.funcs /\ XJ p c = some i /\ i ∈ f.code := by
  obtain ⟨f, hf, h0, h1⟩ := h.at_
  refine ⟨f, f.code[c.pt.toNat]'(by omega), hf, List.mem_of_getElem? hf, ?_, List.getElem_mem _⟩
  unfold XJ
  rw [hf]
  simp only [Option.bind_some]
  rw [if_neg (by omega), List.getElem?_eq_getElem]
theorem StI.ok {p : Pg} {S : St} (g : PgG p) (x : StI p S) (hs : S.steps <= 20000000) : zoA p S where
  fr c hc := ⟨(x.fr c hc).len, (x.fr c hc).zD, (x.fr c hc).blk⟩
  at_ c hc := by
    obtain ⟨f, i, _, hf, hi, hic⟩ := Q7 (x.fr c hc)
    exact ⟨i, hi, g.ins f hf i hic⟩
  low := x.low
  many := x.many
  lk := by have := x.lk; omega
  ev := by have := x.ev; omega
  used := ⟨x.used.1, by have := x.used.2; omega⟩
  mem := ⟨x.mem.1, x.mem.2.1⟩
  gl := x.gl
section
variable {p : Pg} {S : St} {world : List Int} {kept : Option (Int -> Bool)} {ini : List Fr} {c : Fr}
theorem StI.top {S' : St} {c' : Fr} (x : StI p S) (e : S.calls = ini ++ [c]) (e' : S'.calls = ini ++ [c']) (hc : FrI p c') (hs : S'.steps = S.steps + 1) (hlk : S'.lk.length <= S.lk.length + 1) (hev : S'.ev.length <= S.ev.length + 1) (hu : 0 <= S'.used /\ S'.used <= S.used + 1) (hm : U4 S'.mem) (hg : S'.gl = S.gl) : StI p S' where
  fr d hd := by
    rw [e'] at hd
    rcases List.mem_append.1 hd with q | q
    . exact x.fr d (by rw [e]; simp [q])
    . simp only [List.mem_singleton] at q; subst q; exact hc
  low d hd := by
    rw [e', List.dropLast_concat] at hd
    exact x.low d (by rw [e, List.dropLast_concat]; exact hd)
  many := by have := x.many; rw [e] at this; rw [e']; simpa using this
  lk := by have := x.lk; omega
  ev := by have := x.ev; omega
  used := ⟨hu.1, by have := x.used.2; omega⟩
  mem := hm
  gl := by rw [hg]; exact x.gl
  glb := by rw [hg]; exact x.glb
theorem FrI.set {c : Fr} {i : Ins} {f : Go.Rtl.Fn} (g : PgG p) (x : FrI p c) (hf : p.funcs[c.f]? = some f) (hi : i ∈ f.code) (h12 : i.op ≠ 12) {v : V} (hv : vb v) {r : Int} (hr : r < 100000) {l : List V} (hl : l.length <= 100000) (hlv : ∀ v, v ∈ l -> vb v) : FrI p { c with zD := qY l r v, pt := i.s } := by
  refine ⟨?_, zjT hlv r hv, x.blk, f, hf, g.s f (List.mem_of_getElem? hf) i hi h12⟩
  have := zda l r v
  show (qY l r v).length <= 100000
  omega
theorem zl7 (g : PgG p) (x : StI p S) (hne : S.calls ≠ []) (hok : (kW p world kept { S with steps := S.steps + 1 }).2 = true) : StI p (kW p world kept { S with steps := S.steps + 1 }).1 := by
  rcases List.eq_nil_or_concat S.calls with e | ⟨ini, c, e⟩
  . exact absurd e hne
  simp only [List.concat_eq_append] at e
  have hcm : c ∈ S.calls := by rw [e]; simp
  have xc := x.fr c hcm
  obtain ⟨f, i, hf, hfm, hi, hic⟩ := Q7 xc
  obtain ⟨T, hT⟩ : ∃ T : St, T = { S with steps := S.steps + 1 } := ⟨_, rfl⟩
  have Tc : T.calls = ini ++ [c] := by rw [hT]; exact e
  have est : kW p world kept { S with steps := S.steps + 1 } = wH p world kept T c i := by
    rw [<- hT]; unfold kW; rw [Tc, List.getLast?_concat]; simp only [hi]
  rw [est] at hok ⊢
  have ig := g.ins f hfm i hic
  have ga : ∀ r, vb (yY c.zD r) := zme xc.zD
  have done : ∀ (T' : St) (v : V), T'.calls = ini ++ [c] -> T'.steps = S.steps + 1 -> T'.lk.length <= S.lk.length + 1 -> T'.ev.length <= S.ev.length + 1 -> (0 <= T'.used /\ T'.used <= S.used + 1) -> U4 T'.mem -> T'.gl = S.gl -> i.op ≠ 12 -> vb v -> StI p (vP T' c i v) := by
    intro T' v h1 h2 h3 h4 h5 h6 h7 h8 h9
    refine x.top (c' := { c with zD := qY c.zD (writesI i) v, pt := i.s }) e ?_ (FrI.set g xc hf hic h8 h9 ig.w xc.len xc.zD) h2 h3 h4 h5 h6 h7
    show (T'.calls.dropLast ++ [_]) = _
    rw [h1, List.dropLast_concat]
  have Ts : T.steps = S.steps + 1 := by rw [hT]
  have Tl : T.lk = S.lk := by rw [hT]
  have Te : T.ev = S.ev := by rw [hT]
  have Tu : T.used = S.used := by rw [hT]
  have Tm : T.mem = S.mem := by rw [hT]
  have Tg : T.gl = S.gl := by rw [hT]
  have u0 : 0 <= T.used /\ T.used <= S.used + 1 := by rw [Tu]; exact ⟨x.used.1, by omega⟩
  have T1 : ∀ v, i.op ≠ 12 -> vb v -> StI p (vP T c i v) := fun v h8 hv => done T v Tc Ts (by rw [Tl]; omega) (by rw [Te]; omega) u0 (by rw [Tm]; exact x.mem) Tg h8 hv
  have L1 : ∀ k a b v, i.op ≠ 12 -> vb v -> StI p (vP (xl T k a b) c i v) := fun k a b v h8 hv => done (xl T k a b) v Tc Ts (by show (T.lk ++ [_]).length <= _; rw [Tl]; simp) (by show T.ev.length <= _; rw [Te]; omega) u0 (by show U4 T.mem; rw [Tm]; exact x.mem) Tg h8 hv
  unfold wH at hok ⊢
  by_cases h2 : i.op = 2
  . have h := h2; rw [if_pos h] at hok ⊢; exact T1 _ (by omega) (zd0 _)
  rw [if_neg h2] at hok ⊢
  by_cases h3 : i.op = 3
  . have h := h3; rw [if_pos h] at hok ⊢; exact T1 _ (by omega) (ga _)
  rw [if_neg h3] at hok ⊢
  by_cases h4 : i.op = 4
  . have h := h4; rw [if_pos h] at hok ⊢
    cases hu : unM i.sub (yY c.zD i.a) with
    | none => rw [hu] at hok; cases hok
    | some u => exact T1 u (by omega) (znD hu)
  rw [if_neg h4] at hok ⊢
  by_cases h5 : i.op = 5
  . have h := h5; rw [if_pos h] at hok ⊢
    have go : vb (yb c i) := by unfold yb; split; exact zd0 _; exact ga _
    cases hu : xY i.sub (yY c.zD i.a) (yb c i) with
    | none => simp only [hu] at hok; cases hok
    | some u =>
      simp only [hu]
      split
      . exact L1 _ _ _ u (by omega) (zju (ga _) go hu)
      . exact T1 u (by omega) (zju (ga _) go hu)
  rw [if_neg h5] at hok ⊢
  by_cases h6 : i.op = 6
  . have h := h6; rw [if_pos h] at hok ⊢
    cases hA : ym c i with
    | none => rw [hA] at hok; cases hok
    | some q =>
      rw [hA] at hok
      simp only at hok ⊢
      rw [Tm] at hok ⊢
      cases hu : jr S.mem i.sub q with
      | none => rw [hu] at hok; cases hok
      | some u => exact L1 _ _ _ u (by omega) (zgf x.mem hu)
  rw [if_neg h6] at hok ⊢
  by_cases h7 : i.op = 7
  . have h := h7; rw [if_pos h] at hok ⊢
    cases hA : ym c i with
    | none => rw [hA] at hok; cases hok
    | some q =>
      rw [hA] at hok
      simp only at hok ⊢
      rw [Tm] at hok ⊢
      cases hu : uC S.mem i.sub q (yY c.zD i.b) with
      | none => rw [hu] at hok; cases hok
      | some M => exact done { xl T 2 q.b q.n with mem := M } v0 Tc Ts (by show (T.lk ++ [_]).length <= _; rw [Tl]; simp) (by show T.ev.length <= _; rw [Te]; omega) u0 (zem x.mem (ga _) hu) Tg (by omega) zeY
  rw [if_neg h7] at hok ⊢
  by_cases h8 : i.op = 8
  . have h := h8; rw [if_pos h] at hok ⊢
    refine T1 _ (by omega) (zgu ?_)
    rw [Tg, List.getD_eq_getElem?_getD]
    cases hz : S.gl[i.sub.toNat]? with
    | none => exact WB
    | some z => exact x.glb z (List.mem_of_getElem? hz)
  rw [if_neg h8] at hok ⊢
  by_cases h9 : i.op = 9
  . have h := h9; rw [if_pos h] at hok ⊢; exact T1 _ (by omega) (zgu xc.blk)
  rw [if_neg h9] at hok ⊢
  by_cases h10 : i.op = 10
  . have h := h10; rw [if_pos h] at hok ⊢
    obtain ⟨f2, f0, f1, f2', f3, f4⟩ := ig.call h
    unfold xt at hok ⊢
    split at hok
    . cases hok
    rename_i hmany
    rw [if_neg hmany]
    simp only [f1] at hok ⊢
    split at hok
    . rename_i hal
      rw [if_pos hal]
      have hm := ZD f2.frame x.mem
      have hTm : (xl T 4 i.sub 0).mem = S.mem := Tm
      have hTc : (xl T 4 i.sub 0).calls = S.calls := Tc.trans e.symm
      have fI : FrI p ⟨i.sub.toNat, w7 f2.params (i.args.map (yY c.zD)) [], (yK S.mem f2.frame).2.1, f2.entry⟩ :=
        ⟨Zp _ _ _ (by simp) fun r hr => by have := f4 r hr; omega, KJ _ _ _ (fun v hv => by simp only [List.mem_map] at hv; obtain ⟨r, _, rfl⟩ := hv; exact ga r) (fun v hv => by cases hv), hm.2, f2, f1, g.entry f2 (List.mem_of_getElem? f1)⟩
      have hm' : ¬ 20000 <= S.calls.length := by have q := hmany; rw [hTc] at q; exact q
      clear hmany
      rw [hTm, hTc] at *
      refine ⟨fun d hd => ?_, fun d hd => ?_, ?_, ?_, ?_, ⟨u0.1, ?_⟩, hm.1, by show T.gl.length = _; rw [Tg]; exact x.gl, by show ∀ z, z ∈ T.gl -> _; rw [Tg]; exact x.glb⟩
      . rcases List.mem_append.1 hd with q | q
        . exact x.fr d q
        . simp only [List.mem_singleton] at q; subst q; exact fI
      . have hd : d ∈ (S.calls ++ [(⟨i.sub.toNat, w7 f2.params (i.args.map (yY c.zD)) [], (yK S.mem f2.frame).2.1, f2.entry⟩ : Fr)]).dropLast := hd
        rw [List.dropLast_concat, e] at hd
        rcases List.mem_append.1 hd with q | q
        . exact x.low d (by rw [e, List.dropLast_concat]; exact q)
        . simp only [List.mem_singleton] at q; subst q; exact ⟨i, hi, h⟩
      . show (S.calls ++ [_]).length <= 20000
        simp; omega
      . show (((T.lk ++ [_]).length : Nat) : Int) <= T.steps
        rw [Tl, Ts]; have := x.lk; simp; omega
      . show ((T.ev.length : Nat) : Int) <= T.steps
        rw [Te, Ts]; have := x.ev; omega
      . show T.used <= T.steps
        rw [Tu, Ts]; have := x.used.2; omega
    . cases hok
  rw [if_neg h10] at hok ⊢
  by_cases h11 : i.op = 11
  . have h := h11; rw [if_pos h] at hok ⊢
    unfold zbc at hok ⊢
    cases hu : xY i.sub (yY c.zD i.a) (yb c i) with
    | none => rw [hu] at hok; cases hok
    | some w =>
      simp only
      refine x.top (c' := { c with pt := if w.n = 0 then i.t else i.s }) e ?_ ⟨xc.len, xc.zD, xc.blk, f, hf, ?_⟩ Ts (by show (T.lk ++ [_]).length <= _; rw [Tl]; simp) (by show T.ev.length <= _; rw [Te]; omega) u0 (by show U4 T.mem; rw [Tm]; exact x.mem) Tg
      . show (T.calls.dropLast ++ [_]) = _
        rw [Tc, List.dropLast_concat]
      . show 0 <= (if w.n = 0 then i.t else i.s) /\ (if w.n = 0 then i.t else i.s) < _
        split
        . exact g.t f hfm i hic h
        . exact g.s f hfm i hic (by omega)
  rw [if_neg h11] at hok ⊢
  by_cases h12 : i.op = 12
  . have h := h12; rw [if_pos h] at hok ⊢
    unfold ve at hok ⊢
    rw [Tc, List.getLast?_concat, List.dropLast_concat] at hok ⊢
    simp only at hok ⊢
    rw [Tm] at hok ⊢
    rcases List.eq_nil_or_concat ini with hini | ⟨in2, bk, hini⟩
    . subst hini
      simp only [List.getLast?_nil] at hok ⊢
      split at hok
      . rename_i hk; rw [if_pos hk]
        refine ⟨fun d hd => (by cases hd), fun d hd => (by cases hd), by show ([] : List Fr).length <= _; simp, ?_, ?_, ⟨u0.1, ?_⟩, Je x.mem, by show T.gl.length = _; rw [Tg]; exact x.gl, by show ∀ z, z ∈ T.gl -> _; rw [Tg]; exact x.glb⟩
        . show ((T.lk.length : Nat) : Int) <= T.steps; rw [Tl, Ts]; have := x.lk; omega
        . show ((T.ev.length : Nat) : Int) <= T.steps; rw [Te, Ts]; have := x.ev; omega
        . show T.used <= T.steps; rw [Tu, Ts]; have := x.used.2; omega
      . cases hok
    . simp only [List.concat_eq_append] at hini
      subst hini
      rw [List.getLast?_concat] at hok ⊢
      simp only at hok ⊢
      have hbm : bk ∈ S.calls := by rw [e]; simp
      have xb := x.fr bk hbm
      obtain ⟨fb, bi, hfb, hfbm, hbi, hbic⟩ := Q7 xb
      obtain ⟨bi2, hbi2, h10'⟩ := x.low bk (by rw [e, List.dropLast_concat]; simp)
      have : bi2 = bi := by rw [hbi] at hbi2; exact (Option.some.inj hbi2).symm
      subst this
      simp only [hbi, List.dropLast_concat] at hok ⊢
      have hwd : bi2.d < 100000 := by
        have := (g.ins fb hfbm bi2 hbic).w
        unfold Go.Rtl.writesI Go.Rtl.wr at this
        rw [h10'] at this
        simpa using this
      have fI := FrI.set (r := bi2.d) (v := yY c.zD i.a) (l := Zb kept bk.zD) g xb hfb hbic (by omega) (ga _) hwd (by rw [ziy]; exact xb.len) (zkO kept xb.zD)
      refine ⟨fun d hd => ?_, fun d hd => ?_, ?_, ?_, ?_, ⟨u0.1, ?_⟩, Je x.mem, by show T.gl.length = _; rw [Tg]; exact x.gl, by show ∀ z, z ∈ T.gl -> _; rw [Tg]; exact x.glb⟩
      . rcases List.mem_append.1 hd with q | q
        . exact x.fr d (by rw [e]; simp [q])
        . simp only [List.mem_singleton] at q; subst q; exact fI
      . have hd : d ∈ (in2 ++ [({ bk with zD := qY (Zb kept bk.zD) bi2.d (yY c.zD i.a), pt := bi2.s } : Fr)]).dropLast := hd
        rw [List.dropLast_concat] at hd
        exact x.low d (by rw [e, List.dropLast_concat]; simp [hd])
      . show (in2 ++ [_]).length <= 20000
        have := x.many; rw [e] at this; simp at this ⊢; omega
      . show ((T.lk.length : Nat) : Int) <= T.steps; rw [Tl, Ts]; have := x.lk; omega
      . show ((T.ev.length : Nat) : Int) <= T.steps; rw [Te, Ts]; have := x.ev; omega
      . show T.used <= T.steps; rw [Tu, Ts]; have := x.used.2; omega
  rw [if_neg h12] at hok ⊢
  by_cases h13 : i.op = 13
  . have h := h13; rw [if_pos h] at hok ⊢
    exact done _ _ Tc Ts (by show T.lk.length <= _; rw [Tl]; omega) (by show (T.ev ++ [_]).length <= _; rw [Te]; simp) (by show 0 <= T.used + 1 /\ T.used + 1 <= _; rw [Tu]; have := x.used.1; omega) (by show U4 T.mem; rw [Tm]; exact x.mem) Tg (by omega) (zd0 _)
  rw [if_neg h13] at hok ⊢
  by_cases h14 : i.op = 14
  . have h := h14; rw [if_pos h] at hok ⊢
    split at hok
    . rename_i hk; rw [if_pos hk]
      exact done (ui T 2 _) _ Tc Ts (by show T.lk.length <= _; rw [Tl]; omega) (by show (T.ev ++ [_]).length <= _; rw [Te]; simp) u0 (by show U4 T.mem; rw [Tm]; exact x.mem) Tg (by omega) zeY
    . cases hok
  rw [if_neg h14] at hok ⊢
  exact T1 _ h12 zeY
end
end Go.Rm
namespace Go.Rm
open Go.Ai Go.Proofs Go.Mem
open Go.Rtl (Ins Pg writesI)
set_option linter.unusedVariables false
set_option linter.unusedSimpArgs false
set_option maxRecDepth 10000
theorem JZ : ∀ (n : Nat) (l : List Int), l.Nodup -> (∀ x, x ∈ l -> 0 <= x /\ x < n) -> l.length <= n
  | 0, l, _, h => by
    cases l with
    | nil => exact Nat.le_refl _
    | cons a l => have := h a (by simp); omega
  | n + 1, l, hd, h => by
    have := JZ n (l.erase (n : Int)) (hd.erase _) fun x hx => by
      rw [hd.mem_erase_iff] at hx
      have := h x hx.2
      omega
    rw [List.length_erase] at this
    split at this <;> omega
theorem Xp {n m : Int} (h : Go.Rtl.xz n m = true) : 0 <= n /\ n < m := by
  unfold Go.Rtl.xz at h
  simpa using h
theorem zhM {l : List Int} {zD : Int} (h : Go.Rtl.zlr l zD = true) : l.Nodup /\ ∀ x, x ∈ l -> 0 <= x /\ x < zD := by
  unfold Go.Rtl.zlr at h
  rw [List.all_eq_true] at h
  have at_ : ∀ i, (hi : i < l.length) -> (0 <= l[i] /\ l[i] < zD) /\ ∀ k, (hk : k < i) -> l[k] ≠ l[i] := by
    intro i hi
    have := h i (List.mem_range.2 hi)
    unfold Go.Rtl.zev at this
    rw [Bool.and_eq_true, List.all_eq_true] at this
    obtain ⟨a, b⟩ := this
    have e : l.getD i 0 = l[i] := by rw [List.getD_eq_getElem?_getD, List.getElem?_eq_getElem hi]; rfl
    rw [e] at a b
    refine ⟨Xp a, fun k hk q => ?_⟩
    have := b k (List.mem_range.2 hk)
    have e2 : l.getD k 0 = l[k]'(by omega) := by rw [List.getD_eq_getElem?_getD, List.getElem?_eq_getElem (by omega)]; rfl
    rw [e2] at this
    simp [q] at this
  refine ⟨?_, fun x hx => ?_⟩
  . rw [List.nodup_iff_pairwise_ne, List.pairwise_iff_getElem]
    intro i j hi hj hij
    exact (at_ j hj).2 i hij
  . obtain ⟨i, hi, rfl⟩ := List.getElem_of_mem hx
    exact (at_ i hi).1
theorem zir {n : Int} (h : Go.Rtl.VD n = true) : ZR n := by
  unfold Go.Rtl.VD at h
  simp at h
  unfold ZR
  omega
theorem zk3 {p : Pg} (h : Go.Rtl.rGoodB p = true) : PgG p := by
  unfold Go.Rtl.rGoodB at h
  rw [Bool.and_eq_true, Bool.and_eq_true, List.all_eq_true, List.all_eq_true] at h
  obtain ⟨hs, hg, hf⟩ := h
  unfold Go.Rtl.zfP at hs
  simp only [Bool.and_eq_true, Bool.not_eq_true', decide_eq_false_iff_not] at hs
  have fn : ∀ f, f ∈ p.funcs -> ((f.zD <= 5000 /\ 0 <= f.entry /\ f.entry < f.code.length) /\ (f.params.Nodup /\ ∀ x, x ∈ f.params -> 0 <= x /\ x < f.zD)) /\ ∀ x, x ∈ f.code -> Go.Rtl.YH f x = true /\ Go.Rtl.zaZ p x = true := by
    intro f hm
    have := hf f hm
    rw [Bool.and_eq_true, List.all_eq_true] at this
    obtain ⟨r, i⟩ := this
    unfold Go.Rtl.uW at r
    rw [Bool.and_eq_true, Bool.and_eq_true, List.all_eq_true] at r
    obtain ⟨r1, r2, r3⟩ := r
    unfold Go.Rtl.zhP at r1
    simp only [Bool.and_eq_true, Bool.not_eq_true', decide_eq_false_iff_not] at r1
    exact ⟨⟨by omega, zhM r2⟩, fun x hx => ⟨r3 x hx, i x hx⟩⟩
  have par : ∀ f, f ∈ p.funcs -> f.params.length <= 100000 /\ ∀ r, r ∈ f.params -> r < 100000 := by
    intro f hm
    obtain ⟨⟨⟨a, _⟩, b, c⟩, _⟩ := fn f hm
    refine ⟨?_, fun r hr => by have := c r hr; omega⟩
    have := JZ f.zD.toNat f.params b fun x hx => by have := c x hx; omega
    omega
  have ins : ∀ f, f ∈ p.funcs -> ∀ x, x ∈ f.code -> (∀ s, s ∈ Go.Rtl.jo x -> 0 <= s /\ s < f.code.length) /\ Go.Rtl.KY f x = true /\ Go.Rtl.zaZ p x = true := by
    intro f hm x hx
    obtain ⟨_, q⟩ := fn f hm
    obtain ⟨q1, q2⟩ := q x hx
    unfold Go.Rtl.YH at q1
    simp only [Bool.and_eq_true, List.all_eq_true] at q1
    exact ⟨fun s hs => Xp (q1.2.2.1 s hs), q1.2.2.2.2, q2⟩
  refine ⟨fun f hm x hx => ?_, fun f hm x hx h12 => ?_, fun f hm x hx h11 => ?_, fun f hm => (fn f hm).1.1.2, par, by omega, by omega⟩
  . obtain ⟨_, m, ip⟩ := ins f hm x hx
    obtain ⟨⟨⟨hregs, _⟩, _⟩, _⟩ := fn f hm
    unfold Go.Rtl.KY at m
    simp only [Bool.and_eq_true, Bool.or_eq_true, decide_eq_true_eq] at m
    obtain ⟨_, _, m⟩ := m
    unfold Go.Rtl.zaZ at ip
    rw [Bool.and_eq_true] at ip
    obtain ⟨i1, i2⟩ := ip
    refine ⟨?_, fun h8 => ?_, fun h67 => ?_, fun h10 => ?_⟩
    . unfold writesI
      split
      . rename_i hw
        rcases m with ⟨_, m⟩ | m
        . omega
        . unfold Go.Rtl.Kg Go.Rtl.Kl at m
          rw [hw] at m
          simp only [Bool.and_eq_true, Bool.not_true, Bool.false_or] at m
          have := Xp m.2
          omega
      . omega
    . unfold Go.Rtl.znL at i2
      rw [h8] at i2
      simp only [decide_true, Bool.not_true, Bool.false_or, Bool.and_eq_true] at i2
      have := Xp i2.1
      omega
    . rcases m with ⟨m, _⟩ | m
      . omega
      . unfold Go.Rtl.Kg Go.Rtl.zbp at m
        rw [Bool.and_eq_true] at m
        have m := m.1
        rw [if_neg (by omega), if_neg (by omega), if_neg (by omega), if_neg (by omega), if_pos (by omega)] at m
        exact zir m
    . unfold Go.Rtl.zfv at i1
      rw [h10] at i1
      simp only [decide_true, Bool.not_true, Bool.false_or, Bool.and_eq_true, decide_eq_true_eq] at i1
      have w := Xp i1.1
      obtain ⟨g, hg⟩ : ∃ g, p.funcs[x.sub.toNat]? = some g := ⟨_, List.getElem?_eq_getElem (by omega)⟩
      have hpa : Go.Rtl.zbm p x.sub = g.params.length := by simp only [Go.Rtl.zbm, hg]
      rw [hpa] at i1
      have gm := List.mem_of_getElem? hg
      exact ⟨g, w.1, hg, by omega, par g gm⟩
  . refine (ins f hm x hx).1 x.s ?_
    unfold Go.Rtl.jo
    rw [if_neg h12]
    split <;> simp
  . refine (ins f hm x hx).1 x.t ?_
    unfold Go.Rtl.jo
    rw [if_neg (by omega), if_pos h11]
    simp
theorem zbS : ∀ (ns : List Int) (M : MM) (l : List Int), U4 M -> (∀ z, z ∈ l -> ZR z) -> U4 (xE ns M l).1 /\ (xE ns M l).2.length = l.length + ns.length /\ ∀ z, z ∈ (xE ns M l).2 -> ZR z
  | [], M, l, h, hl => ⟨h, by simp [xE], hl⟩
  | n :: ns, M, l, h, hl => by
    have a := ZD n h
    obtain ⟨b, c, d⟩ := zbS ns ((XL (yK M n).1 (yK M n).2.1).getD (yK M n).1) (l ++ [(yK M n).2.1]) (zfK a.1) fun z hz => by
      rcases List.mem_append.1 hz with q | q
      . exact hl z q
      . simp only [List.mem_singleton] at q; subst q; exact a.2
    refine ⟨b, ?_, d⟩
    show (xE ns _ _).2.length = _
    rw [c]; simp; omega
theorem Qa : ∀ (ns : List Int) (n : Int) (M : MM) (l : List Int), xE (ns ++ [n]) M l = (((XL (yK (xE ns M l).1 n).1 (yK (xE ns M l).1 n).2.1).getD (yK (xE ns M l).1 n).1), (xE ns M l).2 ++ [(yK (xE ns M l).1 n).2.1])
  | [], n, M, l => rfl
  | m :: ns, n, M, l => Qa ns n _ _
theorem zcD : U4 [] := ⟨fun i B h => (by cases h), by decide, fun i B h => (by cases h)⟩
def Wx (p : Pg) : St := ⟨(xE p.globals [] []).1, 0, 0, 0, [], [], 0, (xE p.globals [] []).2, []⟩
theorem zlk {p : Pg} (g : PgG p) (args : List Int) (hok : (wC p args).2 = true) : StI p (wC p args).1 := by
  obtain ⟨gm, gl, gb⟩ := zbS p.globals [] [] zcD (fun z h => by cases h)
  have e : wC p args = xt p (Wx p) p.main (args.map ofV) := rfl
  rw [e] at hok ⊢
  unfold xt at hok ⊢
  rw [if_neg (by show ¬ 20000 <= 0; omega)] at hok ⊢
  obtain ⟨f, hf⟩ : ∃ f, p.funcs[p.main.toNat]? = some f := ⟨_, List.getElem?_eq_getElem (by have := g.main; omega)⟩
  have fm := List.mem_of_getElem? hf
  simp only [hf] at hok ⊢
  split at hok
  . rename_i hal
    rw [if_pos hal]
    have a := ZD f.frame gm
    refine ⟨fun c hc => ?_, fun c hc => (by cases hc), ?_, ?_, ?_, ⟨Int.le_refl _, Int.le_refl _⟩, a.1, ?_, gb⟩
    . have hc : c ∈ [(⟨p.main.toNat, w7 f.params (args.map ofV) [], (yK (Wx p).mem f.frame).2.1, f.entry⟩ : Fr)] := hc
      simp only [List.mem_singleton] at hc
      subst hc
      refine ⟨?_, KJ _ _ _ (fun v hv => ?_) (fun v hv => by cases hv), a.2, f, hf, g.entry f fm⟩
      . exact Zp _ _ _ (by simp) fun r hr => by have := (g.par f fm).2 r hr; omega
      . simp only [List.mem_map] at hv
        obtain ⟨n, _, rfl⟩ := hv
        exact zd0 n
    . show ([] ++ [_]).length <= 20000
      simp
    . show ((0 : Nat) : Int) <= 0; omega
    . show ((0 : Nat) : Int) <= 0; omega
    . show (xE p.globals [] []).2.length = _
      rw [gl]; simp
  . cases hok
end Go.Rm
namespace Go.Rm
open Go.Ai Go.Proofs Go.Mem
open Go.Rtl (Ins Pg writesI)
set_option linter.unusedVariables false
set_option linter.unusedSimpArgs false
structure Ext (S S' : St) : Prop where
  ev : S.ev <+: S'.ev
  lk : S.lk <+: S'.lk
theorem Ext.refl (S : St) : Ext S S := ⟨List.prefix_refl _, List.prefix_refl _⟩
theorem Ext.trans {a b c : St} (x : Ext a b) (y : Ext b c) : Ext a c := ⟨x.ev.trans y.ev, x.lk.trans y.lk⟩
theorem YF {S S' : St} (h1 : S'.ev = S.ev) (h2 : S'.lk = S.lk) : Ext S S' := ⟨h1 ▸ List.prefix_refl _, h2 ▸ List.prefix_refl _⟩
theorem zdi (S : St) (k a b : Int) : Ext S (xl S k a b) := ⟨List.prefix_refl _, List.prefix_append _ _⟩
theorem zap (S : St) (k v : Int) : Ext S (ui S k v) := ⟨List.prefix_append _ _, List.prefix_refl _⟩
structure Stp (S : St) (r : St × Bool) : Prop where
  ext : Ext S r.1
  steps : r.1.steps = S.steps
  kind : r.1.kind = S.kind \/ r.1.kind = 1
theorem Stp.refl (S : St) (b : Bool) : Stp S (S, b) := ⟨Ext.refl S, rfl, .inl rfl⟩
theorem vC {S S' : St} (c : Fr) (i : Ins) (v : V) (b : Bool) (x : Stp S (S', b)) : Stp S (vP S' c i v, b) := ⟨x.ext.trans (YF rfl rfl), x.steps, x.kind⟩
theorem ZG (S : St) (k a b : Int) (o : Bool) : Stp S (xl S k a b, o) := ⟨zdi S k a b, rfl, .inl rfl⟩
theorem zhE (S : St) (k v : Int) (o : Bool) : Stp S (ui S k v, o) := ⟨zap S k v, rfl, .inl rfl⟩
theorem zhC {S S0 : St} (p : Pg) (n : Int) (args : List V) (x : Stp S0 (S, true)) : Stp S0 (xt p S n args) := by
  have y : ∀ b, Stp S0 (S, b) := fun b => ⟨x.ext, x.steps, x.kind⟩
  unfold xt
  split
  . exact y _
  . split
    . exact y _
    . split
      . exact ⟨x.ext.trans (YF rfl rfl), x.steps, x.kind⟩
      . exact ⟨x.ext.trans (YF rfl rfl), x.steps, x.kind⟩
theorem zhp (p : Pg) (kept : Option (Int -> Bool)) (S : St) (v : V) : Stp S (ve p kept S v) := by
  unfold ve
  split
  . exact Stp.refl _ _
  . split
    . split
      . exact ⟨YF rfl rfl, rfl, .inr rfl⟩
      . exact ⟨YF rfl rfl, rfl, .inl rfl⟩
    . split
      . exact Stp.refl _ _
      . exact ⟨YF rfl rfl, rfl, .inl rfl⟩
theorem zjo (S : St) (c : Fr) (i : Ins) : Stp S (zbc S c i) := by
  unfold zbc
  split
  . exact Stp.refl _ _
  . exact ⟨(zdi S 1 _ 0).trans (YF rfl rfl), rfl, .inl rfl⟩
theorem zhj (p : Pg) (world : List Int) (kept : Option (Int -> Bool)) (S : St) (c : Fr) (i : Ins) : Stp S (wH p world kept S c i) := by
  unfold wH
  by_cases h2 : i.op = 2
  . rw [if_pos h2]; exact vC _ _ _ _ (Stp.refl _ _)
  rw [if_neg h2]
  by_cases h3 : i.op = 3
  . rw [if_pos h3]; exact vC _ _ _ _ (Stp.refl _ _)
  rw [if_neg h3]
  by_cases h4 : i.op = 4
  . rw [if_pos h4]
    cases unM i.sub (yY c.zD i.a) with
    | none => exact Stp.refl _ _
    | some v => exact vC _ _ _ _ (Stp.refl _ _)
  rw [if_neg h4]
  by_cases h5 : i.op = 5
  . rw [if_pos h5]
    have h : ∀ o, Stp S ((if (i.sub = 14 \/ i.sub = 15) /\ (yY c.zD i.a).k = 1 /\ (yb c i).k = 1 then xl S 3 (yY c.zD i.a).n (yb c i).n else S), o) := by
      intro o
      split
      . exact ZG _ _ _ _ _
      . exact Stp.refl _ _
    cases xY i.sub (yY c.zD i.a) (yb c i) with
    | none => exact h _
    | some v => exact vC _ _ _ _ (h _)
  rw [if_neg h5]
  by_cases h6 : i.op = 6
  . rw [if_pos h6]
    cases ym c i with
    | none => exact Stp.refl _ _
    | some q =>
      simp only []
      cases jr S.mem i.sub q with
      | none => exact ZG _ _ _ _ _
      | some v => exact vC _ _ _ _ (ZG _ _ _ _ _)
  rw [if_neg h6]
  by_cases h7 : i.op = 7
  . rw [if_pos h7]
    cases ym c i with
    | none => exact Stp.refl _ _
    | some q =>
      simp only []
      cases uC S.mem i.sub q (yY c.zD i.b) with
      | none => exact ZG _ _ _ _ _
      | some M =>
        have := ZG S 2 q.b q.n true
        exact vC _ _ _ _ ⟨this.ext.trans (YF rfl rfl), rfl, .inl rfl⟩
  rw [if_neg h7]
  by_cases h8 : i.op = 8
  . rw [if_pos h8]; exact vC _ _ _ _ (Stp.refl _ _)
  rw [if_neg h8]
  by_cases h9 : i.op = 9
  . rw [if_pos h9]; exact vC _ _ _ _ (Stp.refl _ _)
  rw [if_neg h9]
  by_cases h10 : i.op = 10
  . rw [if_pos h10]; exact zhC _ _ _ (ZG _ _ _ _ _)
  rw [if_neg h10]
  by_cases h11 : i.op = 11
  . rw [if_pos h11]; exact zjo _ _ _
  rw [if_neg h11]
  by_cases h12 : i.op = 12
  . rw [if_pos h12]; exact zhp _ _ _ _
  rw [if_neg h12]
  by_cases h13 : i.op = 13
  . rw [if_pos h13]; exact vC _ _ _ _ ⟨(zap S 1 _).trans (YF rfl rfl), rfl, .inl rfl⟩
  rw [if_neg h13]
  by_cases h14 : i.op = 14
  . rw [if_pos h14]
    by_cases hk : (yY c.zD i.a).k = 1
    . rw [if_pos hk]; exact vC _ _ _ _ (zhE _ _ _ _)
    . rw [if_neg hk]; exact Stp.refl _ _
  rw [if_neg h14]; exact vC _ _ _ _ (Stp.refl _ _)
theorem zcK (p : Pg) (world : List Int) (kept : Option (Int -> Bool)) (S : St) : Stp S (kW p world kept S) := by
  unfold kW
  split
  . exact Stp.refl _ _
  . split
    . exact Stp.refl _ _
    . exact zhj _ _ _ _ _ _
def goes (r : St × Bool) : Prop := r.2 = true /\ r.1.kind = 0
instance (r : St × Bool) : Decidable (goes r) := by unfold goes; infer_instance
section
variable (p : Pg) (world : List Int) (kept : Option (Int -> Bool))
def UK (r : St × Bool) : St × Bool := if goes r then kW p world kept { r.1 with steps := r.1.steps + 1 } else r
def ks : Nat -> St × Bool -> St × Bool
  | 0, r => r
  | n + 1, r => ks n (UK p world kept r)
def WH (r : St × Bool) : St × Bool := if goes r then ({ r.1 with kind := 2 }, r.2) else r
theorem Xq : ∀ (n : Nat) (r : St × Bool), ¬ goes r -> ks p world kept n r = r
  | 0, r, h => rfl
  | n + 1, r, h => by
    unfold ks UK
    rw [if_neg h]
    exact Xq n r h
theorem Xo : ∀ (n : Nat) (r : St × Bool), zca p world kept n r = WH (ks p world kept n r)
  | 0, (S, ok) => rfl
  | n + 1, (S, ok) => by
    show (if ok = true /\ S.kind = 0 then zca p world kept n (kW p world kept { S with steps := S.steps + 1 }) else (S, ok)) = WH (ks p world kept n (UK p world kept (S, ok)))
    by_cases h : ok = true /\ S.kind = 0
    . have g : goes (S, ok) := h
      rw [if_pos h, Xo n]
      unfold UK
      rw [if_pos g]
    . have g : ¬ goes (S, ok) := h
      rw [if_neg h]
      unfold UK
      rw [if_neg g, Xq p world kept n _ g]
      unfold WH
      rw [if_neg g]
theorem zdb : ∀ (n m : Nat) (r : St × Bool), ks p world kept (n + m) r = ks p world kept m (ks p world kept n r)
  | 0, m, r => by rw [Nat.zero_add]; rfl
  | n + 1, m, r => by
    rw [show n + 1 + m = (n + m) + 1 by omega]
    exact zdb n m _
theorem zhU (r : St × Bool) : Ext r.1 (UK p world kept r).1 /\ (goes (UK p world kept r) -> goes r /\ (UK p world kept r).1.steps = r.1.steps + 1) /\ ((UK p world kept r).1.kind = r.1.kind \/ (UK p world kept r).1.kind = 1) := by
  unfold UK
  by_cases h : goes r
  . rw [if_pos h]
    have := zcK p world kept { r.1 with steps := r.1.steps + 1 }
    exact ⟨⟨this.ext.ev, this.ext.lk⟩, fun _ => ⟨h, this.steps⟩, this.kind⟩
  . rw [if_neg h]
    exact ⟨Ext.refl _, fun q => absurd q h, .inl rfl⟩
theorem XR : ∀ (n : Nat) (r : St × Bool), Ext r.1 (ks p world kept n r).1 /\ (goes (ks p world kept n r) -> (ks p world kept n r).1.steps = r.1.steps + n) /\ (r.1.kind ≠ 2 -> (ks p world kept n r).1.kind ≠ 2)
  | 0, r => ⟨Ext.refl _, fun _ => by simp [ks], fun h => h⟩
  | n + 1, r => by
    obtain ⟨a, b, c⟩ := XR n (UK p world kept r)
    obtain ⟨d, e, f⟩ := zhU p world kept r
    refine ⟨d.trans a, fun h => ?_, fun h => c ?_⟩
    . have g : goes (UK p world kept r) := by
        by_cases q : goes (UK p world kept r)
        . exact q
        . have h2 : goes (ks p world kept n (UK p world kept r)) := h
          rw [Xq p world kept n _ q] at h2
          exact absurd h2 q
      have := b h
      have := (e g).2
      show (ks p world kept n (UK p world kept r)).1.steps = _
      omega
    . rcases f with q | q
      . rw [q]; exact h
      . rw [q]; decide
theorem run_more (args : List Int) (n m : Nat) (h0 : (wC p args).1.kind = 0) (hs : (wC p args).1.steps = 0) :
    ((runM p args world kept n).kind ≠ 2 /\ runM p args world kept (n + m) = runM p args world kept n) \/
    ((runM p args world kept n).kind = 2 /\ (runM p args world kept n).steps = n /\ (runM p args world kept n).ev <+: (runM p args world kept (n + m)).ev /\ (runM p args world kept n).lk <+: (runM p args world kept (n + m)).lk) := by
  unfold runM
  rw [Xo, Xo, zdb]
  obtain ⟨_, b, c⟩ := XR p world kept n (wC p args)
  generalize ks p world kept n (wC p args) = r at b c
  by_cases g : goes r
  . right
    have e : (zfQ (WH r)) = { r.1 with kind := 2 } := by
      unfold WH zfQ
      rw [if_pos g, if_pos g.1]
    rw [e]
    obtain ⟨d, _, _⟩ := XR p world kept m r
    have f : ∀ x : St × Bool, (zfQ (WH x)).ev = x.1.ev /\ (zfQ (WH x)).lk = x.1.lk := by
      intro x
      unfold zfQ WH
      repeat' split
      all_goals exact ⟨rfl, rfl⟩
    refine ⟨rfl, by rw [b g, hs]; omega, ?_, ?_⟩
    . rw [(f _).1]; exact d.ev
    . rw [(f _).2]; exact d.lk
  . left
    rw [Xq p world kept m r g]
    refine ⟨?_, rfl⟩
    unfold WH zfQ
    rw [if_neg g]
    split
    . exact c (by rw [h0]; decide)
    . show (3 : Int) ≠ 2
      decide
end
theorem start_facts (p : Pg) (args : List Int) : (wC p args).1.kind = 0 /\ (wC p args).1.steps = 0 /\ (wC p args).1.ev = [] /\ (wC p args).1.lk = [] := by
  unfold wC xt
  split
  . exact ⟨rfl, rfl, rfl, rfl⟩
  . split
    . exact ⟨rfl, rfl, rfl, rfl⟩
    . split <;> exact ⟨rfl, rfl, rfl, rfl⟩
end Go.Rm
namespace Go.Rm
open Go.Ai Go.Proofs Go.Mem
open Go.Rtl (Ins Pg writesI PgOk FnOk InsOk SliceI SliceR Old inc)
set_option linter.unusedVariables false
set_option linter.unusedSimpArgs false
set_option maxRecDepth 10000
theorem zkY (p : Pg) (world : List Int) (kept : Option (Int -> Bool)) (S : St) (hk : S.kind = 0) (hok : (kW p world kept S).2 = true) (hk' : (kW p world kept S).1.kind = 0) : (kW p world kept S).1.calls ≠ [] := by
  have top : ∀ (S : St) (c : Fr), (zms S c).calls ≠ [] := fun S c h => by
    have h : S.calls.dropLast ++ [c] = [] := h
    simp at h
  revert hok hk'
  unfold kW
  cases hc : S.calls.getLast? with
  | none => intro hok; cases hok
  | some c =>
  simp only
  cases hi : XJ p c with
  | none => intro hok; cases hok
  | some i =>
  simp only
  unfold wH
  by_cases h2 : i.op = 2
  . rw [if_pos h2]; intro _ _; exact top _ _
  rw [if_neg h2]
  by_cases h3 : i.op = 3
  . rw [if_pos h3]; intro _ _; exact top _ _
  rw [if_neg h3]
  by_cases h4 : i.op = 4
  . rw [if_pos h4]
    cases unM i.sub (yY c.zD i.a) with
    | none => intro hok; cases hok
    | some v => intro _ _; exact top _ _
  rw [if_neg h4]
  by_cases h5 : i.op = 5
  . rw [if_pos h5]
    cases xY i.sub (yY c.zD i.a) (yb c i) with
    | none => intro hok; cases hok
    | some v => intro _ _; exact top _ _
  rw [if_neg h5]
  by_cases h6 : i.op = 6
  . rw [if_pos h6]
    cases ym c i with
    | none => intro hok; cases hok
    | some q =>
      simp only []
      cases jr S.mem i.sub q with
      | none => intro hok; cases hok
      | some v => intro _ _; exact top _ _
  rw [if_neg h6]
  by_cases h7 : i.op = 7
  . rw [if_pos h7]
    cases ym c i with
    | none => intro hok; cases hok
    | some q =>
      simp only []
      cases uC S.mem i.sub q (yY c.zD i.b) with
      | none => intro hok; cases hok
      | some M => intro _ _; exact top _ _
  rw [if_neg h7]
  by_cases h8 : i.op = 8
  . rw [if_pos h8]; intro _ _; exact top _ _
  rw [if_neg h8]
  by_cases h9 : i.op = 9
  . rw [if_pos h9]; intro _ _; exact top _ _
  rw [if_neg h9]
  by_cases h10 : i.op = 10
  . rw [if_pos h10]
    unfold xt
    split
    . intro hok; cases hok
    split
    . intro hok; cases hok
    split
    . intro _ _ h
      have h : (xl S 4 i.sub 0).calls ++ [_] = [] := h
      simp at h
    . intro hok; cases hok
  rw [if_neg h10]
  by_cases h11 : i.op = 11
  . rw [if_pos h11]
    unfold zbc
    split
    . intro hok; cases hok
    . intro _ _; exact top _ _
  rw [if_neg h11]
  by_cases h12 : i.op = 12
  . rw [if_pos h12]
    unfold ve
    split
    . intro hok; cases hok
    split
    . split
      . intro _ q; cases q
      . intro hok; cases hok
    . split
      . intro hok; cases hok
      . intro _ _ h
        simp at h
  rw [if_neg h12]
  by_cases h13 : i.op = 13
  . rw [if_pos h13]; intro _ _; exact top _ _
  rw [if_neg h13]
  by_cases h14 : i.op = 14
  . rw [if_pos h14]
    split
    . intro _ _; exact top _ _
    . intro hok; cases hok
  rw [if_neg h14]; intro _ _; exact top _ _
theorem zbK {p : Pg} {S : St} {n : Int} {args : List V} {f : Go.Rtl.Fn} (hf : p.funcs[n.toNat]? = some f) : ((xt p S n args).2 = true -> (xt p S n args).1.calls = S.calls ++ [⟨n.toNat, w7 f.params args [], (yK S.mem f.frame).2.1, f.entry⟩]) /\ ((xt p S n args).2 = false -> (xt p S n args).1.calls = S.calls) /\ (xt p S n args).1.gl = S.gl /\ (xt p S n args).1.used = S.used := by
  unfold xt
  split
  . exact ⟨fun q => (by cases q), fun _ => rfl, rfl, rfl⟩
  simp only [hf]
  split
  . exact ⟨fun _ => rfl, fun q => (by cases q), rfl, rfl⟩
  . exact ⟨fun q => (by cases q), fun _ => rfl, rfl, rfl⟩
section
variable {lo : Low} {h : za} {b mb wb : Nat} {p : Pg} {world : List Int} {gl kv wn : Value} {fuel : Int} {kept : Option (Int -> Bool)}
theorem zl5 (hp : Rd lo (PgOk · p)) (g : PgG p) (hK : KV kv kept) (hwl : world.length < 4611686018427387904) {T : St × Bool} (x : zky lo h p b mb wb world gl kv wn T.1) (hI : T.2 = true -> StI p T.1 /\ (T.1.kind = 0 -> T.1.calls ≠ [])) (hs : T.1.steps = 0) (hf0 : 0 <= fuel) (hf1 : fuel <= 10000000) {J : List Value -> za -> Prop}
    (k : ∀ h' S ok, zca p world kept fuel.toNat T = (S, ok) -> zky lo h' p b mb wb world gl kv wn S -> J [.bool ok] h') :
    LP (fun vs64 h65 j63 => GD (nth vs64 0) true (fun k66 => k66 (xF b) h65) (kg vs64 J (xF b) (.int .i64 fuel) j63) h65) [.bool T.2] h := by
  refine kj (fun m vs h' => ∃ S ok, vs = [.bool ok] /\ zky lo h' p b mb wb world gl kv wn S /\ (ok = true -> StI p S /\ (S.kind = 0 -> S.calls ≠ []) /\ S.steps + m = fuel) /\ zca p world kept fuel.toNat T = zca p world kept m (S, ok))
    fuel.toNat ⟨T.1, T.2, rfl, x, fun q => ⟨(hI q).1, (hI q).2, by omega⟩, rfl⟩ ?_
  rintro m vs h' ⟨S, ok, rfl, x, hI, hl⟩
  have out : ¬ (ok = true /\ S.kind = 0) -> J [.bool ok] h' := fun q => by
    refine k h' S ok ?_ x
    rw [hl]
    cases m with
    | zero => show (if ok = true /\ S.kind = 0 then ({ S with kind := 2 }, ok) else (S, ok)) = _; rw [if_neg q]
    | succ m => show (if ok = true /\ S.kind = 0 then _ else (S, ok)) = _; rw [if_neg q]
  obtain ⟨ev, lk, cl, fbs, hlen, s⟩ := x
  have gm := s.get
  unfold yG xF at gm
  unfold xF
  cases ok with
  | false =>
    simp -implicitDefEqProofs only [EE, nth, ne_eq, jY, jX, jT, kg]
    exact out (by simp)
  | true =>
    by_cases hk : ¬ S.kind = 0
    . simp -implicitDefEqProofs only [EE, nth, ne_eq, ld1, yc, u2, qu, jY, jX, jT, kg, gm, hk]
      exact out (by simp [hk])
    have hk : S.kind = 0 := Classical.not_not.1 hk
    obtain ⟨I, hne, hsf⟩ := hI rfl
    have hne := hne hk
    cases m with
    | zero =>
      have e : S.steps = fuel := by omega
      simp -implicitDefEqProofs only [EE, nth, ↓BK, Nat.reduceAdd, ne_eq, ld1, yc, u2, XB, qu, VV, jY, jX, jT, kg, gm, hk, e]
      simp -implicitDefEqProofs only [EE, zeP, u2, qu, JG]
      refine y9 s (by simp) rfl fun h2 s2 => ?_
      refine k h2 { S with kind := 2 } true ?_ ⟨ev, lk, cl, fbs, hlen, s2⟩
      rw [hl]
      show (if true = true /\ S.kind = 0 then ({ S with kind := 2 }, true) else (S, true)) = _
      rw [if_pos ⟨rfl, hk⟩]
    | succ m =>
      have e : ¬ S.steps = fuel := by omega
      have h0 : 0 <= S.steps := by have := I.lk; omega
      have hw : IntKind.wrap .i64 (S.steps + 1) = S.steps + 1 := Go.Mem.w64 (by omega) (by omega)
      simp -implicitDefEqProofs only [EE, nth, ↓BK, Nat.reduceAdd, ne_eq, ld1, yc, u2, XB, qu, VV, jY, jX, jT, kg, gm, hk, e]
      simp -implicitDefEqProofs only [EE, Nat.reduceAdd, ld1, yc, zeP, XB, qu, J9, gm, hw]
      refine y9 s (by simp) rfl fun h2 s2 => ?_
      have ok2 := I.ok g (by omega)
      refine zJ (by kernel_rfl) rfl (zmW (S := { S with steps := S.steps + 1 }) hp hK hwl ⟨ev, lk, cl, fbs, hlen, s2⟩ ⟨ok2.fr, ok2.at_, ok2.low, ok2.many, ok2.lk, ok2.ev, ok2.used, ok2.mem, ok2.gl⟩ hne) ?_
      rintro v h3 ⟨rfl, x3⟩
      refine ⟨m, by omega, _, _, rfl, x3, fun q => ⟨zl7 g I hne q, fun q2 => zkY p world kept _ hk q q2, ?_⟩, ?_⟩
      . have := (zcK p world kept { S with steps := S.steps + 1 }).steps
        rw [this]
        show S.steps + 1 + (m : Int) = fuel
        omega
      . rw [hl]
        show (if true = true /\ S.kind = 0 then _ else (S, true)) = _
        rw [if_pos ⟨rfl, hk⟩]
end
end Go.Rm
namespace Go.Rm
open Go.Ai Go.Proofs Go.Mem
open Go.Rtl (Ins Pg writesI PgOk FnOk InsOk SliceI SliceR Old inc)
set_option linter.unusedVariables false
set_option linter.unusedSimpArgs false
set_option maxRecDepth 10000
def ze9 (f : Go.Rtl.Fn) (args : List Int) (fuel : Int) : Prop := args.length ≠ f.params.length \/ fuel < 0 \/ 10000000 < fuel
instance (f : Go.Rtl.Fn) (args : List Int) (fuel : Int) : Decidable (ze9 f args fuel) := by unfold ze9; infer_instance
def resV0 (kind exit : Int) (ev lk : Value) (steps : Int) : Value := .agg #[.int .i64 kind, .int .i64 exit, ev, lk, .int .i64 steps]
def RunV (h : za) (S : St) (v : Value) (h' : za) : Prop := ∃ ev lk, v = .tuple #[resV0 S.kind S.exit ev lk S.steps, .int .i64 0] /\ Sat (.of h) h' [slc 54 2 ev (S.ev.map evRow), slc 39 3 lk (S.lk.map lkRow)]
def RefV (h : za) (v : Value) (h' : za) : Prop := v = .tuple #[resV0 0 0 (.slice none 0 0) (.slice none 0 0) 0, .int .i64 1] /\ Sat (.of h) h' []
theorem zn7 {h : za} {sv : Value} {l : List Int} (S : SliceI h sv l) (r : TypeId) (h' : za) : zg Tryd.prog .len [26] r [sv] h' = some (.int .i64 l.length, h') := by
  rcases S with ⟨rfl, rfl⟩ | ⟨b, off, cp, rfl, _⟩
  . simp only [zck, List.length_nil]
  . simp only [zck]
theorem SliceI.shape {h : za} {sv : Value} {l : List Int} (S : SliceI h sv l) : ∃ a n c, sv = .slice a n c := by
  rcases S with ⟨rfl, _⟩ | ⟨b, off, cp, rfl, _⟩ <;> exact ⟨_, _, _, rfl⟩
theorem SliceR.shape {h : za} {sv : Value} {n : Nat} {l : List (List Value)} (S : SliceR h sv n l) : ∃ a n c, sv = .slice a n c := by
  rcases S with ⟨rfl, _⟩ | ⟨b, off, cp, rfl, _⟩ <;> exact ⟨_, _, _, rfl⟩
theorem zmw (v00 : Option Addr) (v00l v00c : Nat) (v01 : Option Addr) (v01l v01c : Nat) (v02 : Int) (v1 : Option Addr) (v2 : Option Addr) : yj Tryd.prog 79 [(0, (.agg #[(.slice v00 v00l v00c), (.slice v01 v01l v01c), (.int .i64 v02)])), (1, (.pointer v1)), (2, (.pointer v2)), (6, .nilFunc)] = some (.agg #[(.slice v00 v00l v00c), (.slice v01 v01l v01c), (.int .i64 v02), .pointer v1, .pointer v2, .int .i64 0, .int .i64 0, .slice none 0 0, .slice none 0 0, .int .i64 0, .slice none 0 0, .slice none 0 0, .nilFunc]) := zU (by kernel_rfl)
theorem znP {kv : Value} {kept : Option (Int -> Bool)} (hK : KV kv kept) : (zV kv = false /\ cellOk kv = true) /\ ∀ (v00 : Option Addr) (v00l v00c : Nat) (v01 : Option Addr) (v01l v01c : Nat) (v02 : Int) (v1 : Option Addr) (v2 : Option Addr), yj Tryd.prog 79 [(0, (.agg #[(.slice v00 v00l v00c), (.slice v01 v01l v01c), (.int .i64 v02)])), (1, (.pointer v1)), (2, (.pointer v2)), (6, kv)] = some (.agg #[(.slice v00 v00l v00c), (.slice v01 v01l v01c), (.int .i64 v02), .pointer v1, .pointer v2, .int .i64 0, .int .i64 0, .slice none 0 0, .slice none 0 0, .int .i64 0, .slice none 0 0, .slice none 0 0, kv]) := by
  unfold KV at hK
  cases kept with
  | none => subst hK; exact ⟨⟨rfl, rfl⟩, zmw⟩
  | some K => obtain ⟨g, rfl, _⟩ := hK; exact ⟨⟨rfl, rfl⟩, fun _ _ _ _ _ _ _ _ _ => Q3 _ _ _ _ _ _ _ _ _ _ _ _⟩
section
variable {h : za} {p : Pg} {f : Go.Rtl.Fn} {av wv kv : Value} {args world : List Int} {fuel : Int} {kept : Option (Int -> Bool)}
theorem zmH (P : PgOk h p) (g : PgG p) (hf : p.funcs[p.main.toNat]? = some f) (ha : SliceI h av args) (hw : SliceI h wv world) (hwl : world.length * 8 <= 2 ^ 47) (hK : KV kv kept) :
    DC Tryd.prog 16 [p.val, av, wv, .int .i64 fuel, kv] h (fun v h' => if ze9 f args fuel then RefV h v h' else RunV h (runM p args world kept fuel.toNat) v h') := by
  apply Yv; intro wf
  apply zfE
  unfold zjC
  have s0 : Sat (.of h) h [] := Sat.self wf.2
  have RP : Rd (.of h) (PgOk · p) := Rd.of (Low.qg h) P fun h' o => P.old o
  have RA : Rd (.of h) (SliceI · av args) := Rd.of (Low.qg h) ha fun h' o => ha.old o
  have RW : Rd (.of h) (SliceI · wv world) := Rd.of (Low.qg h) hw fun h' o => hw.old o
  have gvn := P.globals.nob
  have gvc := P.globals.cok
  have fvn := P.funcs.nob
  have fvc := P.funcs.cok
  have avn := ha.nob
  have avc := ha.cok
  have wvn := hw.nob
  have wvc := hw.cok
  have al := zn7 ha 3
  simp -implicitDefEqProofs only [EE, Value.cells, zcb]
  refine zly s0 wf fun b5 h2 wf2 s2 => ?_
  simp -implicitDefEqProofs only []
  refine zly s2 wf2 fun b10 h4 wf4 s4 => ?_
  have g5 := (s4.p 1).get
  have P4 := RP.at s4
  obtain ⟨bf, o, cf, tf, hix, hbf, hgf, hof, htf, hkf⟩ := SliceR.zh1 P4.funcs (i := p.main.toNat) (r := f.row) (by rw [List.getElem?_map, hf]; rfl) rfl
  have hmn : ((p.main.toNat : Nat) : Int) = p.main := by have := g.main; omega
  rw [hmn] at hix
  have k1 := hkf 1 (by decide)
  have fm := List.mem_of_getElem? hf
  have pn := (P4.fns f fm).params.nob
  have pl := (P4.fns f fm).params.Q2 3
  simp -implicitDefEqProofs only [EE, ld1, qa, qN, yc, xV, V1, X1, g5, avn, al, hix, hgf, k1, pn, pl]
  have bad : ze9 f args fuel -> KO (.pointer (some ⟨b10, 0, none⟩)) h4 (fun v h' => if ze9 f args fuel then RefV h v h' else RunV h (runM p args world kept fuel.toNat) v h') (fun vs16 h17 => opt (zd Tryd.prog 25 (.pointer (some ⟨b5, 0, none⟩)) h17) fun t41 => K4 Tryd.prog 28 [] h17 (fun t42 h20 => K4 Tryd.prog 29 [wv] h20 (Vy t41 t42 kv (.pointer (some ⟨b5, 0, none⟩)) av (.int .i64 fuel) (.pointer (some ⟨b10, 0, none⟩)) (fun v h' => if ze9 f args fuel then RefV h v h' else RunV h (runM p args world kept fuel.toNat) v h')))) := by
    intro hb
    simp only [if_pos hb]
    unfold KO
    simp -implicitDefEqProofs only [EE, Nat.reduceAdd, UN, zka]
    refine y9 s4 (by simp) rfl fun h5 s5 => ?_
    have g6 := s5.get
    simp -implicitDefEqProofs only [EE, ze, if_true, Nat.reduceAdd, ldn, QU, g6]
    exact ⟨rfl, s5.zU 0⟩
  by_cases e1 : ¬ (args.length : Int) = (f.params.length : Int)
  . simp -implicitDefEqProofs only [EE, ldn, Vi, Zd, jA, jP, e1]
    exact bad (.inl (by omega))
  have e1 : (args.length : Int) = (f.params.length : Int) := Classical.not_not.1 e1
  by_cases e2 : fuel < 0
  . simp -implicitDefEqProofs only [EE, ldn, Vi, Zd, jA, jP, e1, e2]
    exact bad (.inr (.inl e2))
  by_cases e3 : fuel > 10000000
  . simp -implicitDefEqProofs only [EE, ldn, Vi, Zd, jA, jP, e1, e2, e3]
    exact bad (.inr (.inr (by omega)))
  have nb : ¬ ze9 f args fuel := by unfold ze9; omega
  clear bad
  simp -implicitDefEqProofs only [EE, if_true, Nat.reduceAdd, ldn, Vi, Zd, jA, jP, e1, e2, e3, g5]
  refine zf1 (by kernel_rfl) rfl wf4 s4 (zlW (Sat.self wf4.lock.2)) ?_
  rintro v h5 ⟨mb, rfl, s5⟩ back wf6
  have s6 := back _ s5
  clear back s5
  generalize wO h4 h5 = h6 at wf6 s6 ⊢
  refine zf1 (by kernel_rfl) (by simp only [yH, wvn, cond_false]) wf6 s6 (zmN (RW.at s6).lock hwl (Sat.self wf6.lock.2)) ?_
  rintro v h7 ⟨wb, wn, rfl, s7⟩ back wf8
  have s8 := back _ s7
  clear back s7
  generalize wO h6 h7 = h8 at wf8 s8 ⊢
  unfold xF
  obtain ⟨⟨hkn, hkc⟩, hbd⟩ := znP hK
  have bd : ∀ q1 q2, yj Tryd.prog 79 [(0, .agg #[p.gv, p.fv, .int .i64 p.main]), (1, .pointer q1), (2, .pointer q2), (6, kv)] = some (.agg #[p.gv, p.fv, .int .i64 p.main, .pointer q1, .pointer q2, .int .i64 0, .int .i64 0, .slice none 0 0, .slice none 0 0, .int .i64 0, .slice none 0 0, .slice none 0 0, kv]) := by
    obtain ⟨a1, n1, c1, q1⟩ := SliceI.shape P.globals
    obtain ⟨a2, n2, c2, q2⟩ := SliceR.shape P.funcs
    rw [q1, q2]
    exact fun _ _ => hbd _ _ _ _ _ _ _ _ _
  simp -implicitDefEqProofs only [EE, Value.cells, ld1, qa, vH, Vy, hkn, bd]
  refine ZO s8 fun b h9 s9 => ?_
  have g9 := (s9.p 5).get
  have PG := (RP.at s9).globals
  have gl9 := PG.len
  simp -implicitDefEqProofs only [EE, ↓BK, g9, gvn, gl9]
  refine kj (fun m vs h' => ∃ (i : Nat) (gl : Value), i <= p.globals.length /\ m = p.globals.length - i /\ vs = [.int .i64 (i : Nat)] /\ Sat (.of h) h' [slc 3 1 gl ((xE (p.globals.take i) [] []).2.map x9), pt b (yG p mb wb (Wx p) (.slice none 0 0) (.slice none 0 0) gl (.slice none 0 0) kv), pt wb (.cells [wn, .int .i64 0] 100), slc 2 1 wn (world.map x9), jt mb (xE (p.globals.take i) [] []).1, pt b10 (.cells [.int .i64 0, .int .i64 0, .slice none 0 0, .slice none 0 0, .int .i64 0] 32), pt b5 (.cells p.row 25)])
    p.globals.length ⟨0, .slice none 0 0, Nat.zero_le _, rfl, rfl, qR _ _ s9⟩ ?_
  rintro m vs h' ⟨i, gl, hi, rfl, rfl, s10⟩
  unfold zdo
  obtain ⟨gm, gll, gb⟩ := zbS (p.globals.take i) [] [] zcD (fun z h => by cases h)
  have g200 := g.globals
  have hlen : (p.globals.take i).length = i := by simp; omega
  by_cases hc : (i : Int) < (p.globals.length : Int)
  . obtain ⟨r, hr1⟩ : ∃ r, p.globals[i]? = some r := ⟨_, List.getElem?_eq_getElem (by omega)⟩
    obtain ⟨b11, o11, c11, t11, ix11, lt11, g11, k11⟩ := (RP.at s10).globals.at hr1
    have gM := (s10.p 1).get
    unfold yG xF at gM
    have et : p.globals.take (i + 1) = p.globals.take i ++ [r] := by rw [List.take_add_one, hr1]; rfl
    have e1 := Qa (p.globals.take i) r [] []
    rw [<- et] at e1
    have a := ZD r gm
    simp -implicitDefEqProofs only [EE, nth, ↓BK, ld1, yc, zb1, Z9, zdp, zdB, hc, ix11, g11, k11, gM]
    obtain ⟨lo1, l1, s11, fr⟩ := (s10.f [4]).call (L2 := [jt mb (xE (p.globals.take i) [] []).1])
    refine zJ (by kernel_rfl) rfl (zgd s11 r) ?_
    rintro v h12 ⟨rfl, s12⟩
    have s13 := fr _ _ s12
    have gM := (s13.p 2).get
    unfold yG xF at gM
    simp -implicitDefEqProofs only [EE, ld1, zb1, Z9, zcO, gM]
    obtain ⟨lo2, l2, s14, fr2⟩ := s13.call (L2 := [jt mb (yK (xE (p.globals.take i) [] []).1 r).1])
    refine zJ (by kernel_rfl) rfl (zlU s14 a.1.1 a.2.2) ?_
    rintro v h15 ⟨rfl, s15⟩
    have s16 := fr2 _ _ s15
    have gM := (s16.p 2).get
    unfold yG xF at gM
    have gn := slc_nob (s16.p 1)
    have s17 := s16.push (.cells [.int .i64 (yK (xE (p.globals.take i) [] []).1 r).2.1] 3)
    obtain ⟨b', c', h18, a1, s18⟩ := Yj (s17.p 2) (row_of (f := x9) (fun _ => rfl) _) [.int .i64 (yK (xE (p.globals.take i) [] []).1 r).2.1] rfl (by decide) 8 (by rw [List.length_map, gll]; simp; omega)
    rw [List.length_map] at a1 s18
    have hap : ∀ r', zg Tryd.prog .append [22, 22] r' [gl, .slice (some ⟨h15.next, 0, none⟩) 1 3] (h15.push (.cells [.int .i64 (yK (xE (p.globals.take i) [] []).1 r).2.1] 3)) = some (.slice (some ⟨b', 0, none⟩) ((xE (p.globals.take i) [] []).2.length + 1) c', h18) := fun r' =>
      (zod r' _ _ 1 [.int .i64 (yK (xE (p.globals.take i) [] []).1 r).2.1] _ rfl (by simp only [xh, zw]; rfl) rfl rfl).trans a1
    simp -implicitDefEqProofs only [EE, ld1, qa, zom, zf9, zgK, zdm, gM, gn, hap]
    refine y9 (s18.p 3) (by simp) rfl fun h19 s19 => ?_
    simp -implicitDefEqProofs only [EE, nth, inc (show i < 4611686018427387904 by omega)]
    refine ⟨p.globals.length - (i + 1), by omega, i + 1, .slice (some ⟨b', 0, none⟩) ((xE (p.globals.take i) [] []).2.length + 1) c', by omega, rfl, rfl, ?_⟩
    rw [e1]
    rw [List.map_append]
    exact s19.k [1, 0, 4, 5, 3, 6, 7]
  . have hi9 : i = p.globals.length := by omega
    subst hi9
    rw [List.take_length] at s10
    simp -implicitDefEqProofs only [EE, nth, hc]
    clear s2 s4 s6 s8 s9 g5 g9
    unfold JB
    simp -implicitDefEqProofs only [EE, ↓BK, avn, al]
    have hp1 := g.par f fm
    refine kj (fun m vs h' => ∃ (i : Nat) (lv : Value), i <= args.length /\ m = args.length - i /\ vs = [lv, .int .i64 (i : Nat)] /\ Sat (.of h) h' [slc 84 3 lv (((args.take i).map ofV).map V.y1), slc 3 1 gl ((xE p.globals [] []).2.map x9), pt b (yG p mb wb (Wx p) (.slice none 0 0) (.slice none 0 0) gl (.slice none 0 0) kv), pt wb (.cells [wn, .int .i64 0] 100), slc 2 1 wn (world.map x9), jt mb (xE p.globals [] []).1, pt b10 (.cells [.int .i64 0, .int .i64 0, .slice none 0 0, .slice none 0 0, .int .i64 0] 32), pt b5 (.cells p.row 25)])
      args.length ⟨0, .slice none 0 0, Nat.zero_le _, rfl, rfl, qR _ _ s10⟩ ?_
    rintro m vs h9 ⟨i, lv, hi, rfl, rfl, s11⟩
    unfold Jx
    by_cases hc2 : (i : Int) < (args.length : Int)
    . obtain ⟨r, hr1⟩ : ∃ r, args[i]? = some r := ⟨_, List.getElem?_eq_getElem (by omega)⟩
      have et : args.take (i + 1) = args.take i ++ [r] := by rw [List.take_add_one, hr1]; rfl
      have hlen2 : (args.take i).length = i := by simp; omega
      obtain ⟨bb, o2, cs, t, ⟨off, cp, rfl, rfl⟩, hib, hbb, hgt, hle, htk, hat⟩ := (zdh (RA.at s11)).spot (i := i) (r := x9 r) (by rw [List.getElem?_map, hr1]; rfl) rfl
      have hat0 : cs[off + i * 1]? = some (.int .i64 r) := hat 0 (by decide)
      rw [Nat.mul_one] at hat0
      rw [List.length_map] at *
      have hi8 : (0 : Int) <= i := by omega
      simp -implicitDefEqProofs only [EE, nth, ↓BK, if_true, ld1, vK, znp, zdO, hc2, hi8, hgt, hat0, Nat.mul_one, Int.toNat_natCast]
      refine zi (by kernel_rfl) rfl (YZ r _) ?_
      have s12 := s11.push (.cells [.int .i64 (ofV r).k, .int .i64 (ofV r).n, .int .i64 (ofV r).b] 84)
      obtain ⟨b', c', h18, a1, s18⟩ := Yj (s12.p 1) (vL _) (ofV r).y1 rfl (by decide) 24 (by simp; omega)
      rw [List.length_map, List.length_map] at a1 s18
      have ln := slc_nob s11
      have hap : ∀ r', zg Tryd.prog .append [82, 82] r' [lv, .slice (some ⟨h9.next, 0, none⟩) 1 3] (h9.push (.cells [.int .i64 (ofV r).k, .int .i64 (ofV r).n, .int .i64 (ofV r).b] 84)) = some (.slice (some ⟨b', 0, none⟩) ((args.take i).length + 1) c', h18) := fun r' =>
        (zkq r' _ _ 1 (ofV r).y1 _ rfl (by simp only [xh, zw]; rfl) rfl rfl).trans a1
      simp -implicitDefEqProofs only [EE, nth, Up, zdz, zdy, ln, hap, inc (show i < 4611686018427387904 by omega)]
      refine ⟨args.length - (i + 1), by omega, i + 1, _, by omega, rfl, rfl, ?_⟩
      rw [et, List.map_append, List.map_append]
      exact s18.k [0, 2, 3, 4, 5, 6, 7, 8]
    . have hi9 : i = args.length := by omega
      subst hi9
      rw [List.take_length] at s11
      have gb5 := (s11.p 7).get
      simp -implicitDefEqProofs only [EE, nth, ld1, yc, V1, yc, V1, za8, hc2, gb5]
      obtain ⟨lo1, l1, ra, s12, back⟩ := zjv s11 (vL _)
      have s13 := qR 111 1 s12
      obtain ⟨lo2, l2, s14, fr⟩ := (s13.f [2, 0, 5]).call (L2 := [pt b (yG p mb wb (Wx p) (.slice none 0 0) (.slice none 0 0) gl (.slice none 0 0) kv), slc 111 1 (.slice none 0 0) [], jt mb (xE p.globals [] []).1])
      have en := zfT (S := Wx p) (n := p.main.toNat) (fbs := []) (args := args.map ofV) (RP.mono (l1.trans l2)) (ra.mono l2) s14 hf (by rw [List.length_map]; omega) rfl hp1.2 hp1.1
      rw [hmn] at en
      refine zJ (by kernel_rfl) (by simp only [yH, slc_nob s11, cond_false]; rfl) en ?_
      rintro v h15 ⟨rfl, x15⟩
      have es : xt p (Wx p) p.main (args.map ofV) = wC p args := rfl
      obtain ⟨c1, c2, c3, c4⟩ := zbK (S := Wx p) (args := args.map ofV) hf
      rw [es] at x15 c1 c2 c3 c4 ⊢
      have c3 : (wC p args).1.gl = (xE p.globals [] []).2 := c3
      have c4 : (wC p args).1.used = 0 := c4
      obtain ⟨k0, st0, ev0, lk0⟩ := start_facts p args
      have X : ∃ cl' fbs', fbs'.length = (wC p args).1.calls.length /\ Sat lo1 h15 ((yW p b mb wb world (wC p args).1 (.slice none 0 0) (.slice none 0 0) gl cl' kv wn fbs' ++ zbT p fbs' (wC p args).1.calls) ++ [pt b10 (.cells [.int .i64 0, .int .i64 0, .slice none 0 0, .slice none 0 0, .int .i64 0] 32), pt b5 (.cells p.row 25)]) := by
        unfold yW
        rw [c3, c4, ev0, lk0]
        by_cases hok : (wC p args).2 = true
        . rw [if_pos hok] at x15
          obtain ⟨fb, cl', x15⟩ := x15
          have s16 := qR 39 3 (qR 54 2 (fr _ _ x15))
          refine ⟨cl', [fb], by rw [c1 hok]; rfl, ?_⟩
          rw [c1 hok]
          exact s16.f [2, 3, 4, 0, 1, 6, 7, 8, 5]
        . rw [if_neg hok] at x15
          have s16 := qR 39 3 (qR 54 2 (fr _ _ x15))
          have c2 := c2 (by simpa using hok)
          refine ⟨.slice none 0 0, [], by rw [c2]; rfl, ?_⟩
          rw [c2]
          exact s16.f [2, 3, 4, 0, 1, 5, 6, 7]
      clear x15 s14 s13 s12 s11 s10
      obtain ⟨cl', fbs', hfl, s18⟩ := X
      obtain ⟨lo3, l3, s19, fr3⟩ := s18.call (L2 := yW p b mb wb world (wC p args).1 (.slice none 0 0) (.slice none 0 0) gl cl' kv wn fbs' ++ zbT p fbs' (wC p args).1.calls)
      unfold zav
      refine zl5 (RP.mono (l1.trans l3)) g hK (by omega) (T := wC p args) ⟨_, _, cl', fbs', hfl, s19⟩ (fun q => ⟨zlk g args q, fun _ => by rw [c1 q]; simp⟩) st0 (by omega) (by omega) ?_
      intro h20 S ok hl x20
      obtain ⟨ev, lk, cl2, fbs2, hfl2, s20⟩ := x20
      have s21 := fr3 _ _ s20
      have fin : ∀ {h22 : za} (S' : St), S'.ev = S.ev -> S'.lk = S.lk -> zfQ (S, ok) = S' -> Sat lo1 h22 ((pt b (yG p mb wb S' ev lk gl cl2 kv) :: (yW p b mb wb world S ev lk gl cl2 kv wn fbs2).tail ++ zbT p fbs2 S.calls) ++ [pt b10 (.cells [.int .i64 0, .int .i64 0, .slice none 0 0, .slice none 0 0, .int .i64 0] 32), pt b5 (.cells p.row 25)]) -> Uj (.pointer (some ⟨b, 0, none⟩)) (.pointer (some ⟨b10, 0, none⟩)) (fun v h' => if ze9 f args fuel then RefV h v h' else RunV h (runM p args world kept fuel.toNat) v h') [] h22 := by
        intro h22 S' he hk hend s22
        have g22 := s22.get
        unfold yG xF at g22
        have en := slc_nob (s22.p 4)
        have ec := slc_cok (s22.p 4)
        have kn := slc_nob (s22.p 3)
        have kc := slc_cok (s22.p 3)
        have s23 := s22.perm List.perm_append_comm
        simp -implicitDefEqProofs only [EE, if_true, Nat.reduceAdd, Nat.reduceLeDiff, ldn, QU, UN, qu, Uj, g22]
        refine y9 s23 (by simp) (by simp [ec, kc]; exact ⟨rfl, rfl, rfl⟩) fun h24 s24 => ?_
        have g24 := s24.get
        simp -implicitDefEqProofs only [EE, ze, if_true, Nat.reduceAdd, ldn, QU, g24]
        rw [if_neg nb]
        have er : runM p args world kept fuel.toNat = S' := by unfold runM; rw [hl]; exact hend
        rw [er]
        refine ⟨ev, lk, rfl, ?_⟩
        rw [he, hk]
        exact (back _ _ (s24.k [6, 5])).drop
      cases ok with
      | true =>
        simp -implicitDefEqProofs only [EE, nth]
        exact fin S rfl rfl rfl s21
      | false =>
        have g21 := s21.get
        unfold yG xF at g21
        simp -implicitDefEqProofs only [EE, nth, zeP, u2, qu, zai]
        refine y9 s21 (by simp) rfl fun h22 s22 => ?_
        exact fin { S with kind := 3 } rfl rfl rfl s22
end
end Go.Rm
namespace Go.Rm
open Go.Ai Go.Proofs Go.Mem
open Go.Rtl (Ins Pg writesI PgOk FnOk InsOk SliceI SliceR Old inc rGoodB rGood_q)
set_option linter.unusedVariables false
set_option linter.unusedSimpArgs false
set_option maxRecDepth 10000
def zd2 (p : Pg) : Go.Rtl.Fn := (p.funcs[p.main.toNat]?).getD ⟨⟨#[]⟩, .nilFunc, [], 0, 0, 0, .nilFunc, []⟩
theorem PgG.zd2 {p : Pg} (g : PgG p) : p.funcs[p.main.toNat]? = some (zd2 p) := by
  have := g.main
  unfold Go.Rm.zd2
  rw [List.getElem?_eq_getElem (by omega)]
  rfl
def runB (p : Pg) (args : List Int) (fuel : Int) : Prop := rGoodB p = true /\ ¬ ze9 (zd2 p) args fuel
instance (p : Pg) (args : List Int) (fuel : Int) : Decidable (runB p args fuel) := by unfold runB; infer_instance
section
variable {h : za} {p : Pg} {av wv : Value} {args world : List Int} {fuel : Int}
theorem run_s (P : PgOk h p) (ha : SliceI h av args) (hw : SliceI h wv world) (hwl : world.length * 8 <= 2 ^ 47) :
    DC Tryd.prog 6 [p.val, av, wv, .int .i64 fuel] h (fun v h' => if runB p args fuel then RunV h (runM p args world none fuel.toNat) v h' else RefV h v h') := by
  apply Yv; intro wf
  apply ziU
  unfold zni
  have s0 : Sat (.of h) h [] := Sat.self wf.2
  have RP : Rd (.of h) (PgOk · p) := Rd.of (Low.qg h) P fun h' o => P.old o
  have RA : Rd (.of h) (SliceI · av args) := Rd.of (Low.qg h) ha fun h' o => ha.old o
  have RW : Rd (.of h) (SliceI · wv world) := Rd.of (Low.qg h) hw fun h' o => hw.old o
  have gvn := P.globals.nob
  have gvc := P.globals.cok
  have fvn := P.funcs.nob
  have fvc := P.funcs.cok
  have avn := ha.nob
  have wvn := hw.nob
  simp -implicitDefEqProofs only [EE, Value.cells, zcb]
  refine ZO s0 fun b5 h2 s2 => ?_
  simp -implicitDefEqProofs only [EE, ldn, Vi]
  refine ZO s2 fun b10 h4 s4 => ?_
  have g5 := (s4.p 1).get
  simp -implicitDefEqProofs only [EE, if_true, Nat.reduceAdd, g5]
  refine zi (by kernel_rfl) (by simp only [yH]; rfl) (rGood_q p h4 (RP.at s4)) ?_
  cases hg : rGoodB p with
  | false =>
    simp -implicitDefEqProofs only [EE, Nat.reduceAdd, UN, zka, zf2, zbv]
    refine y9 s4 (by simp) rfl fun h5 s5 => ?_
    have g6 := s5.get
    simp -implicitDefEqProofs only [EE, ze, if_true, Nat.reduceAdd, ldn, QU, g6]
    rw [if_neg (by unfold runB; rw [hg]; simp)]
    exact ⟨rfl, s5.zU 0⟩
  | true =>
    simp -implicitDefEqProofs only [EE, if_true, Nat.reduceAdd, ldn, Vi, zbv, g5]
    have g := zk3 hg
    refine zJ (by kernel_rfl) (by simp only [yH, avn, wvn, cond_false]; rfl) (zmH (fuel := fuel) (kept := none) (RP.at s4) g g.zd2 (RA.at s4) (RW.at s4) hwl rfl) ?_
    rintro v h7 hv
    by_cases hb : ze9 (zd2 p) args fuel
    . rw [if_pos hb] at hv
      obtain ⟨rfl, s8⟩ := hv
      unfold resV0
      simp -implicitDefEqProofs only [EE, Nat.reduceAdd, UN, zbA]
      refine y9 (s4.join s8) (by simp) rfl fun h9 s9 => ?_
      have g9 := s9.get
      simp -implicitDefEqProofs only [EE, ze, if_true, Nat.reduceAdd, ldn, QU, g9]
      rw [if_neg (by unfold runB; rw [hg]; simp [hb])]
      exact ⟨rfl, s9.zU 0⟩
    . rw [if_neg hb] at hv
      obtain ⟨ev, lk, rfl, s8⟩ := hv
      have en := slc_nob s8
      have ec := slc_cok s8
      have kn := slc_nob (s8.p 1)
      have kc := slc_cok (s8.p 1)
      have s9 := (s4.join s8).p 2
      unfold resV0
      simp -implicitDefEqProofs only [EE, Nat.reduceAdd, UN, zbA]
      refine y9 s9 (by simp) (by simp [ec, kc]; exact ⟨rfl, rfl, rfl⟩) fun h10 s10 => ?_
      have g10 := s10.get
      simp -implicitDefEqProofs only [EE, ze, if_true, Nat.reduceAdd, ldn, QU, g10]
      rw [if_pos ⟨hg, hb⟩]
      exact ⟨ev, lk, rfl, s10.k [1, 2]⟩
end
end Go.Rm
namespace Go.Rl
open Go.Ai Go.Proofs
open Go.Rtl (Ins Pg PgOk FnOk InsOk SliceI SliceR Old inc quiet_b isB)
open Go.Rm (evRow lkRow resV0 row_of Rd Rd.of Rd.at)
set_option linter.unusedVariables false
set_option linter.unusedSimpArgs false
set_option maxRecDepth 10000
theorem ziY {P : Program} {f : FuncId} {args : List Value} {h : za} (wf : WF' h) (d : DC P f args h.lock (fun v _ => ∃ B, v = .bool B)) : ∃ B, xG P f args h (.bool B) := by
  obtain ⟨v, h1, ⟨B, rfl⟩, _, t⟩ := d wf.lock
  exact ⟨B, rfl, t.mono fun v h1 e => e.1⟩
section
variable {h : za} {av bv : Value}
theorem zoL {h : za} {sv : Value} {l : List (Int × Int)} (S : SliceR h sv 2 (l.map evRow)) (r : TypeId) (h' : za) : zg Tryd.prog .len [29] r [sv] h' = some (.int .i64 l.length, h') := by
  rcases S with ⟨rfl, e⟩ | ⟨b, off, cp, rfl, _⟩
  . have : l = [] := by simpa using e
    subst this
    simp only [zhR, List.length_nil]
  . simp only [zhR, List.length_map]
theorem znA {h : za} {sv : Value} {l : List (Int × Int × Int)} (S : SliceR h sv 3 (l.map lkRow)) (r : TypeId) (h' : za) : zg Tryd.prog .len [30] r [sv] h' = some (.int .i64 l.length, h') := by
  rcases S with ⟨rfl, e⟩ | ⟨b, off, cp, rfl, _⟩
  . have : l = [] := by simpa using e
    subst this
    simp only [zcp, List.length_nil]
  . simp only [zcp, List.length_map]
theorem zgq {α : Type} {a b : List α} (p : a <+: b) : a.length <= b.length := p.length_le
theorem zgD {α : Type} {a b : List α} (p : a <+: b) {i : Nat} {x : α} (h : a[i]? = some x) : b[i]? = some x := by
  obtain ⟨c, rfl⟩ := p
  have hi : i < a.length := by
    rcases Nat.lt_or_ge i a.length with q | q
    . exact q
    . rw [List.getElem?_eq_none q] at h; cases h
  rw [List.getElem?_append_left hi]; exact h
theorem zdq {a b : List (Int × Int)} {all : Bool} (A : SliceR h av 2 (a.map evRow)) (B : SliceR h bv 2 (b.map evRow)) (hl : a.length < 4611686018427387904) (p : a <+: b) (e : all = true -> a = b) : xG Tryd.prog 9 [av, bv, .bool all] h (.bool true) := by
  apply quiet_b
  replace A := A.lock
  replace B := B.lock
  generalize h.lock = L at A B
  apply zb2
  unfold zcL
  have an := A.nob
  have bn := B.nob
  have al := zoL A 3
  have bl := zoL B 3
  have c1 : ¬ (a.length : Int) > (b.length : Int) := by have := zgq p; omega
  have rest : XO (.bool false) (fun v _ => v = .bool true) av bv (.bool false) L := by
    simp -implicitDefEqProofs only [EE, nth, ↓BK, XO]
    refine kj (fun m vs h' => ∃ (i : Nat), i <= a.length /\ m = a.length - i /\ vs = [.bool false, .int .i64 (i : Nat)] /\ h' = L) a.length ⟨0, Nat.zero_le _, rfl, rfl, rfl⟩ ?_
    rintro m vs h' ⟨i, hi, rfl, rfl, rfl⟩
    unfold Qz
    by_cases hc : (i : Int) < (a.length : Int)
    . obtain ⟨x, hx⟩ : ∃ x, a[i]? = some x := ⟨_, List.getElem?_eq_getElem (by omega)⟩
      have hy := zgD p hx
      have h0 : (0 : Int) <= i := by omega
      have hc2 : (i : Int) < (b.length : Int) := by have := zgq p; omega
      obtain ⟨b1, o1, c1', t1, ⟨off1, cp1, rfl, rfl⟩, hi1, hb1, hg1, hl1, ht1, _⟩ := A.spot (i := i) (r := evRow x) (by rw [List.getElem?_map, hx]; rfl) rfl
      obtain ⟨b2, o2, c2', t2, ⟨off2, cp2, rfl, rfl⟩, hi2, hb2, hg2, hl2, ht2, _⟩ := B.spot (i := i) (r := evRow x) (by rw [List.getElem?_map, hy]; rfl) rfl
      rw [List.length_map] at *
      unfold evRow at ht1 ht2
      simp -implicitDefEqProofs only [EE, nth, ↓BK, if_true, ldn, beq_self_eq_true, znI, znR, zhR, zmF, Qy, Qi, hc, hc2, h0, hg1, hl1, ht1, hg2, hl2, ht2, Int.toNat_natCast, inc (show i < 4611686018427387904 by omega), beq_self_eq_true, Bool.and_self]
      exact ⟨a.length - (i + 1), by omega, i + 1, by omega, rfl, rfl⟩
    . simp -implicitDefEqProofs only [EE, nth, hc, an, al]
  cases all with
  | false =>
    simp -implicitDefEqProofs only [EE, XQ, XA, XT, an, bn, al, bl, c1]
    exact rest
  | true =>
    have e := e rfl
    subst e
    simp -implicitDefEqProofs only [EE, XQ, XA, XT, an, bn, al, bl, c1]
    exact rest
end
section
variable {h : za} {k1 e1 s1 k2 e2 s2 : Int} {ev1 lk1 ev2 lk2 : Value}
theorem zmh {a b : List (Int × Int)} (A : SliceR h ev1 2 (a.map evRow)) (B : SliceR h ev2 2 (b.map evRow)) (hl : a.length < 4611686018427387904) (hk : k1 = k2) (he : e1 = e2) (ha : a = b) (n1 : zV lk1 = false) (n2 : zV lk2 = false) : xG Tryd.prog 7 [resV0 k1 e1 ev1 lk1 s1, resV0 k2 e2 ev2 lk2 s2] h (.bool true) := by
  apply quiet_b
  replace A := A.lock
  replace B := B.lock
  generalize h.lock = L at A B
  apply Yv; intro wf
  have s0 : Sat (.of L) L [] := Sat.self wf.2
  have RA : Rd (.of L) (SliceR · ev1 2 (a.map evRow)) := Rd.of (Low.qg L) A fun h' o => A.old o
  have RB : Rd (.of L) (SliceR · ev2 2 (b.map evRow)) := Rd.of (Low.qg L) B fun h' o => B.old o
  apply zgg
  unfold zkc resV0
  subst hk he ha
  have an := A.nob
  have bn := B.nob
  simp -implicitDefEqProofs only [EE, Value.cells]
  refine ZO s0 fun ba h2 s2 => ?_
  refine ZO s2 fun bb h3 s3 => ?_
  have g1 := (s3.p 1).get
  have g2 := s3.get
  simp -implicitDefEqProofs only [EE, ld1, vK, zib, yc, u2, zce, Kj, zco, zde, zcT, zcF, zc6, g1, g2]
  refine zi (by kernel_rfl) (by simp only [yH, an, bn, cond_false]; rfl) (zdq (RA.at s3) (RB.at s3) hl (List.prefix_refl _) fun _ => rfl) ?_
  simp -implicitDefEqProofs only [EE]
  rfl
theorem zk4 {a b : List (Int × Int × Int)} (A : SliceR h lk1 3 (a.map lkRow)) (B : SliceR h lk2 3 (b.map lkRow)) (hl : a.length < 4611686018427387904) (hk : k1 = k2) (ha : a = b) (n1 : zV ev1 = false) (n2 : zV ev2 = false) : xG Tryd.prog 8 [resV0 k1 e1 ev1 lk1 s1, resV0 k2 e2 ev2 lk2 s2] h (.bool true) := by
  apply quiet_b
  replace A := A.lock
  replace B := B.lock
  generalize h.lock = L at A B
  apply Yv; intro wf
  have s0 : Sat (.of L) L [] := Sat.self wf.2
  have RA : Rd (.of L) (SliceR · lk1 3 (a.map lkRow)) := Rd.of (Low.qg L) A fun h' o => A.old o
  have RB : Rd (.of L) (SliceR · lk2 3 (b.map lkRow)) := Rd.of (Low.qg L) B fun h' o => B.old o
  apply zeO
  unfold zfh resV0
  subst hk ha
  have an := A.nob
  have bn := B.nob
  simp -implicitDefEqProofs only [EE, Value.cells]
  refine ZO s0 fun ba h2 s2 => ?_
  refine ZO s2 fun bb h3 s3 => ?_
  have g1 := (s3.p 1).get
  have g2 := s3.get
  have al := znA (RA.at s3) 3
  have bl := znA (RB.at s3) 3
  have c1 : ¬ ¬ (a.length : Int) = (a.length : Int) := by simp
  simp -implicitDefEqProofs only [EE, nth, ↓BK, ld1, yc, za0, u2, Zc, zbf, J4, zbk, zaN, g1, g2, an, bn, al, bl]
  refine kj (fun m vs h' => ∃ (i : Nat), i <= a.length /\ m = a.length - i /\ vs = [.bool false, .int .i64 (i : Nat)] /\ h' = h3) a.length ⟨0, Nat.zero_le _, rfl, rfl, rfl⟩ ?_
  rintro m vs h' ⟨i, hi, rfl, rfl, rfl⟩
  unfold K1
  by_cases hc : (i : Int) < (a.length : Int)
  . obtain ⟨x, hx⟩ : ∃ x, a[i]? = some x := ⟨_, List.getElem?_eq_getElem (by omega)⟩
    have h0 : (0 : Int) <= i := by omega
    obtain ⟨b1, o1, c1', t1, ⟨off1, cp1, rfl, rfl⟩, hi1, hb1, hg1, hl1, ht1, _⟩ := (RA.at s3).spot (i := i) (r := lkRow x) (by rw [List.getElem?_map, hx]; rfl) rfl
    obtain ⟨b2, o2, c2', t2, ⟨off2, cp2, rfl, rfl⟩, hi2, hb2, hg2, hl2, ht2, _⟩ := (RB.at s3).spot (i := i) (r := lkRow x) (by rw [List.getElem?_map, hx]; rfl) rfl
    rw [List.length_map] at *
    unfold lkRow at ht1 ht2
    simp -implicitDefEqProofs only [EE, nth, ↓BK, if_true, ldn, ld1, beq_self_eq_true, za0, zmB, Zc, zmE, zcp, zj9, zaB, zbl, hc, h0, g1, g2, hg1, hl1, ht1, hg2, hl2, ht2, Int.toNat_natCast, inc (show i < 4611686018427387904 by omega), beq_self_eq_true, Bool.and_self]
    exact ⟨a.length - (i + 1), by omega, i + 1, by omega, rfl, rfl⟩
  . simp -implicitDefEqProofs only [EE, nth, ld1, za0, Zc, hc, g1, an, al]
    rfl
end
section
variable {h : za} {p : Pg}
theorem znZ (P : PgOk h p) (wf : WF' h) : ∃ B, xG Tryd.prog 5 [p.val] h (.bool B) := by
  refine ziY wf ?_
  replace P := P.lock
  replace wf := wf.lock
  generalize h.lock = L at P wf
  have s0 : Sat (.of L) L [] := Sat.self wf.2
  have RP : Rd (.of L) (PgOk · p) := Rd.of (Low.qg L) P fun h' o => P.old o
  apply ziS
  unfold zl4
  have gvn := P.globals.nob
  have gvc := P.globals.cok
  have fvn := P.funcs.nob
  have fvc := P.funcs.cok
  simp -implicitDefEqProofs only [EE, Value.cells]
  refine ZO s0 fun b5 h2 s2 => ?_
  have g5 := s2.get
  have fl := (RP.at s2).funcs.zi4 3
  have gl := (RP.at s2).globals.Q2 3
  rw [List.length_map] at fl
  by_cases c1 : (p.funcs.length : Int) > 12
  . simp -implicitDefEqProofs only [EE, ld1, qN, xV, WO, WR, g5, fvn, fl, c1]
    exact ⟨_, rfl⟩
  by_cases c2 : (p.globals.length : Int) > 12
  . simp -implicitDefEqProofs only [EE, ld1, qa, qN, vH, xV, WO, WR, g5, gvn, fvn, fl, gl, c1, c2]
    exact ⟨_, rfl⟩
  simp -implicitDefEqProofs only [EE, nth, ↓BK, ld1, qa, qN, vH, xV, zcW, WO, WR, g5, gvn, fvn, fl, gl, c1, c2]
  refine kj (fun m vs h' => ∃ (i : Nat) (v0 : Value), i <= p.funcs.length /\ m = p.funcs.length - i /\ vs = [v0, .int .i64 (i : Nat)] /\ h' = h2) p.funcs.length ⟨0, _, Nat.zero_le _, rfl, rfl, rfl⟩ ?_
  rintro m vs h' ⟨i, v0, hi, rfl, rfl, rfl⟩
  unfold zdL
  by_cases hc : (i : Int) < (p.funcs.length : Int)
  . obtain ⟨f, hf⟩ : ∃ f, p.funcs[i]? = some f := ⟨_, List.getElem?_eq_getElem (by omega)⟩
    obtain ⟨bf, o, cf, tf, hix, hbf, hgf, hof, htf, hkf⟩ := SliceR.zh1 (RP.at s2).funcs (i := i) (r := f.row) (by rw [List.getElem?_map, hf]; rfl) rfl
    have cn := ((RP.at s2).fns f (List.mem_of_getElem? hf)).code.nob
    have cl := ((RP.at s2).fns f (List.mem_of_getElem? hf)).code.zga 3
    rw [List.length_map] at cl
    have k2 := hkf 2 (by decide)
    have k3 := hkf 3 (by decide)
    have k5 := hkf 5 (by decide)
    have hin := inc (show i < 4611686018427387904 by omega)
    by_cases d1 : (f.code.length : Int) > 60
    . simp -implicitDefEqProofs only [EE, nth, ↓BK, ld1, qN, YA, xV, vm, Vx, V8, Vq, V3, VI, Ue, VR, Un, V4, hc, g5, fvn, fl, hix, hgf, k5, cn, cl, d1]
      exact ⟨_, rfl⟩
    by_cases d2 : f.zD > 40
    . simp -implicitDefEqProofs only [EE, nth, ↓BK, ld1, qN, yc, YA, xV, qc, vm, Vx, V8, Vq, V3, VI, Ue, VR, Un, V4, hc, g5, fvn, fl, hix, hgf, k2, k5, cn, cl, d1, d2]
      exact ⟨_, rfl⟩
    by_cases d3 : f.frame > 4096
    . simp -implicitDefEqProofs only [EE, nth, ↓BK, ld1, qN, yc, YA, xV, qc, qS, vm, Vx, V8, Vq, V3, VI, Ue, VR, Un, V4, hc, g5, fvn, fl, hix, hgf, k2, k3, k5, cn, cl, d1, d2, d3]
      exact ⟨_, rfl⟩
    simp -implicitDefEqProofs only [EE, nth, ↓BK, ld1, qN, yc, YA, xV, qc, qS, vm, Vx, V8, Vq, V3, VI, Ue, VR, Un, V4, zcu, hc, g5, fvn, fl, hix, hgf, k2, k3, k5, cn, cl, d1, d2, d3, hin]
    exact ⟨p.funcs.length - (i + 1), by omega, i + 1, _, by omega, rfl, rfl⟩
  simp -implicitDefEqProofs only [EE, nth, ld1, qN, xV, hc, g5, fvn, fl]
  refine kj (fun m vs h9 => ∃ (i : Nat) (v0 : Value), i <= p.globals.length /\ m = p.globals.length - i /\ vs = [v0, .int .i64 (i : Nat)] /\ h9 = h') p.globals.length ⟨0, _, Nat.zero_le _, rfl, rfl, rfl⟩ ?_
  rintro m vs h9 ⟨i, v0, hi, rfl, rfl, rfl⟩
  unfold zc9
  by_cases hc : (i : Int) < (p.globals.length : Int)
  . obtain ⟨z, hz⟩ : ∃ z, p.globals[i]? = some z := ⟨_, List.getElem?_eq_getElem (by omega)⟩
    obtain ⟨b11, o11, c11, t11, ix11, lt11, g11, k11⟩ := (RP.at s2).globals.at hz
    have hin := inc (show i < 4611686018427387904 by omega)
    by_cases d1 : z > 4096
    . simp -implicitDefEqProofs only [EE, nth, ↓BK, ld1, qa, yc, vH, Kc, hc, g5, gvn, gl, ix11, g11, k11, d1]
      exact ⟨_, rfl⟩
    simp -implicitDefEqProofs only [EE, nth, ↓BK, ld1, qa, yc, vH, Kc, zdN, hc, g5, gvn, gl, ix11, g11, k11, d1, hin]
    exact ⟨p.globals.length - (i + 1), by omega, i + 1, _, by omega, rfl, rfl⟩
  simp -implicitDefEqProofs only [EE, nth, ld1, qa, vH, hc, g5, gvn, gl]
  exact ⟨_, rfl⟩
end
end Go.Rl
namespace Go.Rm
open Go.Ai Go.Proofs Go.Mem
open Go.Rtl (Ins Pg writesI)
set_option linter.unusedVariables false
set_option linter.unusedSimpArgs false
def Few (S : St) (r : St × Bool) : Prop := r.1.ev.length <= S.ev.length + 1 /\ r.1.lk.length <= S.lk.length + 1
theorem Few.same {S S' : St} {b : Bool} (h1 : S'.ev = S.ev) (h2 : S'.lk = S.lk) : Few S (S', b) := ⟨by rw [h1]; exact Nat.le_succ _, by rw [h2]; exact Nat.le_succ _⟩
theorem Few.lk {S S' : St} {b : Bool} {x : Int × Int × Int} (h1 : S'.ev = S.ev) (h2 : S'.lk = S.lk ++ [x]) : Few S (S', b) := ⟨by rw [h1]; exact Nat.le_succ _, by rw [h2]; simp⟩
theorem Few.ev {S S' : St} {b : Bool} {x : Int × Int} (h1 : S'.ev = S.ev ++ [x]) (h2 : S'.lk = S.lk) : Few S (S', b) := ⟨by rw [h1]; simp, by rw [h2]; exact Nat.le_succ _⟩
theorem zh5 (p : Pg) (world : List Int) (kept : Option (Int -> Bool)) (S : St) : Few S (kW p world kept S) := by
  unfold kW
  split
  . exact .same rfl rfl
  split
  . exact .same rfl rfl
  rename_i c _ _ i _
  generalize hc : c = c'
  clear hc
  unfold wH
  by_cases h2 : i.op = 2
  . rw [if_pos h2]; exact .same rfl rfl
  rw [if_neg h2]
  by_cases h3 : i.op = 3
  . rw [if_pos h3]; exact .same rfl rfl
  rw [if_neg h3]
  by_cases h4 : i.op = 4
  . rw [if_pos h4]
    split
    . exact .same rfl rfl
    . exact .same rfl rfl
  rw [if_neg h4]
  by_cases h5 : i.op = 5
  . rw [if_pos h5]
    have q : ∀ o, Few S ((if (i.sub = 14 \/ i.sub = 15) /\ (yY c'.zD i.a).k = 1 /\ (yb c' i).k = 1 then xl S 3 (yY c'.zD i.a).n (yb c' i).n else S), o) := by
      intro o
      split
      . exact .lk rfl rfl
      . exact .same rfl rfl
    dsimp only
    split
    . exact q false
    . exact q true
  rw [if_neg h5]
  by_cases h6 : i.op = 6
  . rw [if_pos h6]
    split
    . exact .same rfl rfl
    . split
      . exact .lk rfl rfl
      . exact .lk rfl rfl
  rw [if_neg h6]
  by_cases h7 : i.op = 7
  . rw [if_pos h7]
    split
    . exact .same rfl rfl
    . split
      . exact .lk rfl rfl
      . exact .lk rfl rfl
  rw [if_neg h7]
  by_cases h8 : i.op = 8
  . rw [if_pos h8]; exact .same rfl rfl
  rw [if_neg h8]
  by_cases h9 : i.op = 9
  . rw [if_pos h9]; exact .same rfl rfl
  rw [if_neg h9]
  by_cases h10 : i.op = 10
  . rw [if_pos h10]
    unfold xt
    split
    . exact .lk rfl rfl
    split
    . exact .lk rfl rfl
    split
    . exact .lk rfl rfl
    . exact .lk rfl rfl
  rw [if_neg h10]
  by_cases h11 : i.op = 11
  . rw [if_pos h11]
    unfold zbc
    split
    . exact .same rfl rfl
    . exact .lk rfl rfl
  rw [if_neg h11]
  by_cases h12 : i.op = 12
  . rw [if_pos h12]
    unfold ve
    split
    . exact .same rfl rfl
    split
    . split
      . exact .same rfl rfl
      . exact .same rfl rfl
    . split
      . exact .same rfl rfl
      . exact .same rfl rfl
  rw [if_neg h12]
  by_cases h13 : i.op = 13
  . rw [if_pos h13]; exact .ev rfl rfl
  rw [if_neg h13]
  by_cases h14 : i.op = 14
  . rw [if_pos h14]
    split
    . exact .ev rfl rfl
    . exact .same rfl rfl
  rw [if_neg h14]; exact .same rfl rfl
theorem zcw (p : Pg) (world : List Int) (kept : Option (Int -> Bool)) : ∀ (n : Nat) (r : St × Bool), (ks p world kept n r).1.ev.length <= r.1.ev.length + n /\ (ks p world kept n r).1.lk.length <= r.1.lk.length + n
  | 0, r => ⟨Nat.le_refl _, Nat.le_refl _⟩
  | n + 1, r => by
    obtain ⟨a, b⟩ := zcw p world kept n (UK p world kept r)
    have q : (UK p world kept r).1.ev.length <= r.1.ev.length + 1 /\ (UK p world kept r).1.lk.length <= r.1.lk.length + 1 := by
      unfold UK
      split
      . exact zh5 p world kept { r.1 with steps := r.1.steps + 1 }
      . exact ⟨Nat.le_succ _, Nat.le_succ _⟩
    show (ks p world kept n (UK p world kept r)).1.ev.length <= _ /\ (ks p world kept n (UK p world kept r)).1.lk.length <= _
    omega
theorem few_run (p : Pg) (args world : List Int) (kept : Option (Int -> Bool)) (n : Nat) : (runM p args world kept n).ev.length <= n /\ (runM p args world kept n).lk.length <= n := by
  obtain ⟨a, b⟩ := zcw p world kept n (wC p args)
  obtain ⟨_, _, e, l⟩ := start_facts p args
  rw [e] at a
  rw [l] at b
  unfold runM
  rw [Xo]
  have f : ∀ x : St × Bool, (zfQ (WH x)).ev = x.1.ev /\ (zfQ (WH x)).lk = x.1.lk := by
    intro x
    unfold zfQ WH
    repeat' split
    all_goals exact ⟨rfl, rfl⟩
  rw [(f _).1, (f _).2]
  simp only [List.length_nil, Nat.zero_add] at a b
  exact ⟨a, b⟩
end Go.Rm
namespace Go.Rl
open Go.Ai Go.Proofs
open Go.Rtl (Ins Pg PgOk FnOk InsOk SliceI SliceR Old inc quiet_b isB)
open Go.Rm (evRow lkRow resV0 row_of Rd Rd.of Rd.at RunV RefV runB runM run_s run_more start_facts few_run slc slc_nob slc_cok slc_read)
set_option linter.unusedVariables false
set_option linter.unusedSimpArgs false
set_option maxRecDepth 10000
structure zo0 (fuel : Int) (A B : Go.Rm.St) : Prop where
  one : (A.kind ≠ 2 /\ B = A) \/ (A.kind = 2 /\ A.steps = fuel /\ A.ev <+: B.ev /\ A.lk <+: B.lk)
theorem zlB (p : Pg) (args world : List Int) {fuel more : Int} (h0 : 0 <= fuel) (h1 : 0 <= more) : zo0 fuel (runM p args world none fuel.toNat) (runM p args world none (fuel + more).toNat) := by
  have e : (fuel + more).toNat = fuel.toNat + more.toNat := by omega
  rw [e]
  obtain ⟨k0, s0, _, _⟩ := start_facts p args
  rcases run_more p world none args fuel.toNat more.toNat k0 s0 with ⟨a, b⟩ | ⟨a, b, c, d⟩
  . exact ⟨.inl ⟨a, b⟩⟩
  . exact ⟨.inr ⟨a, by rw [b]; omega, c, d⟩⟩
def yes (v : Value) (_ : za) : Prop := v = .bool true
section
variable {h : za} {p : Pg} {av wv : Value} {args world : List Int} {fuel more : Int}
theorem zlp (P : PgOk h p) (ha : SliceI h av args) (hw : SliceI h wv world) (hwl : world.length * 8 <= 2 ^ 47) (aw : ∀ h', Old h h' -> xG Tryd.prog 4 [] h' (.bool true)) :
    DC Tryd.prog 3 [p.val, av, wv, .int .i64 fuel, .int .i64 more] h yes := by
  apply Yv; intro wf
  apply zbo
  unfold J2
  have s0 : Sat (.of h) h [] := Sat.self wf.2
  have RP : Rd (.of h) (PgOk · p) := Rd.of (Low.qg h) P fun h' o => P.old o
  have RA : Rd (.of h) (SliceI · av args) := Rd.of (Low.qg h) ha fun h' o => ha.old o
  have RW : Rd (.of h) (SliceI · wv world) := Rd.of (Low.qg h) hw fun h' o => hw.old o
  have RQ : Rd (.of h) (fun h' => xG Tryd.prog 4 [] h' (.bool true)) := fun h' b => aw h' (by obtain ⟨a, c, d⟩ := (Low.qg h).old b; exact ⟨a, c, d⟩)
  have gvn := P.globals.nob
  have gvc := P.globals.cok
  have fvn := P.funcs.nob
  have fvc := P.funcs.cok
  have avn := ha.nob
  have wvn := hw.nob
  simp -implicitDefEqProofs only [EE, Value.cells]
  refine zly s0 wf fun b5 h2 wf2 s2 => ?_
  have g2 := s2.get
  refine zi (by kernel_rfl) rfl (RQ.at s2) ?_
  simp -implicitDefEqProofs only [EE, if_true, Nat.reduceAdd, ldn, Vi, Wq, g2]
  obtain ⟨B, hB⟩ := znZ (RP.at s2) wf2
  refine zi (by kernel_rfl) (by simp only [yH]; rfl) hB ?_
  have yes' : ∀ (v : Value) (h' : za), yes v h' = (v = .bool true) := fun _ _ => rfl
  cases B with
  | false =>
    simp -implicitDefEqProofs only [EE, wP, wN, wL, wS, wR]
    rfl
  | true =>
  by_cases c1 : fuel < 0
  . simp -implicitDefEqProofs only [EE, wP, wN, wL, wS, wR, c1]
    rfl
  by_cases c2 : fuel > 1000
  . simp -implicitDefEqProofs only [EE, wP, wN, wL, wS, wR, c1, c2]
    rfl
  by_cases c3 : more < 0
  . simp -implicitDefEqProofs only [EE, wP, wN, wL, wS, wR, c1, c2, c3]
    rfl
  by_cases c4 : more > 1000
  . simp -implicitDefEqProofs only [EE, wP, wN, wL, wS, wR, c1, c2, c3, c4]
    rfl
  simp -implicitDefEqProofs only [EE, if_true, Nat.reduceAdd, ldn, Vi, wP, wN, wL, wS, wR, g2, c1, c2, c3, c4]
  have hsum : IntKind.wrap .i64 (fuel + more) = fuel + more := Go.Mem.w64 (by omega) (by omega)
  have hb2 : runB p args (fuel + more) ↔ runB p args fuel := by
    unfold Go.Rm.runB Go.Rm.ze9
    constructor
    . rintro ⟨a, b⟩; exact ⟨a, by omega⟩
    . rintro ⟨a, b⟩; exact ⟨a, by omega⟩
  refine zJ (by kernel_rfl) (by simp only [yH, avn, wvn, cond_false]; rfl) (run_s (RP.at s2) (RA.at s2) (RW.at s2) hwl) ?_
  rintro v h3 hv
  by_cases hb : runB p args fuel
  . rw [if_pos hb] at hv
    obtain ⟨ev1, lk1, rfl, s3⟩ := hv
    have s4 := (s2.join s3).f [2, 0, 1]
    have e1n := slc_nob s3
    have e1c := slc_cok s3
    have l1n := slc_nob (s3.p 1)
    have l1c := slc_cok (s3.p 1)
    unfold resV0
    generalize hA : runM p args world none fuel.toNat = A at s3 s4
    simp -implicitDefEqProofs only [EE, Value.cells, zcb, jF]
    refine ZO s4 fun ba h5 s5 => ?_
    simp -implicitDefEqProofs only [EE, Nat.reduceAdd, UN]
    refine y9 s5 (by simp) (by simp [e1c, l1c]; exact ⟨rfl, rfl, rfl⟩) fun h6 s6 => ?_
    have g6 := (s6.p 1).get
    simp -implicitDefEqProofs only [EE, if_true, Nat.reduceAdd, ldn, Vi, g6, hsum]
    refine zJ (by kernel_rfl) (by simp only [yH, avn, wvn, cond_false]; rfl) (run_s (RP.at s6) (RA.at s6) (RW.at s6) hwl) ?_
    rintro v h7 hv
    rw [if_pos (hb2.2 hb)] at hv
    obtain ⟨ev2, lk2, rfl, s7⟩ := hv
    have s8 := s6.join s7
    have e2n := slc_nob s7
    have e2c := slc_cok s7
    have l2n := slc_nob (s7.p 1)
    have l2c := slc_cok (s7.p 1)
    unfold resV0
    have pr := zlB p args world (fuel := fuel) (more := more) (by omega) (by omega)
    rw [hA] at pr
    generalize hB : runM p args world none (fuel + more).toNat = B at s7 s8 pr
    simp -implicitDefEqProofs only [EE, Value.cells, zcb, Za]
    refine ZO s8 fun bb h9 s9 => ?_
    simp -implicitDefEqProofs only [EE, Nat.reduceAdd, UN]
    refine y9 s9 (by simp) (by simp [e2c, l2c]; exact ⟨rfl, rfl, rfl⟩) fun h10 s10 => ?_
    have g10 := s10.get
    have ga := (s10.p 3).get
    have fa := few_run p args world none fuel.toNat
    rw [hA] at fa
    have RE1 := slc_read (s10.p 5) (row_of (f := evRow) (fun _ => rfl) _)
    have RL1 := slc_read (s10.p 6) (row_of (f := lkRow) (fun _ => rfl) _)
    have RE2 := slc_read (s10.p 1) (row_of (f := evRow) (fun _ => rfl) _)
    have RL2 := slc_read (s10.p 2) (row_of (f := lkRow) (fun _ => rfl) _)
    rcases pr.one with ⟨k2, hBA⟩ | ⟨k2, hs, he, hl⟩
    . subst hBA
      simp -implicitDefEqProofs only [EE, ze, if_true, Nat.reduceAdd, ldn, ld1, yc, QU, u2, Vw, jZ, qG, qJ, ga, g10, k2]
      refine zi (by kernel_rfl) (by simp only [yH]; rfl) (zmh RE1 RE2 (by omega) rfl rfl rfl l1n l2n) ?_
      simp -implicitDefEqProofs only [EE, ze, if_true, Nat.reduceAdd, ldn, QU, V7, ga, g10]
      refine zi (by kernel_rfl) (by simp only [yH]; rfl) (zk4 RL1 RL2 (by omega) rfl rfl e1n e2n) ?_
      simp -implicitDefEqProofs only [EE, ze, Nat.reduceAdd, ld1, yc, XB, Vd, Vs, Vo, ga, g10]
      rfl
    . simp -implicitDefEqProofs only [EE, ze, Nat.reduceAdd, ld1, zib, yc, u2, Kj, XB, WC, WD, Wr, jZ, qG, qJ, ga, g10, k2, hs]
      refine zi (by kernel_rfl) (by simp only [yH, e1n, e2n, cond_false]; rfl) (zdq (all := false) RE1 RE2 (by omega) he fun q => (by cases q)) ?_
      have l1 := znA RL1 3
      have l2 := znA RL2 3
      have c5 : ¬ (A.lk.length : Int) > (B.lk.length : Int) := by have := hl.length_le; omega
      simp -implicitDefEqProofs only [EE, nth, ↓BK, ze, Nat.reduceAdd, ld1, za0, Zc, VQ, Wt, Wy, Ws, WA, ga, g10, l1n, l2n, l1, l2, c5]
      refine kj (fun m vs h' => ∃ (i : Nat) (v0 : Value), i <= A.lk.length /\ m = A.lk.length - i /\ vs = [v0, .int .i64 (i : Nat)] /\ h' = h10) A.lk.length ⟨0, _, Nat.zero_le _, rfl, rfl, rfl⟩ ?_
      rintro m vs h' ⟨i, v0, hi, rfl, rfl, rfl⟩
      unfold Uh
      by_cases hc : (i : Int) < (A.lk.length : Int)
      . obtain ⟨x, hx⟩ : ∃ x, A.lk[i]? = some x := ⟨_, List.getElem?_eq_getElem (by omega)⟩
        have hy := zgD hl hx
        have h0 : (0 : Int) <= i := by omega
        have hc2 : (i : Int) < (B.lk.length : Int) := by have := hl.length_le; omega
        obtain ⟨b1, o1, c1', t1, ⟨off1, cp1, rfl, rfl⟩, hi1, hb1, hg1, hl1, ht1, _⟩ := RL1.spot (i := i) (r := lkRow x) (by rw [List.getElem?_map, hx]; rfl) rfl
        obtain ⟨b2, o2, c2', t2, ⟨off2, cp2, rfl, rfl⟩, hi2, hb2, hg2, hl2, ht2, _⟩ := RL2.spot (i := i) (r := lkRow x) (by rw [List.getElem?_map, hy]; rfl) rfl
        rw [List.length_map] at *
        unfold lkRow at ht1 ht2
        simp -implicitDefEqProofs only [EE, nth, ↓BK, ze, if_true, Nat.reduceAdd, ldn, ld1, beq_self_eq_true, za0, zmB, Zc, zmE, zcp, zj9, Ur, VP, hc, hc2, h0, ga, g10, hg1, hl1, ht1, hg2, hl2, ht2, Int.toNat_natCast, inc (show i < 4611686018427387904 by omega), beq_self_eq_true, Bool.and_self]
        exact ⟨A.lk.length - (i + 1), by omega, i + 1, _, by omega, rfl, rfl⟩
      . simp -implicitDefEqProofs only [EE, nth, ze, Nat.reduceAdd, ld1, za0, Zc, hc, ga, l1n, l1]
        rfl
  . rw [if_neg hb] at hv
    obtain ⟨rfl, s3⟩ := hv
    have s4 := s2.join s3
    unfold resV0
    simp -implicitDefEqProofs only [EE, Value.cells, zcb, jF]
    refine ZO s4 fun ba h5 s5 => ?_
    simp -implicitDefEqProofs only [EE, Nat.reduceAdd, UN]
    refine y9 s5 (by simp) rfl fun h6 s6 => ?_
    have g6 := (s6.p 1).get
    simp -implicitDefEqProofs only [EE, if_true, Nat.reduceAdd, ldn, Vi, g6, hsum]
    refine zJ (by kernel_rfl) (by simp only [yH, avn, wvn, cond_false]; rfl) (run_s (RP.at s6) (RA.at s6) (RW.at s6) hwl) ?_
    rintro v h7 hv
    rw [if_neg (fun q => hb (hb2.1 q))] at hv
    obtain ⟨rfl, s7⟩ := hv
    have s8 := s6.join s7
    unfold resV0
    simp -implicitDefEqProofs only [EE, Value.cells, zcb, Za]
    refine ZO s8 fun bb h9 s9 => ?_
    simp -implicitDefEqProofs only [EE, Nat.reduceAdd, UN]
    refine y9 s9 (by simp) rfl fun h10 s10 => ?_
    simp -implicitDefEqProofs only [EE, Int.reduceEq, qG, qJ]
    rfl
end
end Go.Rl
namespace Go.Rl
open Go.Ai Go.Proofs
open Go.Rtl (Old)
set_option linter.unusedVariables false
set_option linter.unusedSimpArgs false
set_option maxRecDepth 10000
def zs : List Int := [1,10,100,1000,10000,100000,1000000,10000000,100000000,1000000000,10000000000,100000000000,1000000000000,10000000000000,100000000000000,1000000000000000,10000000000000000,100000000000000000,1000000000000000000,10000000000000000000]
def tabs : List (Nat × List Value) := [(0, zs.map fun z => .int .u64 z)]
def TabH (h : za) : Prop := 0 < h.next /\ ∃ c t, h.get 0 = some (.cells c t) /\ ∀ (i : Nat) y, (zs.map fun z => Value.int .u64 z)[i]? = some y -> c[i]? = some y
theorem TabH.old {h h' : za} (t : TabH h) (e : Old h h') : TabH h' := by
  obtain ⟨h0, c, t, hg, hc⟩ := t
  exact ⟨Nat.lt_of_lt_of_le h0 e.next, c, t, by rw [e.get 0 h0]; exact hg, hc⟩
theorem TabH.lock {h : za} (t : TabH h) : TabH h.lock := t
def cls : List Nat := [0,0,1,1,1,1,1,1,1,1,1,1,1,1,1,1,1,1,1,1,1,1,1,2,2,2,2,1,1,1,1,1,1,1,1,1,1,1,1,1,1,1,1,1,1,1,1,1,1,1,1,1,1,1,1,1,1,1,1,1,1,1,1,1,1,0,1,1,1,1,1,1,1,1,1,1,1,1,1,1,1,1,1,1,1,1,1,1,0,1,1,1,1,1,1,1,1,1,1,0,0,0,0,0,0,0,0,0,0,0,0,0,0,0,0,0,0,0,0,0,0,0,0,0,0,0,0,0,0,0,0,1]
set_option maxRecDepth 100000 in
theorem fits : uA Tryd.prog cls = true := by decide +kernel
set_option maxRecDepth 100000 in
theorem zhr : zn5 (run Tryd.prog cls 4000 (.call 4 []) (zdQ 100 tabs)) = true := by kernel_rfl
theorem zlz (h : za) (ht : TabH h) : xG Tryd.prog 4 [] h (.bool true) := by
  refine ⟨rfl, ?_⟩
  obtain ⟨h', he⟩ := zkp zhr
  have := zez (P := Tryd.prog) (m := 100) (tabs := tabs) (v := .bool true) (f := 4) rfl (Nat.le_of_ble_eq_true (by kernel_rfl)) (fun x hx => by
    simp only [tabs, List.mem_singleton] at hx
    subst hx
    exact ⟨by decide, Nat.le_of_ble_eq_true (n := 1) (by kernel_rfl), by decide +kernel⟩) ((zfN fits mixed he).mono (fun v h1 q => q.1)) (h := h.lock) (fun x hx => by
    simp only [tabs, List.mem_singleton] at hx
    subst hx
    exact ht.lock.2)
  exact this.mono (fun v h1 q => q.1)
end Go.Rl
namespace Go.Rtl
open Go.Ai Go.Proofs
set_option linter.unusedVariables false
set_option linter.unusedSimpArgs false
set_option maxRecDepth 100000
theorem absH_lt (w : World) (b : Nat) (o : wB) (h : (absH Tryd.prog w).get b = some o) : b < (absH Tryd.prog w).next := (zds Tryd.prog w).dom b o h
theorem c2 : Tryd.prog.cellsOf 2 = 1 := by kernel_rfl
theorem c3 : Tryd.prog.cellsOf 3 = 1 := by kernel_rfl
theorem c9 : Tryd.prog.cellsOf 9 = 1 := by kernel_rfl
theorem c22 : Tryd.prog.cellsOf 22 = 1 := by kernel_rfl
theorem c23 : Tryd.prog.cellsOf 23 = 1 := by kernel_rfl
theorem c25 : Tryd.prog.cellsOf 25 = 3 := by kernel_rfl
theorem c43 : Tryd.prog.cellsOf 49 = 1 := by kernel_rfl
theorem c45 : Tryd.prog.cellsOf 51 = 6 := by kernel_rfl
theorem c50 : Tryd.prog.cellsOf 46 = 9 := by kernel_rfl
theorem y3 : Tryd.prog.bytesOf 3 = 8 := by kernel_rfl
theorem y45 : Tryd.prog.bytesOf 51 = 88 := by kernel_rfl
theorem y50 : Tryd.prog.bytesOf 46 = 88 := by kernel_rfl
theorem Q9 : reachBytes = 140737488351232 := rfl
theorem zci {α : Type} {n : Nat} {Q : Nat -> α -> Prop} (h : ∀ i, i < n -> ∃ z, Q i z) : ∃ l : List α, l.length = n /\ ∀ i z, l[i]? = some z -> Q i z := by
  obtain ⟨f, hf⟩ := Classical.axiomOfChoice (r := fun (i : Fin n) z => Q i.1 z) fun i => h i.1 i.2
  refine ⟨List.ofFn f, by simp, fun i z hz => ?_⟩
  rw [List.getElem?_ofFn] at hz
  split at hz
  . rename_i hi
    simp only [Option.some.injEq] at hz
    subst hz
    exact hf ⟨i, hi⟩
  . cases hz
theorem zcX {c : List Value} {n : Nat} {v : Value} (h : (c.drop n).take 1 = [v]) : c[n]? = some v := by
  have := congrArg (fun l => l[0]?) h
  simpa [List.getElem?_take, List.getElem?_drop] using this
section
variable {h : za} (hw : ∀ b o, h.get b = some o -> b < h.next)
include hw
theorem zbz {a : Value} (r : RWD Tryd.prog h 22 [a]) : ∃ zs, SliceI h a zs /\ zs.length <= 17592186043904 := by
  rcases Kx Tryd.underlying22 c3 y3 (by decide) r with e | ⟨b, off, len, e, hl, hc⟩
  . simp only [List.cons.injEq, and_true] at e
    exact ⟨[], .inl ⟨e, rfl⟩, Nat.zero_le _⟩
  . simp only [List.cons.injEq, and_true] at e
    subst e
    rw [Q9] at hl
    by_cases h0 : 0 < len
    . obtain ⟨c, t, hg, hat⟩ := hc h0
      obtain ⟨l, e1, e2⟩ := zci (n := len) (Q := fun i (z : Int) => c[off + i]? = some (.int .i64 z)) fun i hi => by
        obtain ⟨h1, h2⟩ := hat i hi
        obtain ⟨z, hz, _⟩ := rw_int Tryd.underlying3 h2
        rw [Nat.mul_one] at hz
        exact ⟨z, zcX hz⟩
      refine ⟨l, .inr ⟨b, off, 0, by rw [e1], fun _ => ⟨c, t, hw b _ hg, hg, e2⟩⟩, by omega⟩
    . have : len = 0 := by omega
      subst this
      exact ⟨[], .inr ⟨b, off, 0, rfl, fun q => absurd rfl q⟩, Nat.zero_le _⟩
theorem zmg {cs : List Value} (r : RWD Tryd.prog h 46 cs) : ∃ x : Ins, cs = x.row /\ InsOk h x := by
  obtain ⟨hl, hf⟩ := W5 Tryd.underlying46 r
  rw [c50] at hl
  match cs, hl with
  | [a0, a1, a2, a3, a4, a5, a6, a7, a8], _ =>
    have f0 : RWD Tryd.prog h 3 (([a0, a1, a2, a3, a4, a5, a6, a7, a8].drop 0).take (Tryd.prog.cellsOf 3)) := hf _ (Array.mem_of_getElem? (i := 0) rfl)
    have f1 : RWD Tryd.prog h 3 (([a0, a1, a2, a3, a4, a5, a6, a7, a8].drop 1).take (Tryd.prog.cellsOf 3)) := hf _ (Array.mem_of_getElem? (i := 1) rfl)
    have f2 : RWD Tryd.prog h 3 (([a0, a1, a2, a3, a4, a5, a6, a7, a8].drop 2).take (Tryd.prog.cellsOf 3)) := hf _ (Array.mem_of_getElem? (i := 2) rfl)
    have f3 : RWD Tryd.prog h 3 (([a0, a1, a2, a3, a4, a5, a6, a7, a8].drop 3).take (Tryd.prog.cellsOf 3)) := hf _ (Array.mem_of_getElem? (i := 3) rfl)
    have f4 : RWD Tryd.prog h 3 (([a0, a1, a2, a3, a4, a5, a6, a7, a8].drop 4).take (Tryd.prog.cellsOf 3)) := hf _ (Array.mem_of_getElem? (i := 4) rfl)
    have f5 : RWD Tryd.prog h 2 (([a0, a1, a2, a3, a4, a5, a6, a7, a8].drop 5).take (Tryd.prog.cellsOf 2)) := hf _ (Array.mem_of_getElem? (i := 5) rfl)
    have f6 : RWD Tryd.prog h 22 (([a0, a1, a2, a3, a4, a5, a6, a7, a8].drop 6).take (Tryd.prog.cellsOf 22)) := hf _ (Array.mem_of_getElem? (i := 6) rfl)
    have f7 : RWD Tryd.prog h 3 (([a0, a1, a2, a3, a4, a5, a6, a7, a8].drop 7).take (Tryd.prog.cellsOf 3)) := hf _ (Array.mem_of_getElem? (i := 7) rfl)
    have f8 : RWD Tryd.prog h 3 (([a0, a1, a2, a3, a4, a5, a6, a7, a8].drop 8).take (Tryd.prog.cellsOf 3)) := hf _ (Array.mem_of_getElem? (i := 8) rfl)
    simp only [c2, c3, c22, List.drop_zero, List.drop_succ_cons, List.take_succ_cons, List.take_zero] at f0 f1 f2 f3 f4 f5 f6 f7 f8
    obtain ⟨z0, e0, _⟩ := rw_int Tryd.underlying3 f0
    obtain ⟨z1, e1, _⟩ := rw_int Tryd.underlying3 f1
    obtain ⟨z2, e2, _⟩ := rw_int Tryd.underlying3 f2
    obtain ⟨z3, e3, _⟩ := rw_int Tryd.underlying3 f3
    obtain ⟨z4, e4, _⟩ := rw_int Tryd.underlying3 f4
    obtain ⟨z5, e5, _⟩ := rw_int Tryd.underlying2 f5
    obtain ⟨z7, e7, _⟩ := rw_int Tryd.underlying3 f7
    obtain ⟨z8, e8, _⟩ := rw_int Tryd.underlying3 f8
    obtain ⟨l, S, hl⟩ := zbz hw f6
    simp only [List.cons.injEq, and_true] at e0 e1 e2 e3 e4 e5 e7 e8
    subst e0 e1 e2 e3 e4 e5 e7 e8
    exact ⟨⟨z0, z1, z2, z3, z4, z5, a6, l, z7, z8⟩, rfl, S, hl⟩
theorem zgL {α : Type} {row : α -> List Value} {ok : α -> Prop} {ts te : TypeId} {n bz : Nat} (hu : Tryd.prog.underlying ts = some (.slice te)) (hs : Tryd.prog.cellsOf te = n) (hb : Tryd.prog.bytesOf te = bz) (h0n : 0 < n) (h8 : 8 <= bz)
    (hrow : ∀ cs, RWD Tryd.prog h te cs -> ∃ x, cs = row x /\ ok x) {a : Value} (r : RWD Tryd.prog h ts [a]) : ∃ l : List α, SliceR h a n (l.map row) /\ l.length * bz <= 140737488351232 /\ ∀ x, x ∈ l -> ok x := by
  rcases Kx hu hs hb h0n r with e | ⟨b, off, len, e, hl, hc⟩
  . simp only [List.cons.injEq, and_true] at e
    exact ⟨[], .inl ⟨e, rfl⟩, by simp, fun x hx => by cases hx⟩
  . simp only [List.cons.injEq, and_true] at e
    subst e
    rw [Q9] at hl
    by_cases h0 : 0 < len
    . obtain ⟨c, t, hg, hat⟩ := hc h0
      obtain ⟨l, e1, e2⟩ := zci (n := len) (Q := fun i x => off + i * n + n <= c.length /\ (c.drop (off + i * n)).take n = row x /\ ok x) fun i hi => by
        obtain ⟨h1, h2⟩ := hat i hi
        obtain ⟨x, hx, hok⟩ := hrow _ h2
        exact ⟨x, h1, hx, hok⟩
      refine ⟨l, .inr ⟨b, off, 0, by rw [List.length_map, e1], fun _ => ⟨c, t, hw b _ hg, hg, fun i r hr => ?_⟩⟩, ?_, fun x hx => ?_⟩
      . rw [List.getElem?_map] at hr
        cases hx : l[i]? with
        | none => rw [hx] at hr; cases hr
        | some x =>
          rw [hx] at hr
          simp only [Option.map_some, Option.some.injEq] at hr
          subst hr
          exact ⟨(e2 i x hx).1, (e2 i x hx).2.1⟩
      . rw [e1]; exact hl
      . obtain ⟨k, hk, rfl⟩ := List.getElem_of_mem hx
        exact (e2 k _ (List.getElem?_eq_getElem hk)).2.2
    . have : len = 0 := by omega
      subst this
      exact ⟨[], .inr ⟨b, off, 0, rfl, fun q => absurd rfl q⟩, by simp, fun x hx => by cases hx⟩
theorem zog {cs : List Value} (r : RWD Tryd.prog h 51 cs) : ∃ f : Fn, cs = f.row /\ FnOk h f := by
  obtain ⟨hl, hf⟩ := W5 Tryd.underlying51 r
  rw [c45] at hl
  match cs, hl with
  | [a0, a1, a2, a3, a4, a5], _ =>
    have f0 : RWD Tryd.prog h 9 (([a0, a1, a2, a3, a4, a5].drop 0).take (Tryd.prog.cellsOf 9)) := hf _ (Array.mem_of_getElem? (i := 0) rfl)
    have f1 : RWD Tryd.prog h 22 (([a0, a1, a2, a3, a4, a5].drop 1).take (Tryd.prog.cellsOf 22)) := hf _ (Array.mem_of_getElem? (i := 1) rfl)
    have f2 : RWD Tryd.prog h 3 (([a0, a1, a2, a3, a4, a5].drop 2).take (Tryd.prog.cellsOf 3)) := hf _ (Array.mem_of_getElem? (i := 2) rfl)
    have f3 : RWD Tryd.prog h 3 (([a0, a1, a2, a3, a4, a5].drop 3).take (Tryd.prog.cellsOf 3)) := hf _ (Array.mem_of_getElem? (i := 3) rfl)
    have f4 : RWD Tryd.prog h 3 (([a0, a1, a2, a3, a4, a5].drop 4).take (Tryd.prog.cellsOf 3)) := hf _ (Array.mem_of_getElem? (i := 4) rfl)
    have f5 : RWD Tryd.prog h 49 (([a0, a1, a2, a3, a4, a5].drop 5).take (Tryd.prog.cellsOf 49)) := hf _ (Array.mem_of_getElem? (i := 5) rfl)
    simp only [c3, c9, c22, c43, List.drop_zero, List.drop_succ_cons, List.take_succ_cons, List.take_zero] at f0 f1 f2 f3 f4 f5
    obtain ⟨s, e0, _⟩ := zhQ Tryd.underlying9 f0
    obtain ⟨z2, e2, _⟩ := rw_int Tryd.underlying3 f2
    obtain ⟨z3, e3, _⟩ := rw_int Tryd.underlying3 f3
    obtain ⟨z4, e4, _⟩ := rw_int Tryd.underlying3 f4
    obtain ⟨l, S, hl⟩ := zbz hw f1
    obtain ⟨code, C, hc, hi⟩ := zgL hw Tryd.underlying49 c50 y50 (by decide) (by decide) (fun cs r => zmg hw r) f5
    simp only [List.cons.injEq, and_true] at e0 e2 e3 e4
    subst e0 e2 e3 e4
    exact ⟨⟨s, a1, l, z2, z3, z4, a5, code⟩, rfl, S, hl, C, hc, hi⟩
theorem rd_pg {cs : List Value} (r : RWD Tryd.prog h 25 cs) : ∃ p : Pg, cs = p.row /\ PgOk h p := by
  obtain ⟨hl, hf⟩ := W5 Tryd.underlying25 r
  rw [c25] at hl
  match cs, hl with
  | [a0, a1, a2], _ =>
    have f0 : RWD Tryd.prog h 22 (([a0, a1, a2].drop 0).take (Tryd.prog.cellsOf 22)) := hf _ (Array.mem_of_getElem? (i := 0) rfl)
    have f1 : RWD Tryd.prog h 23 (([a0, a1, a2].drop 1).take (Tryd.prog.cellsOf 23)) := hf _ (Array.mem_of_getElem? (i := 1) rfl)
    have f2 : RWD Tryd.prog h 3 (([a0, a1, a2].drop 2).take (Tryd.prog.cellsOf 3)) := hf _ (Array.mem_of_getElem? (i := 2) rfl)
    simp only [c3, c22, c23, List.drop_zero, List.drop_succ_cons, List.take_succ_cons, List.take_zero] at f0 f1 f2
    obtain ⟨l, S, hl⟩ := zbz hw f0
    obtain ⟨fs, C, hc, hi⟩ := zgL hw Tryd.underlying23 c45 y45 (by decide) (by decide) (fun cs r => zog hw r) f1
    obtain ⟨z2, e2, _⟩ := rw_int Tryd.underlying3 f2
    simp only [List.cons.injEq, and_true] at e2
    subst e2
    exact ⟨⟨a0, l, a1, fs, z2⟩, rfl, S, hl, C, hc, hi⟩
end
end Go.Rtl
namespace Go.Rtl
open Go.Ai Go.Proofs
set_option linter.unusedVariables false
set_option linter.unusedSimpArgs false
set_option maxRecDepth 100000
theorem y2 : Tryd.prog.bytesOf 2 = 8 := by kernel_rfl
section
variable {h : za} (hw : ∀ b o, h.get b = some o -> b < h.next)
include hw
theorem rd_i64s {a : Value} (r : RWD Tryd.prog h 26 [a]) : ∃ l : List Int, SliceI h a l /\ l.length * 8 <= 140737488351232 := by
  rcases Kx Tryd.underlying26 c2 y2 (by decide) r with e | ⟨b, off, len, e, hl, hc⟩
  . simp only [List.cons.injEq, and_true] at e
    exact ⟨[], .inl ⟨e, rfl⟩, Nat.zero_le _⟩
  . simp only [List.cons.injEq, and_true] at e
    subst e
    rw [Q9] at hl
    by_cases h0 : 0 < len
    . obtain ⟨c, t, hg, hat⟩ := hc h0
      obtain ⟨l, e1, e2⟩ := zci (n := len) (Q := fun i (z : Int) => c[off + i]? = some (.int .i64 z)) fun i hi => by
        obtain ⟨h1, h2⟩ := hat i hi
        obtain ⟨z, hz, _⟩ := rw_int Tryd.underlying2 h2
        rw [Nat.mul_one] at hz
        exact ⟨z, zcX hz⟩
      refine ⟨l, .inr ⟨b, off, 0, by rw [e1], fun _ => ⟨c, t, hw b _ hg, hg, e2⟩⟩, by omega⟩
    . have : len = 0 := by omega
      subst this
      exact ⟨[], .inr ⟨b, off, 0, rfl, fun q => absurd rfl q⟩, Nat.zero_le _⟩
end
end Go.Rtl
namespace Go.Rl
open Go.Ai Go.Proofs
open Go.Rtl (Pg PgOk SliceI)
set_option linter.unusedVariables false
theorem law_ok {h : za} {p : Pg} {av wv : Value} {args world : List Int} {fuel more : Int} (P : PgOk h p) (ha : SliceI h av args) (hw : SliceI h wv world) (hwl : world.length * 8 <= 2 ^ 47) (ht : TabH h) :
    DC Tryd.prog 3 [p.val, av, wv, .int .i64 fuel, .int .i64 more] h yes := zlp P ha hw hwl fun h' e => zlz h' (ht.old e)
end Go.Rl
