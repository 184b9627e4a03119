/- A part of the proof. -/
import Derived.Test.YtfhacoddmpbgnaaDoorTG
import Derived.Test.YtfhacoddmpbgnaaDoorTD
set_option linter.unusedVariables false
set_option linter.unusedSimpArgs false
namespace Go.Mem
open Go.Ai Go.Proofs
set_option linter.unusedVariables false
set_option maxRecDepth 10000
set_option linter.unusedSimpArgs false
theorem Eff.more {F G : Nat -> Prop} {a b c : za} (x : Eff F a b) (y : Eff G b c) (hg : ∀ i, G i -> F i \/ a.next <= i) : Eff F a c :=
  ⟨Nat.le_trans x.next y.next, y.ro.trans x.ro, fun i hi hlt => by
    have hn : ¬ G i := fun e => by
      rcases hg i e with q | q
      . exact hi q
      . omega
    rw [y.get i hn (Nat.lt_of_lt_of_le hlt x.next), x.get i hi hlt]⟩
theorem zo9 {b : Bool} {A B : (List Value -> za -> Prop) -> Prop} {J : List Value -> za -> Prop} {vs : List Value} {x y : za} (hA : ∀ j, A j = j vs x) (hB : ∀ j, B j = j vs y) (hJ : J vs (if b = true then x else y)) : CD (.bool b) A B J := by
  cases b
  . rw [zF, hB]; simpa using hJ
  . rw [yh, hA]; simpa using hJ
theorem V5 (vs : List Value) : ∀ (cs : List Value) (o i : Nat), o + vs.length <= cs.length -> (ze cs o vs)[i]? = if o <= i /\ i < o + vs.length then vs[i - o]? else cs[i]? := by
  induction vs with
  | nil => intro cs o i _; rw [if_neg (by simp)]; rfl
  | cons v vs ih =>
    intro cs o i h
    simp only [List.length_cons] at h ⊢
    unfold ze
    rw [ih (cs.set o v) (o + 1) i (by rw [List.length_set]; omega)]
    by_cases h1 : o + 1 <= i /\ i < o + 1 + vs.length
    . rw [if_pos h1, if_pos (by omega), show i - o = i - (o + 1) + 1 by omega, List.getElem?_cons_succ]
    . rw [if_neg h1]
      by_cases h2 : i = o
      . subst h2; rw [if_pos (by omega), List.getElem?_set_self (by omega)]; simp
      . rw [if_neg (by omega), List.getElem?_set_ne (by omega)]
def upd (f : Nat -> Cl) (a : Nat) (c : Cl) : Nat -> Cl := fun k => if k = a then c else f k
theorem jI.put {h : za} {q : Nat} {gs : List (Option Nat)} {B : MB} {F : Nat -> Prop} (x : jI h q gs B F) {a g : Nat} (hg : gs[a / 64]? = some (some g)) :
    ∃ cs, h.get g = some (.cells cs 143) /\ a % 64 * 5 + 5 <= cs.length /\ ∀ c : Cl, jI (h.set g (some (.cells (ze cs (a % 64 * 5) c.y1) 143))) q gs { B with byte := upd B.byte a c } F := by
  obtain ⟨hl, fq, hq, hgs, hn, hd, ht⟩ := x
  obtain ⟨fg, cs, hc, hlen, hcs⟩ := hgs _ g hg
  refine ⟨cs, hc, by omega, fun c => ⟨hl, fq, ?_, fun j g' hj => ⟨(hgs j g' hj).1, ?_⟩, fun j hj k hk => ?_, hd, fun k hk => ?_⟩⟩
  . rw [zt (by intro e; subst e; rw [hq] at hc; simp at hc), hq]
  . by_cases e : g' = g
    . subst e
      have ej : j = a / 64 := hd j _ g' hj hg
      subst ej
      refine ⟨_, zz, by rw [qX, hlen], fun k j hk hj => ?_⟩
      have vlen : c.y1.length = 5 := rfl
      rw [V5 _ _ _ _ (by rw [vlen]; omega), vlen]
      show _ = (upd B.byte a c (64 * (a / 64) + k)).y1[j]?
      unfold upd
      by_cases ek : k = a % 64
      . rw [if_pos (by omega), if_pos (by omega), show k * 5 + j - a % 64 * 5 = j by omega]
      . rw [if_neg (by omega), if_neg (by omega)]; exact hcs k j hk hj
    . have ej : j ≠ a / 64 := by intro ej; subst ej; rw [hg] at hj; cases hj; exact e rfl
      obtain ⟨cs', hc', hlen', hcs'⟩ := (hgs j g' hj).2
      refine ⟨cs', by rw [zt e, hc'], hlen', fun k j' hk hj' => ?_⟩
      rw [hcs' k j' hk hj']
      show _ = (upd B.byte a c (64 * j + k)).y1[j']?
      unfold upd
      rw [if_neg (by omega)]
  . show upd B.byte a c (64 * j + k) = unk
    unfold upd
    rw [if_neg (by intro e; have : j = a / 64 := by omega
                   subst this; rw [hg] at hj; cases hj)]
    exact hn j hj k hk
  . show upd B.byte a c k = unk
    have hlt : a / 64 < gs.length := by
      rcases Nat.lt_or_ge (a / 64) gs.length with e | e
      . exact e
      . rw [List.getElem?_eq_none e] at hg; cases hg
    unfold upd
    rw [if_neg (by omega)]
    exact ht k hk
def norm (v : V) : V := if Uv v = true then v else v0
def cellOf (v : V) (k : Nat) : Cl := if v.k = 1 then ⟨1, IntKind.wrap .u8 (v.n.fdiv (2 ^ (8 * k))), v0⟩ else if v.k = 2 then ⟨2, IntKind.wrap .u8 k, v⟩ else unk
def ZS (B : MB) (n : Nat) (v : V) (c : Nat) : MB := { B with byte := fun a => if n <= a /\ a < n + c then cellOf v (a - n) else B.byte a }
theorem zbY (B : MB) (n : Nat) (v : V) : ZS B n v 0 = B := by
  unfold ZS
  congr 1
  funext a
  rw [if_neg (by omega)]
theorem Vl (B : MB) (n : Nat) (v : V) (c : Nat) : { ZS B n v c with byte := upd (ZS B n v c).byte (n + c) (cellOf v c) } = ZS B n v (c + 1) := by
  unfold ZS upd
  simp only [MB.mk.injEq, true_and]
  funext a
  by_cases e : a = n + c
  . subst e; rw [if_pos rfl, if_pos (by omega), show n + c - n = c by omega]
  . rw [if_neg e]
    by_cases e2 : n <= a /\ a < n + c
    . rw [if_pos e2, if_pos (by omega)]
    . rw [if_neg e2, if_neg (by omega)]
def uC (M : MM) (c : Int) (p v : V) : Option MM := if (norm v).k = 2 /\ c ≠ 8 then none else match right M c p with
  | none => none
  | some i => (M[i]?).map fun B => M.set i (ZS B p.n.toNat (norm v) c.toNat)
def zjP (h : za) (m : Nat) (M' : MM) (F : Nat -> Prop) (h1 : za) : Prop := ∃ F', zie h1 m M' F' /\ Eff F h h1 /\ ∀ b, F' b -> F b \/ h.next <= b
def Ub (h : za) (m : Nat) (M : MM) (F : Nat -> Prop) (c : Int) (p v : V) (r : Value) (h1 : za) : Prop := match uC M c p v with
  | none => r = .bool false /\ zjP h m M F h1
  | some M' => r = .bool true /\ zjP h m M' F h1
section
variable {h : za} {m : Nat} {bs : Value} {ps : List Nat} {fs : Nat -> Nat -> Prop} {M : MM} {F : Nat -> Prop} {c : Int} {p v : V}
def Qv (h : za) (q g : Nat) (gs : List (Option Nat)) (B : MB) (n : Nat) (v : V) (c : Int) (F : Nat -> Prop) (m : Nat) (vs : List Value) (h' : za) : Prop :=
  ∃ k, k <= c.toNat /\ m = c.toNat - k /\ vs = [.int .i64 k] /\ Eff (fun b => b = g) h h' /\ jI h' q gs (ZS B n v k) F
theorem zji (x : Xz h m bs ps fs M F) (hs : small M) (hc : ZR c) (hp : p.ok) :
    DC Tryd.prog 54 [.pointer (some ⟨m, 0, none⟩), .int .i64 c, p.val, v.val] h (Ub h m M F c p v) := by
  apply Yv; intro hwf; have hro := hwf.2
  apply zeR
  unfold zhA
  have e1 : p.val = .agg #[.int .i64 p.k, .int .i64 p.n, .int .i64 p.b] := rfl
  have e2 : v.val = .agg #[.int .i64 v.k, .int .i64 v.n, .int .i64 v.b] := rfl
  rw [e1, e2]
  simp -implicitDefEqProofs only [zk, zv, zH, x8, zq, zA, zQ, x5, nw, Value.cells, BK, List.toList_toArray, Nat.zero_add, List.length_cons, List.length_nil, List.all_cons, List.all_nil, ze, List.drop_zero, List.take_succ_cons, List.take_nil, if_true, Bool.and_true, Nat.reduceAdd, and_true, Nat.le_refl, zM, zn, sto, ldn, ld1, vK, yc, zo, zC, zli, yg, yJ, yI]
  rw [<- e2]
  refine zi (by kernel_rfl) rfl (JD v _) ?_
  simp -implicitDefEqProofs only [zk, zbR, Nat.zero_add, List.length_cons, List.length_nil, List.set_cons_zero, List.set_cons_succ, Nat.reduceAdd, true_and, Nat.le_refl, zM, xR, zn]
  refine zo9 (vs := []) (x := ((h.push (.cells [.int .i64 p.k, .int .i64 p.n, .int .i64 p.b] 84)).push (.cells [.int .i64 v.k, .int .i64 v.n, .int .i64 v.b] 84)).set (h.next + 1) (some (.cells [.int .i64 0, .int .i64 0, .int .i64 0] 84)))
    (y := (h.push (.cells [.int .i64 p.k, .int .i64 p.n, .int .i64 p.b] 84)).push (.cells [.int .i64 v.k, .int .i64 v.n, .int .i64 v.b] 84)) ?_ ?_ ?_
  . intro j
    have : h.ro <= h.next + 1 := by omega
    simp -implicitDefEqProofs only [zk, if_true, this]
  . intro j; rfl
  generalize hH : (if (!Uv v) = true then ((h.push (.cells [.int .i64 p.k, .int .i64 p.n, .int .i64 p.b] 84)).push (.cells [.int .i64 v.k, .int .i64 v.n, .int .i64 v.b] 84)).set (h.next + 1) (some (.cells [.int .i64 0, .int .i64 0, .int .i64 0] 84)) else
    (h.push (.cells [.int .i64 p.k, .int .i64 p.n, .int .i64 p.b] 84)).push (.cells [.int .i64 v.k, .int .i64 v.n, .int .i64 v.b] 84)) = H
  have eff : Eff nof h H := by
    subst hH
    split
    . exact (((Eff.refl _ _).push _).push _).set (.inr (by omega)) _
    . exact ((Eff.refl _ _).push _).push _
  have hx : H.get (h.next + 1) = some (.cells [.int .i64 (norm v).k, .int .i64 (norm v).n, .int .i64 (norm v).b] 84) := by
    subst hH
    unfold norm
    cases Uv v
    . simp only [Bool.not_false, if_true]; rw [if_neg (by simp)]; exact zz
    . simp only [Bool.not_true, if_true]; rw [if_neg (by simp)]; exact zn rfl
  have hp1 : H.get h.next = some (.cells [.int .i64 p.k, .int .i64 p.n, .int .i64 p.b] 84) := by
    have : ¬ h.next = h.next + 1 := by omega
    have h3 : ((h.push (.cells [.int .i64 p.k, .int .i64 p.n, .int .i64 p.b] 84)).push (.cells [.int .i64 v.k, .int .i64 v.n, .int .i64 v.b] 84)).get h.next = some (.cells [.int .i64 p.k, .int .i64 p.n, .int .i64 p.b] 84) := by
      rw [zu (by simp only [zM]; omega), zw]
    subst hH
    split
    . rw [zt this, h3]
    . exact h3
  have hnx : H.next = h.next + 2 := by
    subst hH
    cases Uv v <;> simp [zM, wa]
  clear hH
  have hsm : uC M c p v = if (norm v).k = 2 /\ c ≠ 8 then none else match right M c p with
    | none => none
    | some i => (M[i]?).map fun B => M.set i (ZS B p.n.toNat (norm v) c.toNat) := rfl
  generalize norm v = w at hx hsm
  have x1 : Xz H m bs ps fs M F := x.zU (fun b hb => eff.get b (fun e => e) (x.ok b hb).2) eff.next eff.ro
  have hro1 : H.ro <= H.next := by rw [hnx, eff.ro]; omega
  have hm0 : ∀ {h1}, Eff nof H h1 -> zjP h m M F h1 := fun e3 => ⟨F, ⟨bs, ps, fs, x1.zU (fun b hb => e3.get b (fun e => e) (x1.ok b hb).2) e3.next e3.ro⟩, (eff.trans e3).mono (fun _ q => q.elim), fun b hb => .inl hb⟩
  by_cases hbad : w.k = 2 /\ c ≠ 8
  . rw [if_pos hbad] at hsm
    have h1 := hbad.1
    have h2 : ¬ c = 8 := hbad.2
    simp -implicitDefEqProofs only [zk, zv, zH, yh, v9, yD, ju, qx, zq, zA, List.getElem?_cons_zero, x6, xB, not_false_eq_true, Bool.not_false, hx, h1, h2]
    unfold Ub
    rw [hsm]
    exact ⟨rfl, hm0 (.refl _ _)⟩
  rw [if_neg hbad] at hsm
  have hac := ziP (c := c) (p := p) hro1 x1 hs hc hp
  rw [e1] at hac
  have hways : (w.k = 2 /\ c = 8) \/ ¬ w.k = 2 := by
    by_cases e : w.k = 2
    . by_cases e3 : c = 8
      . exact .inl ⟨e, e3⟩
      . exact (hbad ⟨e, e3⟩).elim
    . exact .inr e
  have hall : ∀ r h1, zlH H m M F c p r h1 -> (∃ ok, r = .tuple #[.slice none 0 0, .bool ok] /\ ok = false /\ Ub h m M F c p v (.bool false) h1) \/ ∃ g, r = .tuple #[.slice (some ⟨g, p.n.toNat % 64 * 5, none⟩) c.toNat 0, .bool true] /\ ∃ q gs B G, Qv h1 q g gs B p.n.toNat w c G c.toNat [.int .i64 0] h1 /\ 0 <= c /\
      (∀ k, k < c.toNat -> gs[(p.n.toNat + k) / 64]? = some (some g) /\ (p.n.toNat + k) % 64 * 5 = p.n.toNat % 64 * 5 + k * 5) /\ c <= 8 /\ H.ro <= g /\ h1.ro = H.ro /\ (∀ h2, Eff (fun b => b = g) h1 h2 -> h2.get (h.next + 1) = some (.cells [.int .i64 w.k, .int .i64 w.n, .int .i64 w.b] 84)) /\
      ∀ h2, Qv h1 q g gs B p.n.toNat w c G 0 [.int .i64 c.toNat] h2 -> Ub h m M F c p v (.bool true) h2 := by
    intro r h1 hr
    unfold zlH at hr
    cases e : right M c p with
    | none =>
      rw [e] at hr
      obtain ⟨rfl, e3⟩ := hr
      refine .inl ⟨_, rfl, rfl, ?_⟩
      rw [e] at hsm
      unfold Ub
      rw [hsm]
      exact ⟨rfl, hm0 e3⟩
    | some i =>
      rw [e] at hr hsm
      obtain ⟨g, bs1, ps1, fs1, F1, q, qp, cq, gs, B, hB, rfl, x2, hq, hb, fq, full, hgs, ef, hsub⟩ := hr
      obtain ⟨hk, hcc, hi, B', hB', hn0, hn1, hn2⟩ := QQ e
      rw [hB] at hB'; cases hB'
      have fg := (full.hg _ g hgs).1
      refine .inr ⟨g, rfl, q, gs, B, fs1 i, ⟨0, by omega, by omega, rfl, .refl _ _, by rw [zbY]; exact full⟩, by omega, fun k hk => ?_, by omega, by have := (x2.ok g (x2.sub i g fg)).1; have := ef.ro; omega, ef.ro, fun h2 e2 => ?_, fun h2 hst => ?_⟩
      . have hal : p.n.toNat % 64 + c.toNat <= 64 := by
          rw [Int.tmod_eq_emod_of_nonneg hn0] at hn2
          rcases hcc with rfl | rfl | rfl <;> omega
        exact ⟨by rw [show (p.n.toNat + k) / 64 = p.n.toNat / 64 by omega]; exact hgs, by omega⟩
      . have n1 : h.next + 1 ≠ g := by
          intro en
          rcases hsub g (x2.sub i g fg) with h3 | h3
          . have := (x.ok g h3).2; omega
          . omega
        rw [e2.get _ n1 (by have := ef.next; omega), ef.get _ (fun h3 => by have := (x.ok _ h3).2; omega) (by omega), hx]
      . obtain ⟨k, hk1, hk2, hk3, e2, full2⟩ := hst
        have hkc : k = c.toNat := by simp at hk3; omega
        subst hkc
        have hne : qp ≠ g := by
          intro en; subst en
          obtain ⟨cs, hc1, _⟩ := (full.hg _ qp hgs).2
          rw [hb] at hc1; simp at hc1
        have hb2 : h2.get qp = some (.cells [.int .i64 B.size, .slice (some ⟨q, 0, none⟩) gs.length cq, .bool B.uo] 104) := by rw [e2.get _ hne (x2.ok qp (x2.sub i qp fq)).2, hb]
        have y := x2.upd hq hB (B' := ZS B p.n.toNat w c.toNat) rfl (e2.mono (fun b (hb : b = g) => by rw [hb]; exact fg)) ⟨_, hb2, fq, .full q cq gs rfl full2⟩ (fun b hb => .inl hb) (fun b hb => by have := x2.ok b (x2.sub i b hb); have := e2.next; have := e2.ro; omega)
        unfold Ub
        rw [hsm]
        simp only [hB, Option.map_some]
        have hsub2 : ∀ b, F1 b -> F b \/ h.next <= b := fun b hb => by
          rcases hsub b hb with q | q
          . exact .inl q
          . exact .inr (by omega)
        refine ⟨trivial, _, ⟨_, _, _, y⟩, ((eff.mono (fun _ q => q.elim)).trans ef).more e2 (fun b (hb : b = g) => by rw [hb]; exact hsub2 g (x2.sub i g fg)), fun b hb => ?_⟩
        rcases hb with hb | hb
        . exact hsub2 b hb
        . exact hsub2 b (x2.sub i b hb)
  rcases hways with ⟨w2, c8⟩ | w2
  . have d8 : decide (c = 8) = true := x6 c8
    simp -implicitDefEqProofs only [zk, zv, zH, zF, v9, yD, ju, qx, zq, zA, nth, List.getElem?_cons_zero, Nat.zero_add, List.length_cons, List.length_nil, List.take_succ_cons, List.take_nil, if_true, Nat.reduceAdd, Nat.le_refl, x6, Bool.not_true, hx, hp1, w2, d8]
    refine zJ (by kernel_rfl) rfl hac ?_
    intro r h1 hr
    rcases hall r h1 hr with ⟨_, rfl, rfl, hf⟩ | ⟨g, rfl, q, gs, B, G, hI, hc0, hk, hc8, hgr, hr1, hbx, hend⟩
    . simp -implicitDefEqProofs only [Xc, YX, zk, yf, zv, zH, yh, zbR, zq, zL, Bool.not_false, Z7]
      exact hf
    . simp -implicitDefEqProofs only [Xc, YX, zk, yf, zv, zH, zF, zbR, zq, zL, Bool.not_true, Z7]
      refine kj (Qv h1 q g gs B p.n.toNat w c G) c.toNat hI ?_
      rintro n vs h2 ⟨k, hk1, rfl, rfl, ef2, full2⟩
      by_cases hlt : k < c.toNat
      . have hki : (k : Int) < (c.toNat : Int) := by omega
        obtain ⟨hgk, hok⟩ := hk k hlt
        obtain ⟨cs, hcs, hle, hput⟩ := full2.put hgk
        have hput' := hput (cellOf w k)
        rw [hok] at hle hput'
        have hbx2 := hbx h2 ef2
        have hr2 : h2.ro <= g := by rw [ef2.ro, hr1]; exact hgr
        have hb1 : 0 <= (k : Int) /\ (k : Int) < (c.toNat : Int) := by omega
        have hw1 : IntKind.wrap .i64 (8 * (k : Int)) = ((8 * k : Nat) : Int) := by rw [w64 (by omega) (by omega)]; omega
        have hw2 : IntKind.wrap .i64 ((k : Int) + 1) = ((k + 1 : Nat) : Int) := by rw [w64 (by omega) (by omega)]; omega
        have hk0 : 0 <= ((8 * k : Nat) : Int) := by omega
        have hmin : min (8 * k) IntKind.i64.bits = 8 * k := by show min (8 * k) 64 = _; omega
        have hnext : ∀ h3, h3 = h2.set g (some (.cells (ze cs (p.n.toNat % 64 * 5 + k * 5) (cellOf w k).y1) 143)) -> ∃ m, m < c.toNat - k /\ Qv h1 q g gs B p.n.toNat w c G m [.int .i64 ((k + 1 : Nat) : Int)] h3 := fun h3 e3 =>
          ⟨c.toNat - (k + 1), by omega, k + 1, by omega, rfl, rfl, by rw [e3]; exact ef2.set (.inl rfl) _, by rw [e3]; have := hput'; unfold upd at this; rw [<- Vl]; exact this⟩
        simp -implicitDefEqProofs only [zk, yf, zv, zH, yh, zF, wX, ju, qw, YU, zgj, zA, zQ, x5, nth, List.getElem?_cons_zero, List.getElem?_cons_succ, Nat.zero_add, List.length_cons, List.length_nil, List.all_cons, List.all_nil, ze, List.take_succ_cons, List.take_nil, if_true, Bool.and_true, Nat.reduceAdd, Int.reduceEq, and_true, Nat.le_refl, x6, xB, sto, not_false_eq_true, Wv, X5, jB, zhN, zam, kx, hki, hbx2, hcs, hr2, hb1, hle, hw1, hw2, hk0, hmin, Int.toNat_natCast, w2]
        refine hnext _ ?_
        unfold cellOf Cl.y1
        simp only [w2, ze, v0, unk, if_true, if_false, Int.reduceEq]
      . have hkc : k = c.toNat := by omega
        subst hkc
        have hki : ¬ (c.toNat : Int) < (c.toNat : Int) := by omega
        simp -implicitDefEqProofs only [zk, yf, zv, zH, zF, wX, qw, YU, zA, nth, xB, not_false_eq_true, zam, kx, hki]
        exact hend h2 ⟨c.toNat, by omega, by omega, rfl, ef2, full2⟩
  . simp -implicitDefEqProofs only [zk, zv, zH, zF, uD, zO, ju, zq, zA, nth, List.getElem?_cons_zero, Nat.zero_add, List.length_cons, List.length_nil, List.take_succ_cons, List.take_nil, if_true, Nat.reduceAdd, Nat.le_refl, xB, not_false_eq_true, hx, hp1, w2]
    refine zJ (by kernel_rfl) rfl hac ?_
    intro r h1 hr
    rcases hall r h1 hr with ⟨_, rfl, rfl, hf⟩ | ⟨g, rfl, q, gs, B, G, hI, hc0, hk, hc8, hgr, hr1, hbx, hend⟩
    . simp -implicitDefEqProofs only [Xc, YX, zk, yf, zv, zH, yh, zbR, zq, zL, Bool.not_false, Z7]
      exact hf
    . simp -implicitDefEqProofs only [Xc, YX, zk, yf, zv, zH, zF, zbR, zq, zL, Bool.not_true, Z7]
      refine kj (Qv h1 q g gs B p.n.toNat w c G) c.toNat hI ?_
      rintro n vs h2 ⟨k, hk1, rfl, rfl, ef2, full2⟩
      by_cases hlt : k < c.toNat
      . have hki : (k : Int) < (c.toNat : Int) := by omega
        obtain ⟨hgk, hok⟩ := hk k hlt
        obtain ⟨cs, hcs, hle, hput⟩ := full2.put hgk
        have hput' := hput (cellOf w k)
        rw [hok] at hle hput'
        have hbx2 := hbx h2 ef2
        have hr2 : h2.ro <= g := by rw [ef2.ro, hr1]; exact hgr
        have hb1 : 0 <= (k : Int) /\ (k : Int) < (c.toNat : Int) := by omega
        have hw1 : IntKind.wrap .i64 (8 * (k : Int)) = ((8 * k : Nat) : Int) := by rw [w64 (by omega) (by omega)]; omega
        have hw2 : IntKind.wrap .i64 ((k : Int) + 1) = ((k + 1 : Nat) : Int) := by rw [w64 (by omega) (by omega)]; omega
        have hk0 : 0 <= ((8 * k : Nat) : Int) := by omega
        have hmin : min (8 * k) IntKind.i64.bits = 8 * k := by show min (8 * k) 64 = _; omega
        have hnext : ∀ h3, h3 = h2.set g (some (.cells (ze cs (p.n.toNat % 64 * 5 + k * 5) (cellOf w k).y1) 143)) -> ∃ m, m < c.toNat - k /\ Qv h1 q g gs B p.n.toNat w c G m [.int .i64 ((k + 1 : Nat) : Int)] h3 := fun h3 e3 =>
          ⟨c.toNat - (k + 1), by omega, k + 1, by omega, rfl, rfl, by rw [e3]; exact ef2.set (.inl rfl) _, by rw [e3]; have := hput'; unfold upd at this; rw [<- Vl]; exact this⟩
        by_cases w1 : w.k = 1
        . simp -implicitDefEqProofs only [zk, yf, zv, zH, yh, zF, wX, ju, qw, YU, zgj, zA, zQ, x5, nth, List.getElem?_cons_zero, List.getElem?_cons_succ, Nat.zero_add, List.length_cons, List.length_nil, List.all_cons, List.all_nil, ze, List.take_succ_cons, List.take_nil, if_true, Bool.and_true, Nat.reduceAdd, Int.reduceEq, and_true, Nat.le_refl, x6, xB, sto, not_false_eq_true, Wv, X5, jB, zhN, zam, kx, hki, hbx2, hcs, hr2, hb1, hle, hw1, hw2, hk0, hmin, Int.toNat_natCast, w1]
          refine hnext _ ?_
          unfold cellOf Cl.y1
          simp only [w1, ze, v0, unk, if_true, if_false, Int.reduceEq]
        . simp -implicitDefEqProofs only [zk, yf, zv, zH, yh, zF, wX, ju, qw, YU, zgj, zA, zQ, x5, nth, List.getElem?_cons_zero, List.getElem?_cons_succ, Nat.zero_add, List.length_cons, List.length_nil, List.all_cons, List.all_nil, ze, List.take_succ_cons, List.take_nil, if_true, Bool.and_true, Nat.reduceAdd, and_true, Nat.le_refl, x6, xB, sto, not_false_eq_true, Wv, X5, jB, zhN, zam, kx, hki, hbx2, hcs, hr2, hb1, hle, hw1, hw2, hk0, hmin, Int.toNat_natCast, w1, w2]
          refine hnext _ ?_
          unfold cellOf Cl.y1
          simp only [w1, w2, ze, v0, unk, if_false]
      . have hkc : k = c.toNat := by omega
        subst hkc
        have hki : ¬ (c.toNat : Int) < (c.toNat : Int) := by omega
        simp -implicitDefEqProofs only [zk, yf, zv, zH, zF, wX, qw, YU, zA, nth, xB, not_false_eq_true, zam, kx, hki]
        exact hend h2 ⟨c.toNat, by omega, by omega, rfl, ef2, full2⟩
end
end Go.Mem
namespace Go.Mem
open Go.Ai Go.Proofs
set_option linter.unusedVariables false
set_option maxRecDepth 10000
set_option linter.unusedSimpArgs false
theorem zm0 (h : za) : DC Tryd.prog 28 [] h (fun v h1 => v = .pointer (some ⟨h.next, 0, none⟩) /\ zie h1 h.next [] (fun b => b = h.next) /\ Eff nof h h1) := by
  apply Yv; intro hwf; have hro := hwf.2
  apply zh2
  unfold zmv
  simp -implicitDefEqProofs only [zk, zv, zH, x8, yp, zQ, nw, Value.cells, List.toList_toArray, true_and, zmK]
  refine ⟨⟨_, [], fun _ _ => False, ⟨zw, rfl, rfl, .inl ⟨rfl, rfl⟩, fun _ e => e, fun i p B hp => by simp at hp, fun i j b e => e.elim, fun i b e => e.elim, fun b hb => ?_⟩⟩, (Eff.refl _ _).push _⟩
  subst hb
  simp only [xR, zM]; omega
theorem zdS (c n : Nat) : wk c n ≠ 0 := by
  unfold wk
  split
  . cases Nat.ble n _ <;> simp
  . simp
theorem zfl (M : MM) : live M <= M.length := List.length_filter_le _ _
theorem zix (M : MM) (B : MB) (hf : B.uo = false) : live (M ++ [B]) = live M + 1 := by simp [live, hf]
def fresh (n : Int) : MB := ⟨n.toNat, false, fun _ => unk⟩
def yK (M : MM) (n : Int) : MM × Int × Int := if n < 0 \/ 65536 < n then (M, 0, 1) else if 100000 <= M.length then (M, 0, 2) else (M ++ [fresh n], M.length + 1, 0)
def QK (h : za) (m : Nat) (M : MM) (F : Nat -> Prop) (n : Int) (r : Value) (h1 : za) : Prop := r = .tuple #[.int .i64 (yK M n).2.1, .int .i64 (yK M n).2.2] /\ zjP h m (yK M n).1 F h1
section
variable {h : za} {m : Nat} {bs : Value} {ps : List Nat} {fs : Nat -> Nat -> Prop} {M : MM} {F : Nat -> Prop}
theorem Xz.grow (x : Xz h m bs ps fs M F) {h1 : za} {B : MB} {p q c : Nat} (hf : B.uo = false) (eff : Eff F h h1) (hp : h.next <= p /\ p < h1.next) (hq : h.next <= q /\ q < h1.next) (hpq : p ≠ q) (hro : h.ro <= h.next)
    (e1 : h1.get m = some (.cells [.slice (some ⟨q, 0, none⟩) (M.length + 1) c, .int .i64 (live M + 1 : Nat)] 97)) (hc : c ≠ 0) (e2 : h1.get q = some (.cells ((ps.map fun p => .pointer (some ⟨p, 0, none⟩)) ++ [.pointer (some ⟨p, 0, none⟩)]) 101))
    (e3 : h1.get p = some (.cells [.int .i64 B.size, .slice none 0 0, .bool B.uo] 104)) (e4 : ∀ b, F b -> b ≠ m -> (∀ c, bs ≠ .slice (some ⟨b, 0, none⟩) M.length c) -> h1.get b = h.get b) (hu : ∀ k, B.byte k = unk) :
    Xz h1 m (.slice (some ⟨q, 0, none⟩) (M.length + 1) c) (ps ++ [p]) (fun i b => if i = M.length then b = p else fs i b) (M ++ [B]) (fun b => F b \/ b = p \/ b = q) := by
  have hnew : ∀ b, h.next <= b -> F b -> False := fun b hl hb => by have := (x.ok b hb).2; omega
  have hlp := x.len
  refine ⟨by rw [zix M B hf]; exact e1, .inl x.fm, by simp [x.len], ?_, ?_, ?_, ?_, ?_, ?_⟩
  . refine .inr ⟨q, c, by simp, hc, .inr (.inr rfl), by rw [e2]; simp, fun i hi => ?_⟩
    split at hi
    . exact hpq hi.symm
    . exact hnew q hq.1 (x.sub i q hi)
  . intro i hi
    split at hi
    . subst hi; exact hnew m hp.1 x.fm
    . exact x.nm i hi
  . intro i p' B' hp' hB'
    by_cases e : i = M.length
    . subst e
      rw [<- hlp] at hp'
      rw [List.getElem?_append_right (Nat.le_refl _), Nat.sub_self] at hp' hB'
      simp at hp' hB'
      subst hp' hB'
      simp only [if_true]
      exact ⟨_, e3, rfl, .empty rfl hu⟩
    . have hlt : i < M.length := by
        rcases Nat.lt_or_ge i M.length with a | a
        . exact a
        . rw [List.getElem?_eq_none (by simp; omega)] at hB'; cases hB'
      rw [List.getElem?_append_left (by omega)] at hp' hB'
      simp only [if_neg e]
      refine (x.blk i p' B' hp' hB').zU (fun b hb => e4 b (x.sub i b hb) (fun q => ?_) (fun c q => ?_))
      . subst q; exact x.nm i hb
      . rcases x.hb with ⟨rfl, _⟩ | ⟨bb, c', r, _, _, _, r5⟩
        . cases hlt
        . rw [r] at q; cases q; exact r5 i hb
  . intro i j b hi hj
    split at hi <;> split at hj
    . rename_i a1 a2; rw [a1, a2]
    . exact (hnew b (by rw [hi]; exact hp.1) (x.sub j b hj)).elim
    . exact (hnew b (by rw [hj]; exact hp.1) (x.sub i b hi)).elim
    . exact x.dis i j b hi hj
  . intro i b hi
    split at hi
    . exact .inr (.inl hi)
    . exact .inl (x.sub i b hi)
  . intro b hb
    have n1 := eff.next
    have n2 := eff.ro
    rcases hb with hb | hb | hb
    . have := x.ok b hb; omega
    . omega
    . omega
theorem zjg (x : Xz h m bs ps fs M F) (n : Int) :
    DC Tryd.prog 30 [.pointer (some ⟨m, 0, none⟩), .int .i64 n] h (QK h m M F n) := by
  apply Yv; intro hwf; have hro := hwf.2
  apply zer
  unfold zg0
  have hm0 : zjP h m M F h := ⟨F, ⟨bs, ps, fs, x⟩, .refl _ _, fun b hb => .inl hb⟩
  have hbad : n < 0 \/ 65536 < n -> QK h m M F n (.tuple #[.int .i64 0, .int .i64 1]) h := fun e => by
    unfold QK yK; rw [if_pos e]; exact ⟨rfl, hm0⟩
  by_cases h1 : n < 0
  . simp -implicitDefEqProofs only [zk, yf, zv, zH, yh, Xx, yD, yP, xQ, wX, zq, zA, yp, zQ, nw, Value.cells, BK, List.toList_toArray, Nat.zero_add, x6, zM, ld1, yc, WI, Xj, jE, uz, Yy, h1]
    exact hbad (.inl h1)
  by_cases h2 : 65536 < n
  . simp -implicitDefEqProofs only [zk, yf, zv, zH, yh, vz, zO, yP, xQ, wX, ZN, zq, zA, yp, zQ, nw, Value.cells, BK, List.toList_toArray, Nat.zero_add, x6, xB, zM, ld1, not_false_eq_true, yc, WI, Xj, jE, uz, Yy, h1, h2]
    exact hbad (.inr h2)
  have hm := x.hm
  have hln : ∀ n c, zg Tryd.prog .len [95] 3 [.slice n M.length c] h = some (.int .i64 M.length, h) := fun _ _ => by simp only [Wo]
  by_cases h3 : 100000 <= (M.length : Int)
  . have : QK h m M F n (.tuple #[.int .i64 0, .int .i64 2]) h := by
      unfold QK yK; rw [if_neg (by omega), if_pos (by omega)]; exact ⟨rfl, hm0⟩
    rcases x.hb with ⟨e1, rfl⟩ | ⟨bb, c, rfl, hc, fb, hbb, _⟩
    . rw [e1] at h3; simp at h3
    . simp -implicitDefEqProofs only [zk, yf, zv, zH, yh, zF, vz, zO, yP, xQ, wX, ZN, zeU, zq, zA, yp, zL, zQ, nw, Value.cells, BK, List.getElem?_cons_zero, List.toList_toArray, Nat.zero_add, x6, xB, zM, ld1, not_false_eq_true, yc, WI, Xj, jE, uz, Yy, Wo, h1, h2, hm, h3]
      exact this
  have hal : yK M n = (M ++ [fresh n], (M.length : Int) + 1, 0) := by unfold yK; rw [if_neg (by omega), if_neg (by omega)]
  have okm := x.ok m x.fm
  have hl := zfl M
  have hmn : ¬ m = h.next := by omega
  have hmn1 : ¬ m = h.next + 1 := by omega
  have hmn2 : ¬ m = h.next + 1 + 1 := by omega
  have hw1 : IntKind.wrap .i64 ((live M : Int) + 1) = ((live M + 1 : Nat) : Int) := by rw [w64 (by omega) (by omega)]; omega
  have hn0 : ((n.toNat : Nat) : Int) = n := by omega
  have hmn2' : ¬ h.next + 1 + 1 = m := by omega
  have hmn' : ¬ h.next = m := by omega
  have hm2 : m < h.next + 1 + 1 := by omega
  have hm3 : m < h.next + 1 + 1 + 1 := by omega
  have hnb : ∀ p v e, (h.push (.cells v e)).push (.cells [.pointer (some ⟨h.next, 0, none⟩)] 101) = p -> xh p 1 1 (.slice (some ⟨h.next + 1, 0, none⟩) 1 3) = some [.pointer (some ⟨h.next, 0, none⟩)] := fun p v e hp => by
    subst hp
    have : (((h.push (.cells v e)).push (.cells [.pointer (some ⟨h.next, 0, none⟩)] 101)).get (h.next + 1)) = some (.cells [.pointer (some ⟨h.next, 0, none⟩)] 101) := zn rfl
    simp only [xh, this]
    rfl
  have hap := fun v h' hh => znO 95 v (.slice (some ⟨h.next + 1, 0, none⟩) 1 3) 1 [.pointer (some ⟨h.next, 0, none⟩)] h' rfl (hnb h' [.int .i64 n, .slice none 0 0, .bool false] 104 hh) rfl rfl
  unfold QK
  rw [hal]
  rcases x.hb with ⟨rfl, rfl⟩ | ⟨bb, c, rfl, hc, fb, hbb, hfb⟩
  . have hps : ps = [] := List.length_eq_zero_iff.1 x.len
    have h30 : ¬ (100000 : Int) <= ((0 : Nat) : Int) := by decide
    have hle : h.ro <= m := okm.1
    have hw0 : IntKind.wrap .i64 ((live [] : Int) + 1) = ((live [] + 1 : Nat) : Int) := rfl
    simp -implicitDefEqProofs only [zk, yf, zv, zH, zF, vz, zO, yP, xQ, wX, ZN, zeU, qw, zq, zA, yp, zL, zQ, x5, Zj, nth, nw, Value.cells, BK, List.getElem?_cons_zero, List.getElem?_cons_succ, List.toList_toArray, Nat.zero_add, List.length_cons, List.length_nil, List.all_cons, List.all_nil, ze, List.set_cons_zero, List.set_cons_succ, if_true, if_false, Bool.and_true, Nat.reduceAdd, Nat.reduceLeDiff, Nat.reduceMul, Nat.reduceEqDiff, and_true, Nat.le_refl, xB, zM, xR, X3, zu, zz, Qe, sto, ld1, not_false_eq_true, yc, WI, zeP, zmM, Xj, jE, uz, Yy, Wo, h1, h2, h30, hm, hap, KU, Nat.reducePow, okm, hm2, hw0, List.length_nil]
    refine ⟨rfl, _, ⟨_, _, _, x.grow (p := h.next) (q := h.next + 1 + 1) (B := fresh n) rfl (((((((Eff.refl F h).push _).push _).push _).set (.inl x.fm) _).set (.inl x.fm) _)) ?_ ?_ (by omega) hro zz (by simp) ?_ ?_ ?_ (fun _ => rfl)⟩, (((((((Eff.refl F h).push _).push _).push _).set (.inl x.fm) _).set (.inl x.fm) _)), fun b hb => ?_⟩
    . simp only [wa, zM]; omega
    . simp only [wa, zM]; omega
    . rw [zt hmn2', zt hmn2', zn (by simp only [zM])]; rw [hps]; rfl
    . rw [zt hmn', zt hmn', zu (by simp only [zM]; omega)]
      rw [zu (by simp only [zM]; omega), zw]
      show some (wB.cells [.int .i64 n, _, _] 104) = some (wB.cells [.int .i64 ((n.toNat : Nat) : Int), _, _] 104)
      rw [hn0]
      rfl
    . intro b hb hbm1 hbb1
      have hlt := (x.ok b hb).2
      rw [zt hbm1, zt hbm1, zu (by simp only [zM]; omega)]
      rw [zu (by simp only [zM]; omega), zu hlt]
    . rcases hb with hb | hb | hb
      . exact .inl hb
      . exact .inr (by omega)
      . exact .inr (by omega)
  . have okb := x.ok bb fb
    have hroom : roomFor c (M.length + 1) 8 = true := by
      unfold roomFor
      cases Nat.beq c 2 <;> simp only [cond_true, cond_false, Nat.ble_eq] <;> omega
    have hlp : M.length <= ps.length := by rw [x.len]; omega
    have hbm : ¬ bb = m := by intro e; subst e; rw [hbb] at hm; simp at hm
    have hmb : ¬ m = bb := fun e => hbm e.symm
    have hb0 : ¬ bb = h.next := by omega
    have hb2 : ¬ bb = h.next + 1 + 1 := by omega
    have hz : List.take M.length (List.map (fun p => Value.pointer (some ⟨p, 0, none⟩)) ps) = List.map (fun p => Value.pointer (some ⟨p, 0, none⟩)) ps := List.take_of_length_le (by simp [x.len])
    simp -implicitDefEqProofs only [zk, yf, zv, zH, zF, vz, zO, yP, xQ, wX, ZN, zeU, qw, zq, zA, yp, zL, zQ, x5, Zj, nth, nw, Value.cells, BK, List.getElem?_cons_zero, List.getElem?_cons_succ, List.toList_toArray, Nat.zero_add, List.length_cons, List.length_nil, List.length_map, List.all_cons, List.all_nil, ze, List.set_cons_zero, List.set_cons_succ, List.drop_zero, if_true, if_false, Bool.and_true, Nat.reduceAdd, Nat.reduceLeDiff, Nat.reduceMod, Nat.reduceEqDiff, and_true, Nat.le_refl, xB, zM, wa, xR, X3, zu, zz, zt, ne_eq, Qe, sto, ld1, not_false_eq_true, yc, WI, zeP, zmM, Xj, jE, uz, Yy, Wo, h1, h2, h3, hm, hap, KU, okb, okm, hbb, hroom, hlp, Nat.mul_one, hc, hmb, hm2, hz, hw1]
    refine ⟨rfl, _, ⟨_, _, _, x.grow (p := h.next) (q := h.next + 1 + 1) (B := fresh n) rfl (((((((Eff.refl F h).push _).push _).set (.inl fb) _).push _).set (.inl x.fm) _).set (.inl x.fm) _) ?_ ?_ (by omega) hro zz (zdS _ _) ?_ ?_ ?_ (fun _ => rfl)⟩, (((((((Eff.refl F h).push _).push _).set (.inl fb) _).push _).set (.inl x.fm) _).set (.inl x.fm) _), fun b hb => ?_⟩
    . simp only [wa, zM]; omega
    . simp only [wa, zM]; omega
    . rw [zt hmn2', zt hmn2', zn (by simp only [wa, zM])]
    . have : ¬ h.next = bb := fun e => hb0 e.symm
      rw [zt hmn', zt hmn', zu (by simp only [wa, zM]; omega)]
      rw [zt this]
      rw [zu (by simp only [zM]; omega), zw]
      show some (wB.cells [.int .i64 n, _, _] 104) = some (wB.cells [.int .i64 ((n.toNat : Nat) : Int), _, _] 104)
      rw [hn0]
      rfl
    . intro b hb hbm1 hbb1
      have hlt := (x.ok b hb).2
      rw [zt hbm1, zt hbm1, zu (by simp only [wa, zM]; omega)]
      rw [zt (fun e => hbb1 c (by rw [e]))]
      rw [zu (by simp only [zM]; omega), zu hlt]
    . rcases hb with hb | hb | hb
      . exact .inl hb
      . exact .inr (by omega)
      . exact .inr (by omega)
end
end Go.Mem
namespace Go.Mem
open Go.Ai Go.Proofs
set_option linter.unusedVariables false
set_option maxRecDepth 10000
set_option linter.unusedSimpArgs false
def atV (b n : Int) : V := if b < 1 then v0 else ⟨2, n, b⟩
def isI (a : Int) (v : Value) (_ : za) : Prop := v = .int .i64 a
end Go.Mem
namespace Go.Mem
open Go.Ai Go.Proofs
set_option linter.unusedVariables false
set_option maxRecDepth 10000
set_option linter.unusedSimpArgs false
section
variable {h : za} {m : Nat} {bs : Value} {ps : List Nat} {fs : Nat -> Nat -> Prop} {M : MM} {F : Nat -> Prop}
theorem zaJ (x : Xz h m bs ps fs M F) {n : Int} {i : Nat} (hi : idx M n = some i) : n = i + 1 /\ i < M.length /\ ∃ q B pg, ps[i]? = some q /\ M[i]? = some B /\ B.uo = false /\ h.get q = some (.cells [.int .i64 B.size, pg, .bool B.uo] 104) /\ fs i q /\ jk h pg B (fs i) := by
  obtain ⟨hn, B, hB, hf⟩ := KQ hi
  have hlt : i < M.length := by
    rcases Nat.lt_or_ge i M.length with a | a
    . exact a
    . rw [List.getElem?_eq_none a] at hB; cases hB
  obtain ⟨q, hq⟩ : ∃ q, ps[i]? = some q := ⟨_, List.getElem?_eq_getElem (by rw [x.len]; exact hlt)⟩
  obtain ⟨pg, hbk, fq, hpg⟩ := x.blk i q B hq hB
  exact ⟨hn, hlt, q, B, pg, hq, hB, hf, hbk, fq, hpg⟩
theorem Xz.swap (x : Xz h m bs ps fs M F) {h1 : za} {i p bb c : Nat} {B : MB} (hbs : bs = .slice (some ⟨bb, 0, none⟩) M.length c) (hi : i < M.length) (eff : Eff F h h1) (hp : h.next <= p /\ p < h1.next)
    (e1 : h1.get m = some (.cells [bs, .int .i64 (live (M.set i B))] 97)) (e2 : h1.get bb = some (.cells ((ps.set i p).map fun p => .pointer (some ⟨p, 0, none⟩)) 101))
    (e3 : h1.get p = some (.cells [.int .i64 B.size, .slice none 0 0, .bool B.uo] 104)) (hu : ∀ k, B.byte k = unk) (e4 : ∀ b, F b -> b ≠ m -> b ≠ bb -> h1.get b = h.get b) :
    Xz h1 m bs (ps.set i p) (fun k b => if k = i then b = p else fs k b) (M.set i B) (fun b => F b \/ b = p) := by
  have hnew : ∀ b, h.next <= b -> F b -> False := fun b hl hb => by have := (x.ok b hb).2; omega
  have hlp := x.len
  have hbb : F bb /\ c ≠ 0 /\ ∀ i, ¬ fs i bb := by
    rcases x.hb with ⟨rfl, _⟩ | ⟨bb', c', r, r1, r2, _, r4⟩
    . cases hi
    . rw [hbs] at r; cases r; exact ⟨r2, r1, r4⟩
  refine ⟨e1, .inl x.fm, by simp [hlp], ?_, ?_, ?_, ?_, ?_, ?_⟩
  . refine .inr ⟨bb, c, by rw [hbs, List.length_set], hbb.2.1, .inl hbb.1, e2, fun k hk => ?_⟩
    split at hk
    . exact hnew bb (by rw [hk]; exact hp.1) hbb.1
    . exact hbb.2.2 k hk
  . intro k hk
    split at hk
    . exact hnew m (by rw [hk]; exact hp.1) x.fm
    . exact x.nm k hk
  . intro k q C hq hC
    by_cases e : k = i
    . subst e
      rw [List.getElem?_set_self (by omega)] at hq hC
      cases hq; cases hC
      simp only [if_true]
      exact ⟨_, e3, rfl, .empty rfl hu⟩
    . rw [List.getElem?_set_ne (fun z => e z.symm)] at hq hC
      simp only [if_neg e]
      exact (x.blk k q C hq hC).zU (fun b hb => e4 b (x.sub k b hb) (fun z => by subst z; exact x.nm k hb) (fun z => by subst z; exact hbb.2.2 k hb))
  . intro a b z ha hz
    split at ha <;> split at hz
    . rename_i e1 e2; rw [e1, e2]
    . exact (hnew z (by rw [ha]; exact hp.1) (x.sub b z hz)).elim
    . exact (hnew z (by rw [hz]; exact hp.1) (x.sub a z ha)).elim
    . exact x.dis a b z ha hz
  . intro k b hk
    split at hk
    . exact .inr hk
    . exact .inl (x.sub k b hk)
  . intro b hb
    have n1 := eff.next
    have n2 := eff.ro
    have o1 := x.ok m x.fm
    rcases hb with hb | hb
    . have := x.ok b hb; omega
    . omega
theorem zhu {M : MM} {i : Nat} {B B' : MB} (h : M[i]? = some B) (hf : B.uo = false) (hf' : B'.uo = true) : live (M.set i B') + 1 = live M := by
  unfold live
  induction M generalizing i with
  | nil => cases h
  | cons A M ih =>
    cases i with
    | zero => simp at h; subst h; simp [hf, hf']
    | succ i => simp at h; simp only [List.set_cons_succ, List.filter_cons]; split <;> simp [<- ih h]
def gone (B : MB) : MB := ⟨B.size, true, fun _ => unk⟩
def qz (M : MM) (n : Int) : Option MM := (idx M n).bind fun i => (M[i]?).map fun B => M.set i (gone B)
def zh4 (h : za) (m : Nat) (M : MM) (F : Nat -> Prop) (n : Int) (r : Value) (h1 : za) : Prop := match qz M n with
  | none => r = .bool false /\ h1 = h
  | some M' => r = .bool true /\ zjP h m M' F h1
theorem zk9 (x : Xz h m bs ps fs M F) (hL : M.length <= 100000) {n : Int} (hn : n < 9223372036854775808) : DC Tryd.prog 78 [.pointer (some ⟨m, 0, none⟩), .int .i64 n] h (zh4 h m M F n) := by
  apply Yv; intro hwf; have hro := hwf.2
  apply zgm
  unfold zj0
  refine zJ (by kernel_rfl) rfl (ziI x hn) ?_
  rintro v h1 ⟨rfl, rfl⟩
  cases hi : idx M n with
  | none =>
    simp -implicitDefEqProofs only [zk, zv, zH, yh, yP, x8, jH, zq, zA, yp, Option.bind_none, nw, Value.cells, Nat.zero_add, ld1, yc, WI, WX, uz, Yy, Option.bind_none, kR]
    unfold zh4 qz
    simp only [hi, Option.bind_none, and_self]
  | some i =>
    obtain ⟨hni, hlt, q, B, pg, hq, hB, hf, hbk, fq, _⟩ := zaJ x hi
    have hfm : qz M n = some (M.set i (gone B)) := by unfold qz; rw [hi]; simp [hB]
    rcases x.hb with ⟨rfl, _⟩ | ⟨bb, c, hbs, hc, fb, hbb, nb⟩
    . cases hlt
    have hm := x.hm
    have hw : IntKind.wrap .i64 (n - 1) = (i : Int) := by rw [w64 (by omega) (by omega)]; omega
    have hc1 : 0 <= (i : Int) /\ (i : Int) < (M.length : Int) := by omega
    have okm := x.ok m x.fm
    have okb := x.ok bb fb
    have hbm : ¬ bb = m := by intro e; subst e; rw [hbb] at hm; simp at hm
    have hmb : ¬ m = bb := fun e => hbm e.symm
    have hb0 : ¬ bb = h1.next := by omega
    have hm0 : ¬ m = h1.next := by omega
    have hi1 : i + 1 <= ps.length := by rw [x.len]; omega
    have hlv := zhu (B' := gone B) hB hf rfl
    have hl := zfl M
    have hll : ((live M : Nat) : Int) - 1 = ((live (M.set i (gone B)) : Nat) : Int) := by omega
    have hlw : IntKind.wrap .i64 (((live M : Nat) : Int) - 1) = ((live (M.set i (gone B)) : Nat) : Int) := by rw [hll]; exact w64 (by omega) (by omega)
    have hset : ∀ v : Value, ze (ps.map fun p => Value.pointer (some ⟨p, 0, none⟩)) i [v] = (ps.map fun p => Value.pointer (some ⟨p, 0, none⟩)).set i v := fun v => rfl
    rw [hbs] at hm
    simp -implicitDefEqProofs only [zk, zv, zH, zF, yP, x8, jH, zq, zA, yp, zQ, x5, Wf, Option.bind_some, nw, Value.cells, List.getElem?_cons_zero, List.getElem?_cons_succ, Nat.zero_add, List.length_cons, List.length_nil, List.length_map, List.all_cons, List.all_nil, ze, List.set_cons_zero, List.set_cons_succ, if_true, Bool.and_true, Nat.reduceAdd, and_true, Nat.le_refl, xR, X3, zu, zt, sto, ld1, not_false_eq_true, yc, WI, zmA, zeP, ze6, qV, wE, uz, Yy, zk6, Option.bind_some, kR, hq, hbk, hm, hw, hc1, hbb, Int.toNat_natCast, Nat.mul_one, okb, okm, hmb, hi1, hlw]
    unfold zh4
    rw [hfm]
    have eff : Eff F h1 (((h1.push (.cells [.int .i64 B.size, .slice none 0 0, .bool true] 104)).set bb (some (.cells ((ps.map fun p => Value.pointer (some ⟨p, 0, none⟩)).set i (.pointer (some ⟨h1.next, 0, none⟩))) 101))).set m
        (some (.cells [.slice (some ⟨bb, 0, none⟩) M.length c, .int .i64 (live (M.set i (gone B)))] 97))) := (((Eff.refl _ _).push _).set (.inl fb) _).set (.inl x.fm) _
    refine ⟨rfl, _, ⟨_, _, _, x.swap (p := h1.next) (B := gone B) hbs hlt eff ⟨Nat.le_refl _, ?_⟩ ?_ ?_ ?_ (fun _ => rfl) ?_⟩, eff, fun b hb => ?_⟩
    . simp only [wa, zM]; omega
    . rw [zz, hbs]
    . rw [zt hbm, zz, List.map_set]
    . have n1 : ¬ h1.next = m := fun e => hm0 e.symm
      have n2 : ¬ h1.next = bb := fun e => hb0 e.symm
      rw [zt n1, zt n2, zw]
      rfl
    . intro b hb b1 b2
      have := x.ok b hb
      rw [zt b1, zt b2, zu this.2]
    . rcases hb with hb | hb
      . exact .inl hb
      . exact .inr (by omega)
def zc : Cl := ⟨1, 0, v0⟩
def Ye (B : MB) (k : Nat) : MB := { B with byte := fun a => if a < k then zc else B.byte a }
theorem zej (B : MB) : Ye B 0 = B := by
  unfold Ye
  congr 1
theorem zef (B : MB) (k : Nat) : { Ye B k with byte := upd (Ye B k).byte k zc } = Ye B (k + 1) := by
  unfold Ye upd
  simp only [MB.mk.injEq, true_and]
  funext a
  by_cases e : a = k
  . subst e; rw [if_pos rfl, if_pos (by omega)]
  . rw [if_neg e]
    by_cases e2 : a < k
    . rw [if_pos e2, if_pos (by omega)]
    . rw [if_neg e2, if_neg (by omega)]
def XL (M : MM) (n : Int) : Option MM := (idx M n).bind fun i => (M[i]?).map fun B => M.set i (Ye B B.size)
def zjc (h : za) (m : Nat) (M : MM) (F : Nat -> Prop) (n : Int) (r : Value) (h1 : za) : Prop := match XL M n with
  | none => r = .bool false /\ h1 = h
  | some M' => r = .bool true /\ zjP h m M' F h1
def znV (h : za) (m : Nat) (bs : Value) (ps : List Nat) (M : MM) (F : Nat -> Prop) (i : Nat) (B : MB) (n : Nat) (vs : List Value) (h' : za) : Prop :=
  ∃ k fs F', k <= B.size /\ n = B.size - k /\ vs = [.int .i64 k] /\ Xz h' m bs ps fs (M.set i (Ye B k)) F' /\ Eff F h h' /\ ∀ b, F' b -> F b \/ h.next <= b
theorem zff {M : MM} {i : Nat} {A B : MB} : (M.set i A).set i B = M.set i B := by simp
theorem zll (x : Xz h m bs ps fs M F) (hs : small M) {n : Int} (hn : n < 9223372036854775808) : DC Tryd.prog 31 [.pointer (some ⟨m, 0, none⟩), .int .i64 n] h (zjc h m M F n) := by
  apply Yv; intro hwf; have hro := hwf.2
  apply zhi
  unfold zjW
  refine zJ (by kernel_rfl) rfl (ziI x hn) ?_
  rintro v h1 ⟨rfl, rfl⟩
  cases hi : idx M n with
  | none =>
    simp -implicitDefEqProofs only [zk, zv, zH, yh, x8, zq, zA, yp, zQ, Option.bind_none, BK, zc8, WX, Option.bind_none, kR]
    unfold zjc XL
    simp only [hi, Option.bind_none, and_self]
  | some i =>
    obtain ⟨hni, hlt, q, B, pg, hq, hB, hf, hbk, fq, _⟩ := zaJ x hi
    have hfm : XL M n = some (M.set i (Ye B B.size)) := by unfold XL; rw [hi]; simp [hB]
    have hz := hs i B hB
    simp -implicitDefEqProofs only [zk, zv, zH, zF, yP, x8, zq, zA, yp, zQ, Option.bind_some, BK, List.getElem?_cons_zero, ld1, yc, zc8, qV, wE, Option.bind_some, kR, hq, hbk]
    refine kj (znV h1 m bs ps M F i B) B.size ⟨0, fs, F, by omega, rfl, rfl, by rw [zej, zcU hB]; exact x, .refl _ _, fun b hb => .inl hb⟩ ?_
    rintro n' vs h2 ⟨k, fs2, F2, hk, rfl, rfl, y, e2, s2⟩
    have hmi : (M.set i (Ye B k))[i]? = some (Ye B k) := List.getElem?_set_self hlt
    obtain ⟨pg2, hbk2, fq2, hpg2⟩ := y.blk i q _ hq hmi
    have hzs : (Ye B k).size = B.size := rfl
    have hzf : (Ye B k).uo = B.uo := rfl
    by_cases hki : k < B.size
    . have hki' : (k : Int) < (B.size : Int) := by omega
      have hmd := zj8 hbk2 hpg2 fq2 (fun b hb => y.ok b (y.sub i b hb)) (by rw [e2.ro]; have := e2.next; omega) (a := k) (by omega) (by omega) (by omega)
      simp -implicitDefEqProofs only [zk, zv, zH, yh, wX, qw, UZ, zA, nth, Int.reduceEq, x6, not_false_eq_true, hki']
      refine zJ (by kernel_rfl) rfl hmd ?_
      rintro v h3 ⟨g, pq, cq, gs, F3, rfl, hbk3, hfull, hgs, fp3, ef3, hsub3, hok3⟩
      rw [Int.toNat_natCast] at hgs
      obtain ⟨cs, hcs, hle, hput⟩ := hfull.put hgs
      have hput' := hput zc
      have hr1 : (k : Int).tmod 64 = ((k % 64 : Nat) : Int) := by rw [Int.tmod_eq_emod_of_nonneg (by omega)]; omega
      have hb1 : 0 <= ((k % 64 : Nat) : Int) /\ ((k % 64 : Nat) : Int) < 64 := by omega
      have fg := (hfull.hg _ g hgs).1
      have okg := (hok3 g fg).1
      have hw2 : IntKind.wrap .i64 ((k : Int) + 1) = ((k + 1 : Nat) : Int) := by rw [w64 (by omega) (by omega)]; omega
      simp -implicitDefEqProofs only [zk, yP, x5, Nat.zero_add, List.length_cons, List.length_nil, List.all_cons, List.all_nil, ze, if_true, Bool.and_true, Nat.reduceAdd, and_true, sto, Wv, zmc, kR, hr1, hb1, Int.toNat_natCast, hcs, hle, okg, hw2]
      have hne : q ≠ g := by intro e; subst e; rw [hcs] at hbk3; simp at hbk3
      generalize hH : h3.set g _ = H
      have hfull2 : jI H pq gs (Ye B (k + 1)) F3 := by
        rw [<- hH, <- zef]; exact hput'
      have ef4 : Eff (fs2 i) h2 H := by
        rw [<- hH]; exact ef3.set (hsub3 g fg) _
      have hbk4 : H.get q = some (.cells [.int .i64 B.size, .slice (some ⟨pq, 0, none⟩) gs.length cq, .bool B.uo] 104) := by
        rw [<- hH, zt hne]; exact hbk3
      have hok4 : ∀ b, F3 b -> H.ro <= b /\ b < H.next := by
        rw [<- hH]; exact hok3
      have z := y.upd hq hmi (B' := Ye B (k + 1)) rfl ef4 ⟨_, hbk4, fp3, .full pq cq gs rfl hfull2⟩ hsub3 hok4
      rw [zff] at z
      have hcl : ∀ b, fs2 i b -> F b \/ h1.next <= b := fun b hb => s2 b (y.sub i b hb)
      refine ⟨B.size - (k + 1), by omega, k + 1, _, _, by omega, rfl, rfl, z, e2.more ef4 hcl, fun b hb => ?_⟩
      rcases hb with hb | hb
      . exact s2 b hb
      . rcases hsub3 b hb with q | q
        . exact hcl b q
        . exact .inr (by have := e2.next; omega)
    . have hkb : k = B.size := by omega
      subst hkb
      have hki' : ¬ (B.size : Int) < (B.size : Int) := by omega
      simp -implicitDefEqProofs only [zk, zv, zH, zF, wX, qw, UZ, zA, nth, Int.reduceEq, xB, not_false_eq_true, hki']
      unfold zjc
      rw [hfm]
      exact ⟨rfl, _, ⟨_, _, _, y⟩, e2, s2⟩
end
end Go.Mem
namespace Go.Mem
open Go.Ai Go.Proofs
set_option linter.unusedVariables false
set_option maxRecDepth 10000
set_option linter.unusedSimpArgs false
def Own (H : za) (F : Nat -> Prop) (h' : za) : Prop := Eff nof H h' /\ ∀ b, F b -> H.next <= b
theorem Own.eff {H h1 h2 : za} {F : Nat -> Prop} (o : Own H F h1) (e : Eff nof h1 h2) : Own H F h2 := ⟨o.1.trans e, o.2⟩
end Go.Mem
