/- A part of the proof. -/
import Derived.Test.YtfhacoddmpbgnaaDoorTK
import Derived.Test.YtfhacoddmpbgnaaDoorTH
set_option linter.unusedVariables false
set_option linter.unusedSimpArgs false
namespace Go.Rtl
open Go.Ai Go.Proofs
set_option linter.unusedVariables false
set_option linter.unusedSimpArgs false
set_option maxRecDepth 10000
theorem inc {i : Nat} (h : i < 4611686018427387904) : IntKind.wrap .i64 ((i : Int) + 1) = ((i + 1 : Nat) : Int) := by
  simp only [IntKind.wrap, IntKind.bits, IntKind.signed]; simp; omega
structure Fn where
  nm : ByteArray
  pv : Value
  params : List Int
  zD : Int
  frame : Int
  entry : Int
  cv : Value
  code : List Ins
structure Pg where
  gv : Value
  globals : List Int
  fv : Value
  funcs : List Fn
  main : Int
abbrev Ins.row (x : Ins) : List Value := [.int .i64 x.op, .int .i64 x.sub, .int .i64 x.a, .int .i64 x.b, .int .i64 x.d, .int .i64 x.k, x.av, .int .i64 x.s, .int .i64 x.t]
abbrev Fn.row (f : Fn) : List Value := [.string f.nm, f.pv, .int .i64 f.zD, .int .i64 f.frame, .int .i64 f.entry, f.cv]
abbrev Fn.val (f : Fn) : Value := .agg #[.string f.nm, f.pv, .int .i64 f.zD, .int .i64 f.frame, .int .i64 f.entry, f.cv]
abbrev Pg.row (p : Pg) : List Value := [p.gv, p.fv, .int .i64 p.main]
abbrev Pg.val (p : Pg) : Value := .agg #[p.gv, p.fv, .int .i64 p.main]
def SliceR (h : za) (sv : Value) (n : Nat) (rows : List (List Value)) : Prop := (sv = .slice none 0 0 /\ rows = []) \/ ∃ b off cp, sv = .slice (some ⟨b, off, none⟩) rows.length cp /\
  (rows ≠ [] -> ∃ c t, b < h.next /\ h.get b = some (.cells c t) /\ ∀ (i : Nat) r, rows[i]? = some r -> off + i * n + n <= c.length /\ (c.drop (off + i * n)).take n = r)
section
variable {h h' : za} {sv : Value} {n : Nat} {rows : List (List Value)}
theorem SliceR.nob (S : SliceR h sv n rows) : zV sv = false := by
  rcases S with ⟨rfl, _⟩ | ⟨b, off, cp, rfl, _⟩ <;> rfl
theorem SliceR.cok (S : SliceR h sv n rows) : cellOk sv = true := by
  rcases S with ⟨rfl, _⟩ | ⟨b, off, cp, rfl, _⟩ <;> rfl
theorem SliceR.old (S : SliceR h sv n rows) (e : Old h h') : SliceR h' sv n rows := by
  rcases S with a | ⟨b, off, cp, rfl, hc⟩
  . exact .inl a
  . refine .inr ⟨b, off, cp, rfl, fun hz => ?_⟩
    obtain ⟨c, t, hb, hg, hat⟩ := hc hz
    exact ⟨c, t, Nat.lt_of_lt_of_le hb e.next, by rw [e.get b hb]; exact hg, hat⟩
theorem SliceR.lock (S : SliceR h sv n rows) : SliceR h.lock sv n rows := by
  rcases S with a | ⟨b, off, cp, rfl, hc⟩
  . exact .inl a
  . refine .inr ⟨b, off, cp, rfl, fun hz => ?_⟩
    obtain ⟨c, t, hb, hg, hat⟩ := hc hz
    exact ⟨c, t, hb, by rw [Xa]; exact hg, hat⟩
theorem SliceR.zga (S : SliceR h sv n rows) (r : TypeId) (h' : za) : zg Tryd.prog .len [49] r [sv] h' = some (.int .i64 rows.length, h') := by
  rcases S with ⟨rfl, rfl⟩ | ⟨b, off, cp, rfl, _⟩
  . simp only [zhw, List.length_nil]
  . simp only [zhw]
theorem SliceR.zi4 (S : SliceR h sv n rows) (r : TypeId) (h' : za) : zg Tryd.prog .len [23] r [sv] h' = some (.int .i64 rows.length, h') := by
  rcases S with ⟨rfl, rfl⟩ | ⟨b, off, cp, rfl, _⟩
  . simp only [zgW, List.length_nil]
  . simp only [zgW]
theorem SliceI.Q2 {zs : List Int} (S : SliceI h sv zs) (r : TypeId) (h' : za) : zg Tryd.prog .len [22] r [sv] h' = some (.int .i64 zs.length, h') := by
  rcases S with ⟨rfl, rfl⟩ | ⟨b, off, cp, rfl, _⟩
  . simp only [Wu, List.length_nil]
  . simp only [Wu]
theorem SliceR.spot (S : SliceR h sv n rows) {i : Nat} {r : List Value} (hr : rows[i]? = some r) (hn : r.length = n) : ∃ b o c t, (∃ off cp, sv = .slice (some ⟨b, off, none⟩) rows.length cp /\ o = off + i * n) /\ i < rows.length /\ b < h.next /\ h.get b = some (.cells c t) /\ o + n <= c.length /\ (c.drop o).take n = r /\ ∀ k, k < n -> c[o + k]? = r[k]? := by
  rcases S with ⟨rfl, rfl⟩ | ⟨b, off, cp, rfl, hc⟩
  . cases hr
  . have hlt : i < rows.length := by
      rcases Nat.lt_or_ge i rows.length with a | a
      . exact a
      . rw [List.getElem?_eq_none a] at hr; cases hr
    obtain ⟨c, t, hb, hg, hat⟩ := hc (by intro e; subst e; cases hr)
    obtain ⟨h1, h2⟩ := hat i r hr
    refine ⟨b, off + i * n, c, t, ⟨off, cp, rfl, rfl⟩, hlt, hb, hg, h1, h2, fun k hk => ?_⟩
    . rw [<- h2, List.getElem?_take_of_lt hk, List.getElem?_drop]
theorem SliceR.znC (S : SliceR h sv 9 rows) {i : Nat} {r : List Value} (hr : rows[i]? = some r) (hn : r.length = 9) : ∃ b o c t, zG Tryd.prog 49 sv (.int .i64 i) = some (.pointer (some ⟨b, o, none⟩)) /\ b < h.next /\ h.get b = some (.cells c t) /\ o + 9 <= c.length /\ (c.drop o).take 9 = r /\ ∀ k, k < 9 -> c[o + k]? = r[k]? := by
  obtain ⟨b, o, c, t, ⟨off, cp, rfl, rfl⟩, hi, hb, hg, hl, ht, hk⟩ := S.spot hr hn
  have h1 : 0 <= (i : Int) /\ (i : Int) < (rows.length : Int) := by omega
  exact ⟨b, off + i * 9, c, t, by simp only [zmO, h1, Int.toNat_natCast, and_self, if_true], hb, hg, hl, ht, hk⟩
theorem SliceR.zh1 (S : SliceR h sv 6 rows) {i : Nat} {r : List Value} (hr : rows[i]? = some r) (hn : r.length = 6) : ∃ b o c t, zG Tryd.prog 23 sv (.int .i64 i) = some (.pointer (some ⟨b, o, none⟩)) /\ b < h.next /\ h.get b = some (.cells c t) /\ o + 6 <= c.length /\ (c.drop o).take 6 = r /\ ∀ k, k < 6 -> c[o + k]? = r[k]? := by
  obtain ⟨b, o, c, t, ⟨off, cp, rfl, rfl⟩, hi, hb, hg, hl, ht, hk⟩ := S.spot hr hn
  have h1 : 0 <= (i : Int) /\ (i : Int) < (rows.length : Int) := by omega
  exact ⟨b, off + i * 6, c, t, by simp only [zkh, h1, Int.toNat_natCast, and_self, if_true], hb, hg, hl, ht, hk⟩
end
structure InsOk (h : za) (x : Ins) : Prop where
  args : SliceI h x.av x.args
  few : x.args.length <= 17592186043904
structure FnOk (h : za) (f : Fn) : Prop where
  params : SliceI h f.pv f.params
  znv : f.params.length <= 17592186043904
  code : SliceR h f.cv 9 (f.code.map Ins.row)
  zl8 : f.code.length * 88 <= 140737488351232
  ins : ∀ x, x ∈ f.code -> InsOk h x
structure PgOk (h : za) (p : Pg) : Prop where
  globals : SliceI h p.gv p.globals
  znz : p.globals.length <= 17592186043904
  funcs : SliceR h p.fv 6 (p.funcs.map Fn.row)
  znr : p.funcs.length * 88 <= 140737488351232
  fns : ∀ f, f ∈ p.funcs -> FnOk h f
section
variable {h h' : za} {x : Ins} {f : Fn} {p : Pg}
theorem InsOk.old (S : InsOk h x) (e : Old h h') : InsOk h' x := ⟨S.args.old e, S.few⟩
theorem InsOk.lock (S : InsOk h x) : InsOk h.lock x := ⟨S.args.lock, S.few⟩
theorem FnOk.old (S : FnOk h f) (e : Old h h') : FnOk h' f := ⟨S.params.old e, S.znv, S.code.old e, S.zl8, fun x hx => (S.ins x hx).old e⟩
theorem FnOk.lock (S : FnOk h f) : FnOk h.lock f := ⟨S.params.lock, S.znv, S.code.lock, S.zl8, fun x hx => (S.ins x hx).lock⟩
theorem PgOk.old (S : PgOk h p) (e : Old h h') : PgOk h' p := ⟨S.globals.old e, S.znz, S.funcs.old e, S.znr, fun f hf => (S.fns f hf).old e⟩
theorem PgOk.lock (S : PgOk h p) : PgOk h.lock p := ⟨S.globals.lock, S.znz, S.funcs.lock, S.znr, fun f hf => (S.fns f hf).lock⟩
end
theorem zm5 {step : List Value -> za -> (List Value -> za -> Prop) -> Prop} (Q : za -> Prop) {v : Value} (n : Nat) (G : Nat -> Bool) {h : za} (h0 : Q h)
    (hs : ∀ i h J, i <= n -> Q h -> (∀ k, k < i -> G k = true) -> (∀ h', i < n -> G i = true -> Q h' -> J [v, .int .i64 ((i + 1 : Nat) : Int)] h') -> step [v, .int .i64 (i : Nat)] h J) : LP step [v, .int .i64 0] h := by
  refine kj (fun m vs h => ∃ i, i <= n /\ m = n - i /\ vs = [v, .int .i64 (i : Nat)] /\ Q h /\ ∀ k, k < i -> G k = true) n ⟨0, Nat.zero_le _, rfl, rfl, h0, fun k hk => absurd hk (Nat.not_lt_zero _)⟩ ?_
  rintro m vs h ⟨i, hi, rfl, rfl, e, g⟩
  refine hs i h _ hi e g fun h' hlt hg e' => ⟨n - (i + 1), by omega, i + 1, hlt, rfl, rfl, e', fun k hk => ?_⟩
  rcases Nat.lt_or_ge k i with q | q
  . exact g k q
  . have : k = i := by omega
    subst this; exact hg
theorem zkE {step : List Value -> za -> (List Value -> za -> Prop) -> Prop} (Q : za -> Prop) (n : Nat) (G : Nat -> Bool) {h : za} (h0 : Q h)
    (hs : ∀ i h J, i <= n -> Q h -> (∀ k, k < i -> G k = true) -> (∀ h', i < n -> G i = true -> Q h' -> J [.int .i64 ((i + 1 : Nat) : Int)] h') -> step [.int .i64 (i : Nat)] h J) : LP step [.int .i64 0] h := by
  refine kj (fun m vs h => ∃ i, i <= n /\ m = n - i /\ vs = [.int .i64 (i : Nat)] /\ Q h /\ ∀ k, k < i -> G k = true) n ⟨0, Nat.zero_le _, rfl, rfl, h0, fun k hk => absurd hk (Nat.not_lt_zero _)⟩ ?_
  rintro m vs h ⟨i, hi, rfl, rfl, e, g⟩
  refine hs i h _ hi e g fun h' hlt hg e' => ⟨n - (i + 1), by omega, i + 1, hlt, rfl, rfl, e', fun k hk => ?_⟩
  rcases Nat.lt_or_ge k i with q | q
  . exact g k q
  . have : k = i := by omega
    subst this; exact hg
theorem zhF {step : List Value -> za -> (List Value -> za -> Prop) -> Prop} {lo : za} {v : Value} (n : Nat) (G : Nat -> Bool) {h : za} (h0 : Old lo h)
    (hs : ∀ i h J, i <= n -> Old lo h -> (∀ k, k < i -> G k = true) -> (∀ h', i < n -> G i = true -> Old lo h' -> J [v, .int .i64 ((i + 1 : Nat) : Int)] h') -> step [v, .int .i64 (i : Nat)] h J) : LP step [v, .int .i64 0] h := by
  refine kj (fun m vs h => ∃ i, i <= n /\ m = n - i /\ vs = [v, .int .i64 (i : Nat)] /\ Old lo h /\ ∀ k, k < i -> G k = true) n ⟨0, Nat.zero_le _, rfl, rfl, h0, fun k hk => absurd hk (Nat.not_lt_zero _)⟩ ?_
  rintro m vs h ⟨i, hi, rfl, rfl, e, g⟩
  refine hs i h _ hi e g fun h' hlt hg e' => ⟨n - (i + 1), by omega, i + 1, hlt, rfl, rfl, e', fun k hk => ?_⟩
  rcases Nat.lt_or_ge k i with q | q
  . exact g k q
  . have : k = i := by omega
    subst this; exact hg
def atB {α : Type} (l : List α) (B : α -> Bool) (k : Nat) : Bool := match l[k]? with
  | some x => B x
  | none => true
theorem jV {α : Type} {l : List α} {B : α -> Bool} (h : ∀ k, k < l.length -> atB l B k = true) : l.all B = true := by
  rw [List.all_eq_true]
  intro x hx
  obtain ⟨k, hk, rfl⟩ := List.getElem_of_mem hx
  have := h k hk
  simpa only [atB, List.getElem?_eq_getElem hk] using this
theorem X2 {α : Type} {l : List α} {B : α -> Bool} {k : Nat} {x : α} (hx : l[k]? = some x) (hb : B x = false) : l.all B = false := by
  rw [List.all_eq_false]
  exact ⟨x, List.mem_of_getElem? hx, by simp [hb]⟩
theorem zax {α : Type} {l : List α} {B : α -> Bool} {k : Nat} {x : α} (hx : l[k]? = some x) : atB l B k = B x := by simp only [atB, hx]
theorem get_some {α : Type} {l : List α} {k : Nat} (h : k < l.length) : ∃ x, l[k]? = some x /\ x ∈ l := ⟨l[k], List.getElem?_eq_getElem h, List.getElem_mem h⟩
end Go.Rtl
namespace Go.Rtl
open Go.Ai Go.Proofs
set_option linter.unusedVariables false
set_option linter.unusedSimpArgs false
set_option maxRecDepth 10000
def zbp (f : Fn) (x : Ins) : Bool :=
  if x.op = 1 \/ x.op = 2 \/ x.op = 3 \/ x.op = 12 \/ x.op = 13 \/ x.op = 14 \/ x.op = 8 \/ x.op = 10 then true
  else if x.op = 4 then decide (1 <= x.sub) && decide (x.sub <= 4)
  else if x.op = 5 then zg2 x.sub
  else if x.op = 11 then ze3 x.sub
  else if x.op = 6 \/ x.op = 7 then VD x.sub
  else if x.op = 9 then decide (0 <= x.k) && decide (x.k <= f.frame)
  else false
structure Bx (h : za) (b1 b2 : Nat) (f : Fn) (x : Ins) : Prop where
  l1 : b1 < h.next
  l2 : b2 < h.next
  g1 : h.get b1 = some (.cells [.string f.nm, f.pv, .int .i64 f.zD, .int .i64 f.frame, .int .i64 f.entry, f.cv] 51)
  g2 : h.get b2 = some (.cells [.int .i64 x.op, .int .i64 x.sub, .int .i64 x.a, .int .i64 x.b, .int .i64 x.d, .int .i64 x.k, x.av, .int .i64 x.s, .int .i64 x.t] 46)
theorem Bx.old {h h' : za} {b1 b2 : Nat} {f : Fn} {x : Ins} (B : Bx h b1 b2 f x) (e : Old h h') : Bx h' b1 b2 f x :=
  ⟨Nat.lt_of_lt_of_le B.l1 e.next, Nat.lt_of_lt_of_le B.l2 e.next, by rw [e.get _ B.l1]; exact B.g1, by rw [e.get _ B.l2]; exact B.g2⟩
section
variable {h : za} {b1 b2 : Nat} {f : Fn} {x : Ins} {vs : List Value} {B : Bool}
end
end Go.Rtl
namespace Go.Rtl
open Go.Ai Go.Proofs
set_option linter.unusedVariables false
set_option linter.unusedSimpArgs false
set_option maxRecDepth 10000
theorem uk {n m : Int} (h : n < 0 \/ m <= n) : xz n m = false := by
  unfold xz
  by_cases a : 0 <= n
  . have : ¬ n < m := by omega
    simp [this]
  . simp [a]
theorem xZ {n m : Int} (h : ¬ n < 0) (h2 : ¬ m <= n) : xz n m = true := by
  have a : 0 <= n := by omega
  have b : n < m := by omega
  simp [xz, a, b]
section
variable {h : za} {b1 b2 : Nat} {f : Fn} {x : Ins} {vs : List Value} {B : Bool}
end
end Go.Rtl
namespace Go.Rtl
open Go.Ai Go.Proofs
set_option linter.unusedVariables false
set_option linter.unusedSimpArgs false
set_option maxRecDepth 10000
def zjd (x : Ins) : Bool := Vb x.op && decide (x.a = -1)
def zlv (x : Ins) : Bool := ziL x.op && decide (x.b = -1)
section
variable {h : za} {b1 b2 : Nat} {f : Fn} {x : Ins} {vs : List Value} {B : Bool}
end
end Go.Rtl
namespace Go.Rtl
open Go.Ai Go.Proofs
set_option linter.unusedVariables false
set_option linter.unusedSimpArgs false
set_option maxRecDepth 10000
theorem zgo {n : Nat} {G : Nat -> Bool} (h : ∀ k, k < n -> G k = true) : (List.range n).all G = true := by
  rw [List.all_eq_true]
  intro k hk
  exact h k (List.mem_range.1 hk)
theorem K8 {n k : Nat} {G : Nat -> Bool} (hk : k < n) (h : G k = false) : (List.range n).all G = false := by
  rw [List.all_eq_false]
  exact ⟨k, List.mem_range.2 hk, by simp [h]⟩
theorem zfR {l : List Int} {i : Nat} {z : Int} (h : l[i]? = some z) : l.getD i 0 = z := by
  rw [List.getD_eq_getElem?_getD, h]; rfl
def zev (l : List Int) (zD : Int) (i : Nat) : Bool := xz (l.getD i 0) zD && (List.range i).all fun k => !decide (l.getD k 0 = l.getD i 0)
def zlr (l : List Int) (zD : Int) : Bool := (List.range l.length).all (zev l zD)
def zhP (f : Fn) : Bool := !decide (f.zD < 0) && (!decide (5000 < f.zD) && (!decide ((5000 : Int) < f.code.length) && (!decide (f.entry < 0) && (!decide ((f.code.length : Int) <= f.entry) && (!decide (f.frame < 0) && !decide (65536 < f.frame))))))
theorem Old.got {h h' : za} (e : Old h h') {b : Nat} {o : wB} (hb : b < h.next) (hg : h.get b = some o) : h'.get b = some o := by rw [e.get b hb]; exact hg
section
variable {L h : za} {b1 : Nat} {f : Fn} {vs : List Value} {B : Bool}
end
end Go.Rtl
namespace Go.Rtl
open Go.Ai Go.Proofs
set_option linter.unusedVariables false
set_option linter.unusedSimpArgs false
set_option maxRecDepth 10000
def Ki (g : Int) : Bool := !decide (g < 0) && !decide (65536 < g)
def zbm (p : Pg) (k : Int) : Int := match p.funcs[k.toNat]? with
  | some f => f.params.length
  | none => 0
def zfv (p : Pg) (c : Ins) : Bool := !decide (c.op = 10) || (xz c.sub p.funcs.length && decide (zbm p c.sub = c.args.length))
def znL (p : Pg) (c : Ins) : Bool := !decide (c.op = 8) || (xz c.sub p.globals.length && (!decide (c.k < 0) && !decide (p.globals.getD c.sub.toNat 0 < c.k)))
def zaZ (p : Pg) (c : Ins) : Bool := zfv p c && znL p c
def zfP (p : Pg) : Bool := !decide ((200 : Int) < p.globals.length) && (!decide ((100 : Int) < p.funcs.length) && (!decide (p.main < 0) && !decide ((p.funcs.length : Int) <= p.main)))
abbrev YK (f : Fn) : wB := .cells [.string f.nm, f.pv, .int .i64 f.zD, .int .i64 f.frame, .int .i64 f.entry, f.cv] 51
abbrev wD (x : Ins) : wB := .cells [.int .i64 x.op, .int .i64 x.sub, .int .i64 x.a, .int .i64 x.b, .int .i64 x.d, .int .i64 x.k, x.av, .int .i64 x.s, .int .i64 x.t] 46
abbrev zfw (p : Pg) : wB := .cells [p.gv, p.fv, .int .i64 p.main] 25
theorem mem_of {α : Type} {l : List α} {k : Nat} {x : α} (h : l[k]? = some x) : x ∈ l := List.mem_of_getElem? h
theorem zjA {n : Int} (h : ¬ n < 0) : ((n.toNat : Nat) : Int) = n := by omega
section
variable {h : za} {b1 b5 : Nat} {p : Pg} {f : Fn} {x : Ins} {vs : List Value} {B : Bool}
end
end Go.Rtl
namespace Go.Rtl
open Go.Ai Go.Proofs
set_option linter.unusedVariables false
set_option linter.unusedSimpArgs false
set_option maxRecDepth 10000
theorem J0 (n : Nat) (l : List (Nat × Value)) : (Kf n l).size = n := by
  induction l with
  | nil => simp [Kf, Env.Kp]
  | cons p l ih => obtain ⟨k, v⟩ := p; exact ih
theorem ziq (n t : Nat) (z : Value) (l : List (Nat × Value)) (hl : ∀ p, p ∈ l -> p.1 ≠ t) (i : Nat) : (Kf n (l ++ [(t, z)])).get i = if i = t then z else (Kf n l).get i := by
  induction l with
  | nil => simp only [List.nil_append, Kf, Env.zP]
  | cons p l ih =>
    obtain ⟨k, v⟩ := p
    have hk : k ≠ t := hl _ List.mem_cons_self
    have := ih fun p hp => hl p (List.mem_cons_of_mem _ hp)
    simp only [List.cons_append, Kf, Env.zP, this]
    by_cases h1 : i = k
    . subst h1; simp [hk]
    . simp [h1]
theorem zcG {n t : Nat} {l : List (Nat × Value)} {s1 : Env} (z : Value) (h : Le (Kf n l) s1) (ht : t < n) (hl' : (l.all fun p => !Nat.beq p.1 t) = true) : ∃ s0, vM [t] [z] s1 = some s0 /\ Le (Kf n (l ++ [(t, z)])) s0 := by
  have hs : s1.size = n := by rw [<- h.size, J0]
  have hl : ∀ p, p ∈ l -> p.1 ≠ t := fun p hp e => by
    rw [List.all_eq_true] at hl'
    have := hl' p hp
    rw [e] at this
    simp at this
  refine ⟨s1.set t z, ?_, ⟨by rw [J0, Env.size_set, hs], fun i => ?_⟩⟩
  . have : s1.put (some t) z = some (s1.set t z) := by
      simp only [Env.put]
      have : Nat.blt t s1.size = true := by rw [hs]; simpa [Nat.blt_eq] using ht
      simp [this]
    simp only [vM, this]
  . rw [ziq n t z l hl, Env.zP]
    by_cases h1 : i = t
    . simp [h1]
    . simp only [h1, if_false]; exact h.get i
structure zdv (h0 : za) (A0 : u5) (h : za) : Prop where
  next : h0.next < h.next
  ro : h.ro = h0.ro
  loop : h.get h0.next = some (.loop A0)
  ready : A0.state = .ready /\ A0.pending = none
  old : ∀ b, b < h0.next -> h.get b = h0.get b
structure zlq (h0 : za) (A0 : u5) (br : Nat) (h : za) : Prop where
  next : h0.next < h.next
  ro : h.ro = h0.ro
  loop : h.get h0.next = some (.loop { A0 with state := .done, pending := some .ret })
  old : ∀ b, b < h0.next -> b ≠ br -> h.get b = h0.get b
  res : h.get br = some (.cells [.bool false] 4)
theorem zdv.kU {h0 h : za} {A0 : u5} (r : zdv h0 A0 h) : Old h0 h := ⟨Nat.le_of_lt r.next, r.ro, r.old⟩
def Yc (h0 : za) (br : Nat) (A0 : u5) (test : Int -> Bool) : Prop := ∀ (z : Int) (h : za) (K : Value -> za -> Prop), zdv h0 A0 h ->
  (test z = true -> ∀ h', zdv h0 A0 h' -> K (.bool true) h') -> (test z = false -> ∀ h', zlq h0 A0 br h' -> K (.bool false) h') -> znw Tryd.prog h0.next [.int .i64 z] h K
def KA (h0 : za) (br : Nat) (A0 : u5) (test : Int -> Bool) (zs : List Int) (_ : Value) (h1 : za) : Prop := (zs.all test = true /\ zdv h0 A0 h1) \/ (zs.all test = false /\ zlq h0 A0 br h1)
def Iter (g : FuncId) (ptr : Value) (zs : List Int) (h0 : za) : Prop := ∀ (br : Nat) (A0 : u5) (h : za) (test : Int -> Bool), zdv h0 A0 h -> Yc h0 br A0 test ->
  DC Tryd.prog g [.func (.yield h0.next) #[] #[], ptr] h (KA h0 br A0 test zs)
theorem Ux {L : Nat} {args : List Value} {h : za} {K : Value -> za -> Prop} (hy : znw Tryd.prog L args h K) : zI Tryd.prog (.func (.yield L) #[] #[]) args h K := ⟨rfl, rfl, hy⟩
theorem zdx {g : FuncId} {ptr : Value} {zs : List Int} {h0 : za} {br : Nat} {test : Int -> Bool} {n : Nat} {l : List (Nat × Value)} {ps : Array Tmp} {asn bd : Code} {nrm ret : za -> Prop} {ext : Nat -> za -> Prop}
    (hc : yT Tryd.prog g = true) (hro : h0.ro <= h0.next) (hbr : br < h0.next) (it : Iter g ptr zs h0)
    (hy : ∀ s1, Le (Kf n l) s1 -> Yc h0 br { state := .ready, pending := none, s := s1, params := ps, assign := asn, body := bd } test)
    (hn : ∀ h', zs.all test = true -> Old h0 h' -> nrm h') (hr : ∀ h', zs.all test = false -> h0.next <= h'.next -> h'.ro = h0.ro -> h'.get br = some (.cells [.bool false] 4) -> ret h') :
    RF Tryd.prog (.func (.func g) #[] #[ptr]) ps asn bd (Kf n l) h0 nrm ret ext := by
  refine ⟨hc, fun s1 hl => ?_⟩
  have r0 : zdv h0 { state := .ready, pending := none, s := s1, params := ps, assign := asn, body := bd } (h0.push (.loop { state := .ready, pending := none, s := s1, params := ps, assign := asn, body := bd })) :=
    ⟨Nat.lt_succ_self _, rfl, zw, ⟨rfl, rfl⟩, fun b hb => zu hb⟩
  refine (it br _ _ test r0 (hy s1 hl)).mono ?_
  rintro _ h1 (⟨ha, r⟩ | ⟨ha, r⟩)
  . refine ⟨_, r.loop, rfl, by rw [r.ro]; exact hro, .normal, rfl, hn _ ha ⟨Nat.le_of_lt r.next, r.ro, fun b hb => ?_⟩⟩
    rw [zt (by omega)]; exact r.old b hb
  . refine ⟨_, r.loop, rfl, by rw [r.ro]; exact hro, .ret, rfl, hr _ ha (Nat.le_of_lt r.next) r.ro ?_⟩
    rw [zt (by omega)]; exact r.res
theorem qO {h : za} {R : Value -> za -> Prop} : rv [] h R = R (.tuple #[]) h := by
  apply propext; simp only [rv, yH, ux, true_and]
theorem zmD {x : Ins} (ha : zfc x.op = true) (h1 : ¬ x.a = -1) : lA x = [x.a] := by simp [lA, ha, h1]
theorem zm3 {x : Ins} (ha : zkD x.op = true) (h1 : ¬ x.b = -1) : lB x = [x.b] := by simp [lB, ha, h1]
section
variable {h0 h : za} {A0 : u5} {br b : Nat} {test : Int -> Bool} {x : Ins} {vs : List Value}
theorem u20 (I : SliceI h0 x.av x.args) (few : x.args.length <= 17592186043904) (hb : b < h0.next) (hg : h0.get b = some (wD x)) (y : Yc h0 br A0 test) (r : zdv h0 A0 h) (hpre : (lA x ++ lB x).all test = true) :
    vV (.pointer (some ⟨b, 0, none⟩)) (KA h0 br A0 test (jN x)) (.func (.yield h0.next) #[] #[]) vs h := by
  have gh := r.kU.got hb hg
  have an := I.nob
  by_cases h10 : x.op = 10
  . have hC : lC x = x.args := by simp [lC, h10]
    have hl := (I.old r.kU).Q2 3 h
    simp -implicitDefEqProofs only [EE, ↓BK, ld1, qa, yc, yi, Vu, Qw, vV, gh, h10, an, hl]
    refine zkE (zdv h0 A0) x.args.length (atB x.args test) r ?_
    intro i h2 J hi r2 hq hJ
    have S2 := I.old r2.kU
    rcases Nat.lt_or_ge i x.args.length with hlt | hge
    . obtain ⟨z, hz, hm⟩ := get_some hlt
      obtain ⟨b', o', c', t', ha', hbb', hgt', hco'⟩ := S2.at hz
      have hlt' : (i : Int) < (x.args.length : Int) := by omega
      have hinc : IntKind.wrap .i64 ((i : Int) + 1) = ((i + 1 : Nat) : Int) := inc (by omega)
      simp -implicitDefEqProofs only [EE, nth, ↓BK, ld1, yc, QF, QG, X7, hlt', ha', hgt', hco']
      refine Ux (y z h2 _ r2 (fun ht h3 r3 => ?_) (fun ht h3 r3 => ?_))
      . simp -implicitDefEqProofs only [EE, nth, hinc]
        exact hJ _ hlt (by rw [zax hz]; exact ht) r3
      . simp -implicitDefEqProofs only [EE, qO]
        refine .inr ⟨?_, r3⟩
        unfold jN
        rw [hC, List.all_append, X2 (B := test) hz ht, Bool.and_false]
    . have hlt' : ¬ (i : Int) < (x.args.length : Int) := by omega
      simp -implicitDefEqProofs only [EE, nth, X7, hlt', qO]
      refine .inl ⟨?_, r2⟩
      unfold jN
      rw [hC, List.all_append, hpre, Bool.true_and]
      exact jV fun k hk => hq k (by omega)
  . simp -implicitDefEqProofs only [EE, ld1, yc, yi, vV, gh, h10, qO]
    refine .inl ⟨?_, r⟩
    have hC : lC x = [] := by simp [lC, h10]
    unfold jN
    rw [hC, List.append_nil]; exact hpre
theorem u15 (I : SliceI h0 x.av x.args) (few : x.args.length <= 17592186043904) (hb : b < h0.next) (hg : h0.get b = some (wD x)) (y : Yc h0 br A0 test) (r : zdv h0 A0 h) (hpre : (lA x).all test = true) :
    vZ (.int .i64 x.op) h (.pointer (some ⟨b, 0, none⟩)) (.func (.yield h0.next) #[] #[]) (KA h0 br A0 test (jN x)) (vV (.pointer (some ⟨b, 0, none⟩)) (KA h0 br A0 test (jN x)) (.func (.yield h0.next) #[] #[])) := by
  have gh := r.kU.got hb hg
  cases hU : zkD x.op with
  | false =>
    have hB : lB x = [] := by simp [lB, hU]
    have h5 : ¬ x.op = 5 := by intro q; simp [zkD, q] at hU
    have h7 : ¬ x.op = 7 := by intro q; simp [zkD, q] at hU
    have h11 : ¬ x.op = 11 := by intro q; simp [zkD, q] at hU
    simp -implicitDefEqProofs only [EE, nth, ZE, vZ, h5, h7, h11]
    exact u20 I few hb hg y r (by rw [hB, List.append_nil]; exact hpre)
  | true =>
    have key : Zo (.pointer (some ⟨b, 0, none⟩)) h (.func (.yield h0.next) #[] #[]) (KA h0 br A0 test (jN x)) (vV (.pointer (some ⟨b, 0, none⟩)) (KA h0 br A0 test (jN x)) (.func (.yield h0.next) #[] #[])) := by
      by_cases hb1 : x.b = -1
      . simp -implicitDefEqProofs only [EE, Int.reduceNeg, ld1, yc, jx, Zq, XW, Zo, gh, hb1]
        exact u20 I few hb hg y r (by simp only [lB, hb1, not_true_eq_false, and_false, if_false, List.append_nil]; exact hpre)
      . simp -implicitDefEqProofs only [EE, Int.reduceNeg, ld1, yc, jx, XW, Zo, gh, hb1]
        refine Ux (y x.b h _ r (fun ht h3 r3 => ?_) (fun ht h3 r3 => ?_))
        . simp -implicitDefEqProofs only [EE, Zq]
          exact u20 I few hb hg y r3 (by rw [zm3 hU hb1, List.all_append, hpre]; simp [ht])
        . simp -implicitDefEqProofs only [EE, Zq, qO]
          refine .inr ⟨?_, r3⟩
          unfold jN
          rw [zm3 hU hb1, List.all_append, List.all_append]; simp [ht]
    by_cases h5 : x.op = 5
    . simp -implicitDefEqProofs only [EE, nth, vZ, h5]; rw [h5] at *; exact key
    by_cases h11 : x.op = 11
    . simp -implicitDefEqProofs only [EE, nth, Int.reduceEq, ZE, vZ, h11]; exact key
    by_cases h7 : x.op = 7
    . simp -implicitDefEqProofs only [EE, nth, Int.reduceEq, ZE, vZ, h7]; exact key
    simp [zkD, h5, h7, h11] at hU
end
end Go.Rtl
namespace Go.Rtl
open Go.Ai Go.Proofs
set_option linter.unusedVariables false
set_option linter.unusedSimpArgs false
set_option maxRecDepth 10000
section
variable {h0 h : za} {b : Nat} {x : Ins}
theorem zf8 (I : SliceI h0 x.av x.args) (few : x.args.length <= 17592186043904) (hb : b < h0.next) (hg : h0.get b = some (wD x)) : Iter 18 (.pointer (some ⟨b, 0, none⟩)) (jN x) h0 := by
  intro br A0 h test r y
  apply zeg
  unfold zgS
  have gh := r.kU.got hb hg
  have tail : ∀ h, zdv h0 A0 h -> (lA x).all test = true -> vZ (.int .i64 x.op) h (.pointer (some ⟨b, 0, none⟩)) (.func (.yield h0.next) #[] #[]) (KA h0 br A0 test (jN x)) (vV (.pointer (some ⟨b, 0, none⟩)) (KA h0 br A0 test (jN x)) (.func (.yield h0.next) #[] #[])) := fun h r hp => u15 I few hb hg y r hp
  cases hU : zfc x.op with
  | false =>
    have hA : lA x = [] := by simp [lA, hU]
    have n3 : ¬ x.op = 3 := by intro q; simp [zfc, q] at hU
    have n4 : ¬ x.op = 4 := by intro q; simp [zfc, q] at hU
    have n5 : ¬ x.op = 5 := by intro q; simp [zfc, q] at hU
    have n6 : ¬ x.op = 6 := by intro q; simp [zfc, q] at hU
    have n7 : ¬ x.op = 7 := by intro q; simp [zfc, q] at hU
    have n11 : ¬ x.op = 11 := by intro q; simp [zfc, q] at hU
    have n12 : ¬ x.op = 12 := by intro q; simp [zfc, q] at hU
    have n14 : ¬ x.op = 14 := by intro q; simp [zfc, q] at hU
    simp -implicitDefEqProofs only [EE, nth, ↓BK, ld1, yc, yi, Xv, jv, ka, qq, uj, vJ, wz, gh, n3, n4, n5, n6, n7, n11, n12, n14]
    exact tail h r (by rw [hA]; rfl)
  | true =>
    have key : ∀ J : List Value -> za -> Prop, (∀ h', zdv h0 A0 h' -> (lA x).all test = true -> J [] h') -> YM (.pointer (some ⟨b, 0, none⟩)) h (.func (.yield h0.next) #[] #[]) (KA h0 br A0 test (jN x)) J := by
      intro J hJ
      by_cases ha1 : x.a = -1
      . simp -implicitDefEqProofs only [EE, Int.reduceNeg, ld1, yc, vj, YE, Ua, YM, gh, ha1]
        exact hJ h r (by simp only [lA, ha1, not_true_eq_false, and_false, if_false]; rfl)
      . simp -implicitDefEqProofs only [EE, Int.reduceNeg, ld1, yc, vj, Ua, YM, gh, ha1]
        refine Ux (y x.a h _ r (fun ht h3 r3 => ?_) (fun ht h3 r3 => ?_))
        . simp -implicitDefEqProofs only [EE, YE]
          exact hJ h3 r3 (by rw [zmD hU ha1]; simp [ht])
        . simp -implicitDefEqProofs only [EE, YE, qO]
          refine .inr ⟨?_, r3⟩
          unfold jN
          rw [zmD hU ha1, List.all_append, List.all_append]; simp [ht]
    by_cases h3 : x.op = 3
    . simp -implicitDefEqProofs only [EE, nth, ↓BK, ld1, yc, yi, wz, gh, h3]; exact key _ fun h' r' hp => (by have g' := r'.kU.got hb hg; simp -implicitDefEqProofs only [EE, g']; exact tail h' r' hp)
    by_cases h4 : x.op = 4
    . simp -implicitDefEqProofs only [EE, nth, ↓BK, Int.reduceEq, ld1, yc, yi, vJ, wz, gh, h4]; exact key _ fun h' r' hp => (by have g' := r'.kU.got hb hg; simp -implicitDefEqProofs only [EE, g']; exact tail h' r' hp)
    by_cases h6 : x.op = 6
    . simp -implicitDefEqProofs only [EE, nth, ↓BK, Int.reduceEq, ld1, yc, yi, uj, vJ, wz, gh, h6]; exact key _ fun h' r' hp => (by have g' := r'.kU.got hb hg; simp -implicitDefEqProofs only [EE, g']; exact tail h' r' hp)
    by_cases h12 : x.op = 12
    . simp -implicitDefEqProofs only [EE, nth, ↓BK, Int.reduceEq, ld1, yc, yi, qq, uj, vJ, wz, gh, h12]; exact key _ fun h' r' hp => (by have g' := r'.kU.got hb hg; simp -implicitDefEqProofs only [EE, g']; exact tail h' r' hp)
    by_cases h14 : x.op = 14
    . simp -implicitDefEqProofs only [EE, nth, ↓BK, Int.reduceEq, ld1, yc, yi, ka, qq, uj, vJ, wz, gh, h14]; exact key _ fun h' r' hp => (by have g' := r'.kU.got hb hg; simp -implicitDefEqProofs only [EE, g']; exact tail h' r' hp)
    by_cases h5 : x.op = 5
    . simp -implicitDefEqProofs only [EE, nth, ↓BK, Int.reduceEq, ld1, yc, yi, jv, ka, qq, uj, vJ, wz, gh, h5]; exact key _ fun h' r' hp => (by have g' := r'.kU.got hb hg; simp -implicitDefEqProofs only [EE, g']; exact tail h' r' hp)
    by_cases h11 : x.op = 11
    . simp -implicitDefEqProofs only [EE, nth, ↓BK, Int.reduceEq, ld1, yc, yi, Xv, jv, ka, qq, uj, vJ, wz, gh, h11]; exact key _ fun h' r' hp => (by have g' := r'.kU.got hb hg; simp -implicitDefEqProofs only [EE, g']; exact tail h' r' hp)
    by_cases h7 : x.op = 7
    . simp -implicitDefEqProofs only [EE, nth, ↓BK, Int.reduceEq, ld1, yc, yi, Xv, jv, ka, qq, uj, vJ, wz, gh, h7]; exact key _ fun h' r' hp => (by have g' := r'.kU.got hb hg; simp -implicitDefEqProofs only [EE, g']; exact tail h' r' hp)
    simp [zfc, h3, h4, h5, h6, h7, h11, h12, h14] at hU
theorem zd1 (hb : b < h0.next) (hg : h0.get b = some (wD x)) : Iter 17 (.pointer (some ⟨b, 0, none⟩)) (jo x) h0 := by
  intro br A0 h test r y
  apply zbE
  unfold zcM
  have gh := r.kU.got hb hg
  by_cases h12 : x.op = 12
  . have h11 : ¬ x.op = 11 := by omega
    simp -implicitDefEqProofs only [EE, Int.reduceEq, ld1, yc, yi, ZM, ku, We, gh, h12, qO]
    exact .inl ⟨by simp [jo, h12], r⟩
  . simp -implicitDefEqProofs only [EE, ld1, yc, yi, W1, We, gh, h12]
    refine Ux (y x.s h _ r (fun ht h3 r3 => ?_) (fun ht h3 r3 => ?_))
    . have g3 := r3.kU.got hb hg
      by_cases h11 : x.op = 11
      . simp -implicitDefEqProofs only [EE, ld1, yc, yi, zcf, ZM, ku, g3, h11]
        refine Ux (y x.t h3 _ r3 (fun ht2 h4 r4 => ?_) (fun ht2 h4 r4 => ?_))
        . simp -implicitDefEqProofs only [qO]
          exact .inl ⟨by simp [jo, h11, ht, ht2], r4⟩
        . simp -implicitDefEqProofs only [qO]
          exact .inr ⟨by simp [jo, h11, ht, ht2], r4⟩
      . simp -implicitDefEqProofs only [EE, ld1, yc, yi, ZM, ku, g3, h11, qO]
        exact .inl ⟨by simp [jo, h12, h11, ht], r3⟩
    . simp -implicitDefEqProofs only [EE, ku, qO]
      refine .inr ⟨?_, r3⟩
      by_cases h11 : x.op = 11
      . simp [jo, h11, ht]
      . simp [jo, h12, h11, ht]
end
structure zmb (h0 : za) (A0 : u5) (h : za) : Prop where
  next : h0.next < h.next
  ro : h.ro = h0.ro
  loop : h.get h0.next = some (.loop { A0 with state := .busy })
  ready : A0.state = .ready /\ A0.pending = none
  old : ∀ b, b < h0.next -> h.get b = h0.get b
theorem zmb.kU {h0 h : za} {A0 : u5} (r : zmb h0 A0 h) : Old h0 h := ⟨Nat.le_of_lt r.next, r.ro, r.old⟩
theorem zno {h0 h : za} {A0 : u5} (r : zdv h0 A0 h) (hro : h0.ro <= h0.next) {K : za -> Prop} (hk : ∀ hb, zmb h0 A0 hb -> K hb) : RA h0.next h K :=
  ⟨A0, r.loop, r.ready.1, by rw [r.ro]; exact hro, hk _ ⟨r.next, r.ro, zz, r.ready, fun b hb => by rw [zt (by omega)]; exact r.old b hb⟩⟩
theorem zjM {h0 hb : za} {A0 : u5} (r : zmb h0 A0 hb) (hro : h0.ro <= h0.next) {K : Value -> za -> Prop} (hk : ∀ h', zdv h0 A0 h' -> K (.bool true) h') : Fin h0.next K .normal hb := by
  refine ⟨_, r.loop, by rw [r.ro]; exact hro, hk _ ⟨r.next, r.ro, ?_, r.ready, fun b hb => by rw [zt (by omega)]; exact r.old b hb⟩⟩
  rw [zz]
  obtain ⟨st, pe, s, ps, asn, bd⟩ := A0
  obtain ⟨r1, r2⟩ := r.ready
  simp only at r1 r2
  subst r1 r2
  rfl
theorem zha {h0 hb h2 : za} {A0 : u5} {br : Nat} (r : zmb h0 A0 hb) (hro : h0.ro <= h0.next) (hbr : br < h0.next) (he : h2 = hb.set br (some (.cells [.bool false] 4))) {K : Value -> za -> Prop} (hk : ∀ h', zlq h0 A0 br h' -> K (.bool false) h') : Fin h0.next K .ret h2 := by
  subst he
  refine ⟨{ A0 with state := .busy }, by rw [zt (by omega)]; exact r.loop, by show hb.ro <= _; rw [r.ro]; exact hro, hk _ ⟨r.next, r.ro, zz, fun b h1 h3 => ?_, ?_⟩⟩
  . rw [zt (by omega), zt h3]; exact r.old b h1
  . rw [zt (by omega), zz]
end Go.Rtl
namespace Go.Rtl
open Go.Ai Go.Proofs
set_option linter.unusedVariables false
set_option linter.unusedSimpArgs false
set_option maxRecDepth 10000
theorem znh (x : Ins) (h : za) (hn : zV x.av = false) : DC Tryd.prog 12 [x.val] h (fun v h1 => v = .func (.func 18) #[] #[.pointer (some ⟨h.next, 0, none⟩)] /\ h1 = h.push (wD x)) := by
  apply zhL
  unfold zjx
  simp -implicitDefEqProofs only [EE, ↓nw, Value.cells, List.nil_append]
theorem zkx (x : Ins) (h : za) (hn : zV x.av = false) : DC Tryd.prog 11 [x.val] h (fun v h1 => v = .func (.func 17) #[] #[.pointer (some ⟨h.next, 0, none⟩)] /\ h1 = h.push (wD x)) := by
  apply zeJ
  unfold zfJ
  simp -implicitDefEqProofs only [EE, ↓nw, Value.cells, List.nil_append]
end Go.Rtl
namespace Go.Rtl
open Go.Ai Go.Proofs
set_option linter.unusedVariables false
set_option linter.unusedSimpArgs false
set_option maxRecDepth 10000
theorem zoN : (xI Tryd.prog 37 0).1 = #[19] := by kernel_rfl
theorem zo7 : (xI Tryd.prog 37 1).1 = #[28] := by kernel_rfl
section
variable {h0 : za} {b1 br : Nat} {f : Fn} {t0 t1 t3 t9 t10 t11 t12 t13 t14 t15 t16 t17 t18 t26 t27 : Value}
theorem ziw (hro : h0.ro <= h0.next) (hbr : br < h0.next) (hg : h0.get br = some (.cells [.bool false] 4)) (hrb : h0.ro <= br) (hb1 : b1 < h0.next) (hf : h0.get b1 = some (YK f)) (hc : SliceR h0 f.cv 9 (f.code.map Ins.row))
    {s1 : Env} (hl : Le (Kf 125 [(0, t0), (1, t1), (2, .pointer (some ⟨b1, 0, none⟩)), (3, t3), (4, .pointer (some ⟨br, 0, none⟩)), (9, t9), (10, t10), (11, t11), (12, t12), (13, t13), (14, t14), (15, t15), (16, t16), (17, t17), (18, t18)]) s1) :
    Yc h0 br { state := .ready, pending := none, s := s1, params := (xI Tryd.prog 37 0).1, assign := (xI Tryd.prog 37 0).2.1, body := (xI Tryd.prog 37 0).2.2 } (fun s => xz s f.code.length) := by
  intro z h K r hgo hst
  obtain ⟨s0, e0, l0⟩ := zcG (.int .i64 z) hl (t := 19) (by decide) rfl
  refine zhv (YW (q := qs) mixed) (n := 150) (lv := 52) (lv' := 0) (h := h) r.loop (s0 := s0) (by rw [zoN]; exact e0) l0 rfl ?_
  show zng Tryd.prog (Q1 Tryd.prog qs) 150 52 0 h0.next (xI Tryd.prog 37 0).2.1 (xI Tryd.prog 37 0).2.2 (Kf 125 [(0, t0), (1, t1), (2, .pointer (some ⟨b1, 0, none⟩)), (3, t3), (4, .pointer (some ⟨br, 0, none⟩)), (9, t9), (10, t10), (11, t11), (12, t12), (13, t13), (14, t14), (15, t15), (16, t16), (17, t17), (18, t18), (19, .int .i64 z)]) h K
  rw [U2]
  unfold WY
  refine zno r hro fun hb B => ?_
  have gf := B.kU.got hb1 hf
  have c2 := hc.old B.kU
  have cn := c2.nob
  have cl := c2.zga 3 hb
  rw [List.length_map] at cl
  simp -implicitDefEqProofs only [EE, ↓BK, ld1, YA, vm, U8, gf, cn, cl]
  refine zi (by kernel_rfl) rfl (qH z _ hb) ?_
  cases ht : xz z f.code.length with
  | true =>
    simp -implicitDefEqProofs only [EE, XM]
    exact zjM B hro (hgo ht)
  | false =>
    have g2 : hb.get br = some (.cells [.bool false] 4) := by rw [B.old br hbr]; exact hg
    have rb : hb.ro <= br := by rw [B.ro]; exact hrb
    simp -implicitDefEqProofs only [EE, ze, if_true, sto, XD, XM, g2, rb]
    exact zha B hro hbr rfl (hst ht)
theorem ziO (hro : h0.ro <= h0.next) (hbr : br < h0.next) (hg : h0.get br = some (.cells [.bool false] 4)) (hrb : h0.ro <= br) (hb1 : b1 < h0.next) (hf : h0.get b1 = some (YK f))
    {s1 : Env} (hl : Le (Kf 125 [(0, t0), (1, t1), (2, .pointer (some ⟨b1, 0, none⟩)), (3, t3), (4, .pointer (some ⟨br, 0, none⟩)), (9, t9), (10, t10), (11, t11), (12, t12), (13, t13), (14, t14), (15, t15), (16, t16), (17, t17), (18, t18), (26, t26), (27, t27)]) s1) :
    Yc h0 br { state := .ready, pending := none, s := s1, params := (xI Tryd.prog 37 1).1, assign := (xI Tryd.prog 37 1).2.1, body := (xI Tryd.prog 37 1).2.2 } (fun u => xz u f.zD) := by
  intro z h K r hgo hst
  obtain ⟨s0, e0, l0⟩ := zcG (.int .i64 z) hl (t := 28) (by decide) rfl
  refine zhv (YW (q := qs) mixed) (n := 150) (lv := 84) (lv' := 0) (h := h) r.loop (s0 := s0) (by rw [zo7]; exact e0) l0 rfl ?_
  show zng Tryd.prog (Q1 Tryd.prog qs) 150 84 0 h0.next (xI Tryd.prog 37 1).2.1 (xI Tryd.prog 37 1).2.2 (Kf 125 [(0, t0), (1, t1), (2, .pointer (some ⟨b1, 0, none⟩)), (3, t3), (4, .pointer (some ⟨br, 0, none⟩)), (9, t9), (10, t10), (11, t11), (12, t12), (13, t13), (14, t14), (15, t15), (16, t16), (17, t17), (18, t18), (26, t26), (27, t27), (28, .int .i64 z)]) h K
  rw [UL]
  unfold Ul
  refine zno r hro fun hb B => ?_
  have gf := B.kU.got hb1 hf
  simp -implicitDefEqProofs only [EE, ↓BK, ld1, yc, qc, U7, gf]
  refine zi (by kernel_rfl) rfl (qH z _ hb) ?_
  cases ht : xz z f.zD with
  | true =>
    simp -implicitDefEqProofs only [EE, XE]
    exact zjM B hro (hgo ht)
  | false =>
    have g2 : hb.get br = some (.cells [.bool false] 4) := by rw [B.old br hbr]; exact hg
    have rb : hb.ro <= br := by rw [B.ro]; exact hrb
    simp -implicitDefEqProofs only [EE, ze, if_true, sto, XD, XE, g2, rb]
    exact zha B hro hbr rfl (hst ht)
end
def Kl (f : Fn) (x : Ins) : Bool := !wr x.op || xz x.d f.zD
def Kg (f : Fn) (x : Ins) : Bool := zbp f x && Kl f x
def KY (f : Fn) (x : Ins) : Bool := !zjd x && (!zlv x && (decide (x.op = 10) && decide (x.d = -1) || Kg f x))
def YH (f : Fn) (x : Ins) : Bool := decide (1 <= x.op) && (decide (x.op <= 14) && ((jo x).all (fun s => xz s f.code.length) && ((jN x).all (fun u => xz u f.zD) && KY f x)))
section
variable {h : za} {b1 b2 br : Nat} {f : Fn} {x : Ins} {vs : List Value} {B : Bool}
theorem r46 (W : Bx h b1 b2 f x) (hg : h.get br = some (.cells [.bool false] 4)) (hrb : h.ro <= br) (hB : B = Kl f x) : yL (.pointer (some ⟨b2, 0, none⟩)) (.pointer (some ⟨b1, 0, none⟩)) (.pointer (some ⟨br, 0, none⟩)) (isB B) vs h := by
  have g1 := W.g1
  have g2 := W.g2
  unfold Kl at hB
  cases hw : wr x.op with
  | false =>
    have n2 : ¬ x.op = 2 := by intro q; simp [wr, q] at hw
    have n3 : ¬ x.op = 3 := by intro q; simp [wr, q] at hw
    have n4 : ¬ x.op = 4 := by intro q; simp [wr, q] at hw
    have n5 : ¬ x.op = 5 := by intro q; simp [wr, q] at hw
    have n6 : ¬ x.op = 6 := by intro q; simp [wr, q] at hw
    have n8 : ¬ x.op = 8 := by intro q; simp [wr, q] at hw
    have n9 : ¬ x.op = 9 := by intro q; simp [wr, q] at hw
    have n10 : ¬ x.op = 10 := by intro q; simp [wr, q] at hw
    have n13 : ¬ x.op = 13 := by intro q; simp [wr, q] at hw
    simp -implicitDefEqProofs only [EE, nth, ↓BK, ze, if_true, sto, ld1, yc, UJ, XD, yi, ja, uY, vR, vq, wM, wi, xW, xA, yL, g2, hg, hrb, n2, n3, n4, n5, n6, n8, n9, n10, n13]
    rw [hB, hw]; rfl
  | true =>
    have key : ∀ J, Yq (.pointer (some ⟨b2, 0, none⟩)) h (.pointer (some ⟨b1, 0, none⟩)) (.pointer (some ⟨br, 0, none⟩)) (isB B) J := by
      intro J
      simp -implicitDefEqProofs only [EE, ld1, yc, vk, qc, Yq, g1, g2]
      refine zi (by kernel_rfl) rfl (qH x.d f.zD h) ?_
      simp -implicitDefEqProofs only [EE, ze, if_true, sto, ld1, UJ, XD, hg, hrb]
      rw [hB, hw]; rfl
    by_cases h2 : x.op = 2
    . simp -implicitDefEqProofs only [EE, nth, ↓BK, ze, sto, ld1, yc, XD, yi, xA, yL, g2, h2]; exact key _
    by_cases h3 : x.op = 3
    . simp -implicitDefEqProofs only [EE, nth, ↓BK, ze, Int.reduceEq, sto, ld1, yc, XD, yi, xW, xA, yL, g2, h3]; exact key _
    by_cases h4 : x.op = 4
    . simp -implicitDefEqProofs only [EE, nth, ↓BK, ze, Int.reduceEq, sto, ld1, yc, XD, yi, wi, xW, xA, yL, g2, h4]; exact key _
    by_cases h5 : x.op = 5
    . simp -implicitDefEqProofs only [EE, nth, ↓BK, ze, Int.reduceEq, sto, ld1, yc, XD, yi, wM, wi, xW, xA, yL, g2, h5]; exact key _
    by_cases h6 : x.op = 6
    . simp -implicitDefEqProofs only [EE, nth, ↓BK, ze, Int.reduceEq, sto, ld1, yc, XD, yi, vq, wM, wi, xW, xA, yL, g2, h6]; exact key _
    by_cases h8 : x.op = 8
    . simp -implicitDefEqProofs only [EE, nth, ↓BK, ze, Int.reduceEq, sto, ld1, yc, XD, yi, vR, vq, wM, wi, xW, xA, yL, g2, h8]; exact key _
    by_cases h9 : x.op = 9
    . simp -implicitDefEqProofs only [EE, nth, ↓BK, ze, Int.reduceEq, sto, ld1, yc, XD, yi, uY, vR, vq, wM, wi, xW, xA, yL, g2, h9]; exact key _
    by_cases h13 : x.op = 13
    . simp -implicitDefEqProofs only [EE, nth, ↓BK, ze, Int.reduceEq, sto, ld1, yc, XD, yi, ja, uY, vR, vq, wM, wi, xW, xA, yL, g2, h13]; exact key _
    by_cases h10 : x.op = 10
    . simp -implicitDefEqProofs only [EE, nth, ↓BK, ze, Int.reduceEq, sto, ld1, yc, XD, yi, ja, uY, vR, vq, wM, wi, xW, xA, yL, g2, h10]; exact key _
    simp [wr, h2, h3, h4, h5, h6, h8, h9, h10, h13] at hw
theorem r36 (W : Bx h b1 b2 f x) (hg : h.get br = some (.cells [.bool false] 4)) (hrb : h.ro <= br) (ho : 1 <= x.op /\ x.op <= 14) (hB : B = Kg f x) : yS (.int .i64 x.op) (.pointer (some ⟨b2, 0, none⟩)) h (.pointer (some ⟨br, 0, none⟩)) (isB B) (.pointer (some ⟨b1, 0, none⟩)) (yL (.pointer (some ⟨b2, 0, none⟩)) (.pointer (some ⟨b1, 0, none⟩)) (.pointer (some ⟨br, 0, none⟩)) (isB B)) := by
  have g1 := W.g1
  have g2 := W.g2
  have go : ∀ vs, zbp f x = true -> yL (.pointer (some ⟨b2, 0, none⟩)) (.pointer (some ⟨b1, 0, none⟩)) (.pointer (some ⟨br, 0, none⟩)) (isB B) vs h := fun vs q => r46 W hg hrb (by rw [hB, Kg, q, Bool.true_and])
  have no : ∀ h', zbp f x = false -> isB B (.bool false) h' := fun h' q => by rw [hB, Kg, q, Bool.false_and]; rfl
  by_cases h4 : x.op = 4
  . have e : zbp f x = (decide (1 <= x.sub) && decide (x.sub <= 4)) := by simp [zbp, h4]
    rw [e] at go no
    by_cases c1 : x.sub < 1
    . have c1' : ¬ 1 <= x.sub := by omega
      simp -implicitDefEqProofs only [EE, ze, if_true, sto, ld1, yc, UJ, XD, yN, kP, jg, kO, yS, g2, hg, hrb, h4, c1]
      exact no _ (by simp [c1'])
    by_cases c4 : 4 < x.sub
    . have c4' : ¬ x.sub <= 4 := by omega
      simp -implicitDefEqProofs only [EE, ze, if_true, sto, ld1, yc, UJ, XD, yN, kP, jg, kO, yS, g2, hg, hrb, h4, c1, c4]
      exact no _ (by simp [c4'])
    . have c1' : 1 <= x.sub := by omega
      have c4' : x.sub <= 4 := by omega
      simp -implicitDefEqProofs only [EE, ld1, yc, yN, kP, jg, kO, yS, g2, h4, c1, c4]
      exact go _ (by simp [c1', c4'])
  by_cases h5 : x.op = 5
  . have e : zbp f x = zg2 x.sub := by simp [zbp, h5]
    rw [e] at go no
    simp -implicitDefEqProofs only [EE, Int.reduceEq, ld1, yc, yN, wh, yS, g2, h5]
    refine zi (by kernel_rfl) rfl (zmI x.sub h) ?_
    cases hc : zg2 x.sub with
    | true => simp -implicitDefEqProofs only [EE, Yp]; exact go _ hc
    | false => simp -implicitDefEqProofs only [EE, ze, if_true, sto, ld1, UJ, XD, Yp, hg, hrb]; exact no _ hc
  by_cases h11 : x.op = 11
  . have e : zbp f x = ze3 x.sub := by simp [zbp, h11]
    rw [e] at go no
    simp -implicitDefEqProofs only [EE, Int.reduceEq, ld1, yc, yN, wT, wh, yS, g2, h11]
    refine zJ (by kernel_rfl) rfl (zkr x.sub h) ?_
    rintro _ h' ⟨⟨a, rfl⟩, rfl⟩
    cases hc : ze3 x.sub with
    | true => simp -implicitDefEqProofs only [EE, YB]; exact go _ hc
    | false => simp -implicitDefEqProofs only [EE, ze, if_true, sto, ld1, UJ, XD, YB, hg, hrb]; exact no _ hc
  by_cases h67 : x.op = 6 \/ x.op = 7
  . have e : zbp f x = VD x.sub := by rcases h67 with q | q <;> simp [zbp, q]
    rw [e] at go no
    have key : ∀ J : List Value -> za -> Prop, (∀ vs, J vs h = yL (.pointer (some ⟨b2, 0, none⟩)) (.pointer (some ⟨b1, 0, none⟩)) (.pointer (some ⟨br, 0, none⟩)) (isB B) [] h) -> Z6 (.pointer (some ⟨b2, 0, none⟩)) h (.pointer (some ⟨br, 0, none⟩)) (isB B) J := by
      intro J hJ
      simp -implicitDefEqProofs only [EE, ld1, yc, yN, Z6, g2]
      refine zi (by kernel_rfl) rfl (zle x.sub h) ?_
      cases hc : VD x.sub with
      | true => simp -implicitDefEqProofs only [EE, Yg]; rw [hJ]; exact go _ hc
      | false => simp -implicitDefEqProofs only [EE, ze, if_true, sto, ld1, UJ, XD, Yg, hg, hrb]; exact no _ hc
    by_cases h6 : x.op = 6
    . simp -implicitDefEqProofs only [EE, nth, Int.reduceEq, vo, wT, wh, yS, h6]
      exact key _ fun _ => rfl
    . have h7 : x.op = 7 := by omega
      simp -implicitDefEqProofs only [EE, nth, Int.reduceEq, vo, wT, wh, yS, h7]
      exact key _ fun _ => rfl
  have h6 : ¬ x.op = 6 := fun q => h67 (.inl q)
  have h7 : ¬ x.op = 7 := fun q => h67 (.inr q)
  by_cases h9 : x.op = 9
  . have e : zbp f x = (decide (0 <= x.k) && decide (x.k <= f.frame)) := by simp [zbp, h9]
    rw [e] at go no
    by_cases c0 : x.k < 0
    . have c0' : ¬ 0 <= x.k := by omega
      simp -implicitDefEqProofs only [EE, nth, ze, if_true, Int.reduceEq, sto, ld1, vK, UJ, XD, uy, kD, kT, kE, kG, qo, vo, wT, wh, yS, g2, hg, hrb, h9, c0]
      exact no _ (by simp [c0'])
    by_cases c1 : f.frame < x.k
    . have c1' : ¬ x.k <= f.frame := by omega
      simp -implicitDefEqProofs only [EE, nth, ze, if_true, Int.reduceEq, sto, ld1, vK, yc, UJ, XD, uy, qS, kD, kT, kE, kG, qo, vo, wT, wh, yS, g1, g2, hg, hrb, h9, c0, c1]
      exact no _ (by simp [c1'])
    . have c0' : 0 <= x.k := by omega
      have c1' : x.k <= f.frame := by omega
      simp -implicitDefEqProofs only [EE, nth, Int.reduceEq, ld1, vK, yc, uy, qS, kD, kT, kE, kG, qo, vo, wT, wh, yS, g1, g2, h9, c0, c1]
      exact go _ (by simp [c0', c1'])
  have e : zbp f x = true := by
    unfold zbp
    rw [if_pos]
    omega
  simp -implicitDefEqProofs only [EE, nth, qo, vo, wT, wh, yS, h4, h5, h11, h6, h7, h9]
  exact go _ e
theorem r47 (W : Bx h b1 b2 f x) (hg : h.get br = some (.cells [.bool false] 4)) (hrb : h.ro <= br) (ho : 1 <= x.op /\ x.op <= 14) (hB : B = KY f x) : Yf (.pointer (some ⟨b2, 0, none⟩)) (.pointer (some ⟨br, 0, none⟩)) (isB B) (.pointer (some ⟨b1, 0, none⟩)) vs h := by
  have g1 := W.g1
  have g2 := W.g2
  have no : ∀ h', KY f x = false -> isB B (.bool false) h' := fun h' q => by rw [hB, q]; rfl
  have go : KY f x = Kg f x -> yS (.int .i64 x.op) (.pointer (some ⟨b2, 0, none⟩)) h (.pointer (some ⟨br, 0, none⟩)) (isB B) (.pointer (some ⟨b1, 0, none⟩)) (yL (.pointer (some ⟨b2, 0, none⟩)) (.pointer (some ⟨b1, 0, none⟩)) (.pointer (some ⟨br, 0, none⟩)) (isB B)) := fun q => r36 W hg hrb ho (by rw [hB, q])
  simp -implicitDefEqProofs only [EE, ↓BK, ld1, yc, yi, Yf, g2]
  by_cases h7 : x.op = 7
  . by_cases ca : x.a = -1
    . simp -implicitDefEqProofs only [EE, nth, ze, if_true, Int.reduceEq, Int.reduceNeg, sto, ld1, yc, UJ, XD, vj, w4, xU, xx, y7, kC, kX, kH, vr, yX, g2, hg, hrb, h7, ca]
      exact no _ (by simp [KY, zjd, Vb, h7, ca])
    by_cases cb : x.b = -1
    . simp -implicitDefEqProofs only [EE, nth, ze, if_true, Int.reduceEq, Int.reduceNeg, sto, ld1, yc, UJ, XD, vj, jx, w4, xU, xx, y7, kC, kX, kH, vr, yX, g2, hg, hrb, h7, ca, cb]
      exact no _ (by simp [KY, zlv, ziL, h7, cb])
    . simp -implicitDefEqProofs only [EE, nth, Int.reduceEq, Int.reduceNeg, ld1, yc, vj, jx, w4, xU, xx, y7, kC, kX, kH, vr, yX, g2, h7, ca, cb]
      rw [h7] at go
      exact go (by simp [KY, zjd, zlv, h7, ca, cb])
  by_cases h10 : x.op = 10
  . have n1 : zjd x = false := by simp [zjd, Vb, h10]
    have n2 : zlv x = false := by simp [zlv, ziL, h10]
    by_cases cd : x.d = -1
    . simp -implicitDefEqProofs only [EE, nth, ze, if_true, Int.reduceEq, Int.reduceNeg, sto, ld1, yc, UJ, XD, vk, w4, xU, xx, y7, YC, kN, vr, yX, g2, hg, hrb, h10, cd]
      rw [hB]
      simp [isB, KY, n1, n2, h10, cd]
    . simp -implicitDefEqProofs only [EE, nth, Int.reduceEq, Int.reduceNeg, ld1, yc, vk, w4, xU, xx, y7, YC, kN, vr, yX, g2, h10, cd]
      rw [h10] at go
      exact go (by simp [KY, n1, n2, h10, cd])
  have n2 : zlv x = false := by simp [zlv, ziL, h7]
  cases hA : Vb x.op with
  | false =>
    have n1 : zjd x = false := by simp [zjd, hA]
    have h3 : ¬ x.op = 3 := by intro q; simp [Vb, q] at hA
    have h4 : ¬ x.op = 4 := by intro q; simp [Vb, q] at hA
    have h5 : ¬ x.op = 5 := by intro q; simp [Vb, q] at hA
    have h6 : ¬ x.op = 6 := by intro q; simp [Vb, q] at hA
    have h11 : ¬ x.op = 11 := by intro q; simp [Vb, q] at hA
    have h14 : ¬ x.op = 14 := by intro q; simp [Vb, q] at hA
    simp -implicitDefEqProofs only [EE, nth, w4, xU, xx, y7, kN, vr, yX, g2, h3, h4, h5, h6, h11, h14, h7, h10]
    exact go (by simp [KY, n1, n2, h10])
  | true =>
    have key : ∀ J : List Value -> za -> Prop, (x.a ≠ -1 -> J [] h) -> qi (.pointer (some ⟨b2, 0, none⟩)) h (.pointer (some ⟨br, 0, none⟩)) (isB B) J := by
      intro J hJ
      by_cases ca : x.a = -1
      . simp -implicitDefEqProofs only [EE, ze, if_true, Int.reduceNeg, sto, ld1, yc, UJ, XD, vj, qi, g2, hg, hrb, ca]
        exact no _ (by simp [KY, zjd, hA, ca])
      . simp -implicitDefEqProofs only [EE, Int.reduceNeg, ld1, yc, vj, qi, g2, ca]
        exact hJ ca
    have fin : x.a ≠ -1 -> KY f x = Kg f x := fun ca => by simp [KY, zjd, n2, h10, ca]
    have step : ∀ J : List Value -> za -> Prop, (KY f x = Kg f x -> J [] h) -> qi (.pointer (some ⟨b2, 0, none⟩)) h (.pointer (some ⟨br, 0, none⟩)) (isB B) J := fun J hJ => key J fun ca => hJ (fin ca)
    by_cases h3 : x.op = 3
    . simp -implicitDefEqProofs only [EE, nth, yX, h3]
      rw [h3] at go
      refine step _ fun q => ?_
      simp -implicitDefEqProofs only [EE, g2, h3]
      exact go q
    by_cases h4 : x.op = 4
    . simp -implicitDefEqProofs only [EE, nth, Int.reduceEq, y7, yX, h4]
      rw [h4] at go
      refine step _ fun q => ?_
      simp -implicitDefEqProofs only [EE, g2, h4]
      exact go q
    by_cases h6 : x.op = 6
    . simp -implicitDefEqProofs only [EE, nth, Int.reduceEq, xx, y7, yX, h6]
      rw [h6] at go
      refine step _ fun q => ?_
      simp -implicitDefEqProofs only [EE, g2, h6]
      exact go q
    by_cases h14 : x.op = 14
    . simp -implicitDefEqProofs only [EE, nth, Int.reduceEq, xU, xx, y7, yX, h14]
      rw [h14] at go
      refine step _ fun q => ?_
      simp -implicitDefEqProofs only [EE, g2, h14]
      exact go q
    by_cases h5 : x.op = 5
    . simp -implicitDefEqProofs only [EE, nth, Int.reduceEq, w4, xU, xx, y7, yX, h5]
      rw [h5] at go
      refine step _ fun q => ?_
      simp -implicitDefEqProofs only [EE, g2, h5]
      exact go q
    by_cases h11 : x.op = 11
    . simp -implicitDefEqProofs only [EE, nth, Int.reduceEq, w4, xU, xx, y7, yX, h11]
      rw [h11] at go
      refine step _ fun q => ?_
      simp -implicitDefEqProofs only [EE, g2, h11]
      exact go q
    simp [Vb, h3, h4, h5, h6, h7, h11, h14] at hA
end
end Go.Rtl
namespace Go.Rtl
open Go.Ai Go.Proofs
set_option linter.unusedVariables false
set_option linter.unusedSimpArgs false
set_option maxRecDepth 10000
section
variable {h : za} {b1 b2 br : Nat} {f : Fn} {x : Ins} {vs : List Value} {B : Bool}
theorem r48 (W : Bx h b1 b2 f x) (I : InsOk h x) (hro : h.ro <= h.next) (hl : br < h.next) (hg : h.get br = some (.cells [.bool false] 4)) (hrb : h.ro <= br) (ho : 1 <= x.op /\ x.op <= 14) {t0 t1 t9 t10 t11 t13 t14 t15 t16 t17 t18 : Value} (hB : B = ((jN x).all (fun u => xz u f.zD) && KY f x)) :
    Yu (.pointer (some ⟨b2, 0, none⟩)) t0 t1 (.pointer (some ⟨b1, 0, none⟩)) (.pointer (some ⟨br, 0, none⟩)) t9 t10 t11 t13 t14 t15 t16 t17 t18 (isB B) vs h := by
  have g2 := W.g2
  have an := I.args.nob
  simp -implicitDefEqProofs only [EE, if_true, Nat.reduceAdd, ldn, Xs, Yu, g2]
  refine zJ (by kernel_rfl) (by simp -implicitDefEqProofs only [EE]) (znh x h an) ?_
  rintro _ _ ⟨rfl, rfl⟩
  have e : Old h (h.push (wD x)) := Old.push _ _
  have g3 : (h.push (wD x)).get h.next = some (wD x) := zw
  have nx : (h.push (wD x)).next = h.next + 1 := rfl
  have rx : (h.push (wD x)).ro = h.ro := rfl
  generalize h.push (wD x) = H at e g3 nx rx
  have W2 := W.old e
  have I2 := I.old e
  have g4 := e.got hl hg
  have b1l := W.l1
  simp -implicitDefEqProofs only [↓BK, ld1, UJ, QT]
  refine zdx (br := br) (test := fun u => xz u f.zD) (by kernel_rfl) (by omega) (by omega) (zf8 (b := h.next) I2.args I2.few (by omega) g3) (fun s1 hl => ziO (by omega) (by omega) g4 (by omega) (by omega) W2.g1 hl) (fun h' hall e' => ?_) (fun h' hno _ _ hres => ?_)
  . exact r47 (W2.old e') (e'.got (by omega) g4) (by rw [e'.ro]; omega) ho (by rw [hB, hall, Bool.true_and])
  . simp -implicitDefEqProofs only [EE, hres]
    rw [hB, hno]; rfl
theorem r49 (W : Bx h b1 b2 f x) (I : InsOk h x) (hc : SliceR h f.cv 9 (f.code.map Ins.row)) (hro : h.ro <= h.next) (hl : br < h.next) (hg : h.get br = some (.cells [.bool false] 4)) (hrb : h.ro <= br) (ho : 1 <= x.op /\ x.op <= 14) {t0 t1 t9 t10 t11 t13 t14 t15 t16 : Value} (hB : B = ((jo x).all (fun s => xz s f.code.length) && ((jN x).all (fun u => xz u f.zD) && KY f x))) :
    Yi (.pointer (some ⟨b2, 0, none⟩)) t0 t1 (.pointer (some ⟨b1, 0, none⟩)) (.pointer (some ⟨br, 0, none⟩)) t9 t10 t11 t13 t14 t15 t16 (isB B) vs h := by
  have g2 := W.g2
  have an := I.args.nob
  simp -implicitDefEqProofs only [EE, if_true, Nat.reduceAdd, ldn, Xs, Yi, g2]
  refine zJ (by kernel_rfl) (by simp -implicitDefEqProofs only [EE]) (zkx x h an) ?_
  rintro _ _ ⟨rfl, rfl⟩
  have e : Old h (h.push (wD x)) := Old.push _ _
  have g3 : (h.push (wD x)).get h.next = some (wD x) := zw
  have nx : (h.push (wD x)).next = h.next + 1 := rfl
  have rx : (h.push (wD x)).ro = h.ro := rfl
  generalize h.push (wD x) = H at e g3 nx rx
  have W2 := W.old e
  have g4 := e.got hl hg
  have b1l := W.l1
  simp -implicitDefEqProofs only [↓BK, ld1, UJ, Qn]
  refine zdx (br := br) (test := fun s => xz s f.code.length) (by kernel_rfl) (by omega) (by omega) (zd1 (b := h.next) (by omega) g3) (fun s1 hl => ziw (by omega) (by omega) g4 (by omega) (by omega) W2.g1 (hc.old e) hl) (fun h' hall e' => ?_) (fun h' hno _ _ hres => ?_)
  . have e2 := e.trans e'
    exact r48 (W2.old e') (I.old e2) (by rw [e'.ro]; have := e'.next; omega) (by have := e'.next; omega) (e'.got (by omega) g4) (by rw [e'.ro]; omega) ho (by rw [hB, hall, Bool.true_and])
  . simp -implicitDefEqProofs only [EE, hres]
    rw [hB, hno]; rfl
end
theorem zja (f : Fn) (x : Ins) (h : za) (hpv : cellOk f.pv = true /\ zV f.pv = false) (I : InsOk h x) (hc : SliceR h f.cv 9 (f.code.map Ins.row)) : xG Tryd.prog 37 [f.val, x.val] h (.bool (YH f x)) := by
  apply quiet_b
  replace I := I.lock
  replace hc := hc.lock
  generalize h.lock = L at I hc
  apply Yv; intro hwf; have hro := hwf.2
  apply zbC
  unfold zc0
  have an := I.args.nob
  have cn := hc.nob
  obtain ⟨hpc, hpn⟩ := hpv
  have roL : L.ro <= L.next + 1 + 1 := by omega
  by_cases c1 : x.op < 1
  . have c1' : ¬ 1 <= x.op := by omega
    have hB : YH f x = false := by simp [YH, c1']
    simp -implicitDefEqProofs only [EE, ↓nw, Value.cells, ze, if_true, sto, ld1, yc, UJ, XD, zlI, yi, kI, jd, zlI, roL, c1]
    rw [hB]; rfl
  by_cases c2 : 14 < x.op
  . have c2' : ¬ x.op <= 14 := by omega
    have hB : YH f x = false := by simp [YH, c2']
    simp -implicitDefEqProofs only [EE, ↓nw, Value.cells, ze, if_true, sto, ld1, yc, UJ, XD, zlI, yi, kI, jd, zlI, roL, c1, c2]
    rw [hB]; rfl
  have c1' : 1 <= x.op := by omega
  have c2' : x.op <= 14 := by omega
  simp -implicitDefEqProofs only [EE, ↓nw, Value.cells, ld1, yc, zlI, yi, kI, jd, zlI, c1, c2]
  generalize hH : ((L.push (YK f)).push (wD x)).push (.cells [.bool false] 4) = H
  have e : Old L H := by subst hH; exact ((Old.push _ _).trans (Old.push _ _)).trans (Old.push _ _)
  have nH : H.next = L.next + 3 := by subst hH; rfl
  have rH : H.ro = L.ro := by subst hH; rfl
  have g1 : H.get L.next = some (YK f) := by subst hH; rw [zu (by simp only [zM]; omega), zu (by simp only [zM]; omega), zw]
  have g2 : H.get (L.next + 1) = some (wD x) := by subst hH; rw [zu (by simp only [zM]; omega)]; exact zn rfl
  have g3 : H.get (L.next + 1 + 1) = some (.cells [.bool false] 4) := by subst hH; exact zn rfl
  clear hH
  have W : Bx H L.next (L.next + 1) f x := ⟨by omega, by omega, g1, g2⟩
  exact r49 W (I.old e) (hc.old e) (by omega) (by omega) g3 (by omega) ⟨c1', c2'⟩ (by simp [YH, c1', c2'])
end Go.Rtl
namespace Go.Rtl
open Go.Ai Go.Proofs
set_option linter.unusedVariables false
set_option linter.unusedSimpArgs false
set_option maxRecDepth 10000
def FnQ (fv : Value) (h : za) (x : Ins) (b : Bool) : Prop := ∀ K : Value -> za -> Prop, K (.bool b) h -> zI Tryd.prog fv [x.val] h K
theorem zkC {g : FuncId} {c : Value} {args : List Value} {h : za} {K R : Value -> za -> Prop} (hc : yT Tryd.prog g = true) (hn : yH args = true) (hn2 : yH (args ++ [c]) = true) (hT : DC Tryd.prog g (args ++ [c]) h R) (hk : ∀ v h1, R v h1 -> K v h1) : zI Tryd.prog (.func (.func g) #[] #[c]) args h K :=
  ⟨hn, by simpa using hn2, .inl ⟨hc, by simpa using hT.mono hk⟩⟩
section
variable {h : za} {cv fv : Value} {code : List Ins} {bad : Ins -> Bool}
theorem zlj (S : SliceR h cv 9 (code.map Ins.row)) (few : code.length <= 17592186043904) (hn : ∀ x, x ∈ code -> zV x.av = false) (hfv : zV fv = false) (hq : ∀ x, x ∈ code -> FnQ fv h x (bad x)) : DC Tryd.prog 61 [cv, fv] h (fun v h1 => (∃ n : Int, v = .int .i64 n /\ decide (0 <= n) = code.any bad) /\ h1 = h) := by
  apply UR
  unfold UB
  have cn := S.nob
  have cl := S.zga 3 h
  rw [List.length_map] at cl
  simp -implicitDefEqProofs only [EE, ↓BK, cn, cl]
  refine zm5 (fun g => g = h) code.length (atB code fun x => !bad x) rfl ?_
  intro i h2 J hi hh hg hJ
  subst hh
  rcases Nat.lt_or_ge i code.length with hlt | hge
  . obtain ⟨x, hx, hm⟩ := get_some hlt
    obtain ⟨b, o, c, t, ha, hbb, hgt, hle, htk, _⟩ := S.znC (i := i) (r := x.row) (by rw [List.getElem?_map, hx]; rfl) rfl
    have hlt' : (i : Int) < (code.length : Int) := by omega
    have hinc : IntKind.wrap .i64 ((i : Int) + 1) = ((i + 1 : Nat) : Int) := inc (by omega)
    simp -implicitDefEqProofs only [EE, nth, ↓BK, if_true, ldn, Xs, YJ, Y3, ji, hlt', ha, hgt, hle, htk]
    refine hq x hm _ ?_
    cases hb : bad x with
    | true =>
      simp -implicitDefEqProofs only [EE, nth]
      refine ⟨_, rfl, ?_⟩
      rw [List.any_eq_true.2 ⟨x, hm, hb⟩]
      simp
    | false =>
      simp -implicitDefEqProofs only [EE, nth, hinc]
      exact hJ _ hlt (by rw [zax hx, hb]; rfl) rfl
  . have hlt' : ¬ (i : Int) < (code.length : Int) := by omega
    simp -implicitDefEqProofs only [EE, nth, Int.reduceNeg, ji, hlt']
    refine ⟨_, rfl, ?_⟩
    have : code.all (fun x => !bad x) = true := jV fun k hk => hg k (by omega)
    rw [List.all_eq_true] at this
    symm
    rw [List.any_eq_false.2 fun x hx => by have := this x hx; simpa using this]
    rfl
theorem zdZ (S : SliceR h cv 9 (code.map Ins.row)) (few : code.length <= 17592186043904) (hn : ∀ x, x ∈ code -> zV x.av = false) (hfv : zV fv = false) (hq : ∀ x, x ∈ code -> FnQ fv h x (bad x)) : DC Tryd.prog 35 [cv, fv] h (fun v h1 => v = .bool (code.any bad) /\ h1 = h) := by
  apply Wl
  unfold ZW
  have cn := S.nob
  refine zJ (by kernel_rfl) (by simp -implicitDefEqProofs only [EE, cn, hfv]) (zlj S few hn hfv hq) ?_
  rintro _ h1 ⟨⟨n, rfl, hn2⟩, rfl⟩
  simp -implicitDefEqProofs only [EE]
  rw [hn2]
end
theorem zkT (l : List Ins) (B : Ins -> Bool) : (!(l.any fun x => !B x)) = l.all B := by
  induction l with
  | nil => rfl
  | cons a l ih => simp only [List.any_cons, List.all_cons, <- ih, Bool.not_or, Bool.not_not]
theorem ziF (f : Fn) (x : Ins) {h : za} {b1 : Nat} (F : FnOk h f) (I : InsOk h x) (hb : b1 < h.next) (hg : h.get b1 = some (YK f)) : FnQ (.func (.func 36) #[] #[.pointer (some ⟨b1, 0, none⟩)]) h x (!YH f x) := by
  intro K hK
  have an := I.args.nob
  have q : xG Tryd.prog 36 [x.val, .pointer (some ⟨b1, 0, none⟩)] h (.bool (!YH f x)) := by
    apply quiet_b
    replace F := F.lock
    replace I := I.lock
    have hg' : h.lock.get b1 = some (YK f) := by rw [Xa]; exact hg
    have hb' : b1 < h.lock.next := hb
    generalize h.lock = L at F I hg' hb'
    apply zbN
    unfold zdl
    have pn := F.params.nob
    have cn := F.code.nob
    have e : Old L (L.push (wD x)) := Old.push _ _
    have g1 := e.got hb' hg'
    have g2 : (L.push (wD x)).get L.next = some (wD x) := zw
    have hne : ¬ b1 = L.next := by omega
    simp -implicitDefEqProofs only [EE, ↓nw, Value.cells, if_true, Nat.reduceAdd, ldn, Xs, zna, hb', hg']
    refine zi (by kernel_rfl) (by simp -implicitDefEqProofs only [EE]) (zja f x _ ⟨F.params.cok, pn⟩ (I.old e) (F.code.old e)) ?_
    simp -implicitDefEqProofs only [EE]
    rfl
  exact zkC (by kernel_rfl) (by simp -implicitDefEqProofs only [EE]) (by simp only [List.cons_append, List.nil_append, EE]) q.dc (by rintro _ _ ⟨rfl, rfl⟩; exact hK)
end Go.Rtl
namespace Go.Rtl
open Go.Ai Go.Proofs
set_option linter.unusedVariables false
set_option linter.unusedSimpArgs false
set_option maxRecDepth 10000
theorem zmy {step : List Value -> za -> (List Value -> za -> Prop) -> Prop} (Q : Nat -> za -> Prop) {v : Value} (n : Nat) {h : za} (h0 : Q 0 h)
    (hs : ∀ i h J, i <= n -> Q i h -> (∀ h', i < n -> Q (i + 1) h' -> J [v, .int .i64 ((i + 1 : Nat) : Int)] h') -> step [v, .int .i64 (i : Nat)] h J) : LP step [v, .int .i64 0] h := by
  refine kj (fun m vs h => ∃ i, i <= n /\ m = n - i /\ vs = [v, .int .i64 (i : Nat)] /\ Q i h) n ⟨0, Nat.zero_le _, rfl, rfl, h0⟩ ?_
  rintro m vs h ⟨i, hi, rfl, rfl, e⟩
  exact hs i h _ hi e fun h' hlt e' => ⟨n - (i + 1), by omega, i + 1, hlt, rfl, rfl, e'⟩
def UX (m : List Bool) : List Value := m.map fun b => .bool b
theorem zeF (n : Nat) : vN [.bool false] n = UX (List.replicate n false) := by
  unfold vN UX
  rw [List.map_replicate]
  apply List.ext_getElem?
  intro i
  by_cases h : i < n
  . simp [h, Nat.mod_one]
  . rw [List.getElem?_eq_none (by simp; omega), List.getElem?_eq_none (by simp; omega)]
def zhY (l : List Int) (i : Nat) (j : Nat) : Bool := (List.range i).any fun k => decide (l.getD k 0 = (j : Int))
structure zoZ (lo : za) (bm : Nat) (l : List Int) (zD : Int) (i : Nat) (h : za) : Prop where
  old : Old lo h
  met : ∃ m : List Bool, m.length = zD.toNat /\ h.get bm = some (.cells (UX m) 4) /\ ∀ j, j < zD.toNat -> m[j]? = some (zhY l i j)
  pre : ∀ k, k < i -> zev l zD k = true
theorem zfD (l : List Int) (j : Nat) : zhY l 0 j = false := rfl
theorem zgc (l : List Int) (i j : Nat) : zhY l (i + 1) j = (zhY l i j || decide (l.getD i 0 = (j : Int))) := by
  unfold zhY
  rw [List.range_succ, List.any_append]
  simp
theorem zk5 (l : List Int) (i : Nat) {z : Int} (hz : l.getD i 0 = z) (h0 : 0 <= z) : ((List.range i).all fun k => !decide (l.getD k 0 = l.getD i 0)) = !zhY l i z.toNat := by
  unfold zhY
  rw [hz, show ((z.toNat : Nat) : Int) = z by omega]
  induction (List.range i) with
  | nil => rfl
  | cons a t ih => simp only [List.all_cons, List.any_cons, ih, Bool.not_or]
def uW (f : Fn) : Bool := zhP f && (zlr f.params f.zD && f.code.all (YH f))
section
variable {h : za} {b1 : Nat} {f : Fn} {vs : List Value} {B : Bool}
theorem rr7 (F : FnOk h f) (hb : b1 < h.next) (hg : h.get b1 = some (YK f)) (hB : B = f.code.all (YH f)) : UH (.pointer (some ⟨b1, 0, none⟩)) (isB B) vs h := by
  have cn := F.code.nob
  simp -implicitDefEqProofs only [EE, ld1, YA, vm, UH, hg, List.nil_append]
  refine zJ (by kernel_rfl) (by simp -implicitDefEqProofs only [EE, cn]) (zdZ F.code (by have := F.zl8; omega) (fun x hx => (F.ins x hx).args.nob) rfl (bad := fun x => !YH f x) fun x hx => ziF f x F (F.ins x hx) hb hg) ?_
  rintro _ h1 ⟨rfl, rfl⟩
  simp -implicitDefEqProofs only [EE]
  rw [zkT, hB]; rfl
theorem rr8 (F : FnOk h f) (hro : h.ro <= h.next) (hb : b1 < h.next) (hg : h.get b1 = some (YK f)) (h0 : ¬ f.zD < 0) (h5 : ¬ 5000 < f.zD) (hB : B = (zlr f.params f.zD && f.code.all (YH f))) : Uq (.pointer (some ⟨b1, 0, none⟩)) (isB B) vs h := by
  have pn := F.params.nob
  have pl := F.params.Q2 3
  have mk := znF .i64 .i64 f.zD f.zD h (by omega) (Int.le_refl _) (by omega)
  have hne : ¬ b1 = h.next := by omega
  simp -implicitDefEqProofs only [EE, ↓BK, ld1, qa, yc, X1, qc, Uq, hg, mk, pn, pl, hb, Nat.mul_one]
  rw [zeF]
  generalize hH : h.push (.cells (UX (List.replicate f.zD.toNat false)) 4) = H
  have e : Old h H := by subst hH; exact Old.push _ _
  have gm : H.get h.next = some (.cells (UX (List.replicate f.zD.toNat false)) 4) := by subst hH; exact zw
  have nH : H.next = h.next + 1 := by subst hH; rfl
  have rH : H.ro = h.ro := by subst hH; rfl
  clear hH
  refine zmy (fun i g => zoZ h h.next f.params f.zD i g /\ g.next = h.next + 1) f.params.length ⟨⟨e, ⟨_, by simp, gm, fun j hj => by rw [zfD]; simp [hj]⟩, fun k hk => absurd hk (Nat.not_lt_zero _)⟩, nH⟩ ?_
  rintro i g J hi ⟨M, ng⟩ hJ
  obtain ⟨m, hm, gm', hmet⟩ := M.met
  have F2 := F.old M.old
  have g1 := M.old.got hb hg
  have rg : g.ro <= h.next := by rw [M.old.ro]; exact hro
  rcases Nat.lt_or_ge i f.params.length with hlt | hge
  . obtain ⟨z, hz, _⟩ := get_some hlt
    obtain ⟨b, o, c, t, ha, hbb, hgt, hco⟩ := F2.params.at hz
    have hlt' : (i : Int) < (f.params.length : Int) := by omega
    have hinc : IntKind.wrap .i64 ((i : Int) + 1) = ((i + 1 : Nat) : Int) := inc (by have := F.znv; omega)
    have hgd := zfR hz
    simp -implicitDefEqProofs only [EE, nth, ↓BK, ld1, yc, qc, Jj, Uu, hlt', ha, hgt, hco, g1]
    refine zi (by kernel_rfl) rfl (qH z f.zD g) ?_
    by_cases z0 : z < 0 \/ f.zD <= z
    . rw [uk z0]
      simp -implicitDefEqProofs only [EE, Xf, YR, Xm]
      have : zlr f.params f.zD = false := K8 hlt (by unfold zev; rw [hgd, uk z0]; rfl)
      rw [hB, this]; rfl
    . have z1 : ¬ z < 0 := fun q => z0 (.inl q)
      have z2 : ¬ f.zD <= z := fun q => z0 (.inr q)
      rw [xZ z1 z2]
      have hzl : z.toNat < m.length := by omega
      have hix : 0 <= z /\ z < ((f.zD.toNat : Nat) : Int) := by omega
      have hmz := hmet z.toNat (by omega)
      have hcell : (UX m)[z.toNat]? = some (.bool (zhY f.params i z.toNat)) := by unfold UX; rw [List.getElem?_map, hmz]; rfl
      have hpar : zev f.params f.zD i = !zhY f.params i z.toNat := by
        unfold zev
        rw [hgd, xZ z1 z2, Bool.true_and]
        have := zk5 f.params i hgd (by omega)
        rw [hgd] at this
        exact this
      cases hmb : zhY f.params i z.toNat with
      | true =>
        rw [hmb] at hcell hpar
        simp -implicitDefEqProofs only [EE, if_true, ld1, UJ, zma, Xf, YR, Xm, hix, gm', Nat.mul_one, hcell]
        have : zlr f.params f.zD = false := K8 hlt hpar
        rw [hB, this]; rfl
      | false =>
        rw [hmb] at hcell hpar
        have hlen : z.toNat + 1 <= (UX m).length := by unfold UX; rw [List.length_map]; omega
        simp -implicitDefEqProofs only [EE, nth, ze, if_true, sto, ld1, UJ, XD, zma, Xf, YR, Xm, zae, hix, gm', Nat.mul_one, hcell, hlen, rg, hinc]
        refine hJ _ hlt ⟨⟨?_, ⟨m.set z.toNat true, by rw [List.length_set]; exact hm, ?_, fun j hj => ?_⟩, fun k hk => ?_⟩, ng⟩
        . exact ⟨M.old.next, M.old.ro, fun b hb => by rw [zt (by omega)]; exact M.old.get b hb⟩
        . rw [zz]; unfold UX; rw [List.map_set]
        . rw [zgc, hgd]
          by_cases hjz : j = z.toNat
          . subst hjz
            rw [List.getElem?_set_self (by omega), show ((z.toNat : Nat) : Int) = z by omega]
            simp
          . rw [List.getElem?_set_ne (fun q => hjz q.symm), hmet j hj, show decide (z = (j : Int)) = false from decide_eq_false (by omega), Bool.or_false]
        . rcases Nat.lt_or_ge k i with q | q
          . exact M.pre k q
          . have : k = i := by omega
            subst this; exact hpar
  . have hlt' : ¬ (i : Int) < (f.params.length : Int) := by omega
    simp -implicitDefEqProofs only [EE, nth, Uu, hlt']
    have hp : zlr f.params f.zD = true := zgo fun k hk => M.pre k (by omega)
    exact rr7 F2 (Nat.lt_of_lt_of_le hb M.old.next) g1 (by rw [hB, hp, Bool.true_and])
end
theorem zkF (f : Fn) (h : za) (F : FnOk h f) : xG Tryd.prog 20 [f.val] h (.bool (uW f)) := by
  apply quiet_b
  replace F := F.lock
  generalize h.lock = L at F
  apply Yv; intro hwf; have hro := hwf.2
  apply zep
  unfold zhq
  have pn := F.params.nob
  have cn := F.code.nob
  have F1 := F.old (Old.push L (.cells f.row 51))
  have cl := F1.code.zga 3 (L.push (.cells f.row 51))
  rw [List.length_map] at cl
  unfold uW zhP
  by_cases c3 : (5000 : Int) < f.code.length
  . simp -implicitDefEqProofs only [EE, ↓nw, Value.cells, ld1, YA, vm, uq, vu, vw, vx, kb, kp, kr, kt, km, kh, cn, cl, c3]
    first | rfl | simp [isB, c3]
  by_cases c1 : f.zD < 0
  . simp -implicitDefEqProofs only [EE, ↓nw, Value.cells, ld1, yc, YA, qc, vm, uq, vu, vw, vx, kb, kp, kr, kt, km, kh, cn, cl, c3, c1]
    rfl
  by_cases c2 : 5000 < f.zD
  . simp -implicitDefEqProofs only [EE, ↓nw, Value.cells, ld1, yc, YA, qc, vm, uq, vu, vw, vx, kb, kp, kr, kt, km, kh, cn, cl, c3, c1, c2]
    rfl
  simp -implicitDefEqProofs only [EE, ↓nw, Value.cells, ld1, yc, YA, qc, zby, vm, kb, kp, kr, kt, km, kh, cn, cl, c3, c1, c2]
  refine zi (by kernel_rfl) rfl (qH f.entry f.code.length _) ?_
  by_cases c45 : f.entry < 0 \/ (f.code.length : Int) <= f.entry
  . rw [uk c45]
    simp -implicitDefEqProofs only [EE, uq, vu, vw, vx]
    rcases c45 with c4 | c5
    . simp [isB, c4]
    . simp [isB, c5]
  have c4 : ¬ f.entry < 0 := fun q => c45 (.inl q)
  have c5 : ¬ (f.code.length : Int) <= f.entry := fun q => c45 (.inr q)
  rw [xZ c4 c5]
  by_cases c6 : f.frame < 0
  . simp -implicitDefEqProofs only [EE, ld1, yc, qS, uq, vu, vw, vx, c6]
    simp [isB]
  by_cases c7 : 65536 < f.frame
  . simp -implicitDefEqProofs only [EE, ld1, yc, qS, uq, vu, vw, vx, c6, c7]
    simp [isB]
  simp -implicitDefEqProofs only [EE, ld1, yc, qS, uq, vu, vw, vx, c6, c7]
  refine rr8 F1 (Nat.le_succ_of_le hro) (Nat.lt_succ_self _) zw c1 c2 ?_
  simp only [c1, c2, c3, c4, c5, decide_false, Bool.not_false, Bool.true_and]
end Go.Rtl
namespace Go.Rtl
open Go.Ai Go.Proofs
set_option linter.unusedVariables false
set_option linter.unusedSimpArgs false
set_option maxRecDepth 10000
def rGoodB (p : Pg) : Bool := zfP p && (p.globals.all Ki && p.funcs.all fun f => uW f && f.code.all (zaZ p))
section
variable {h : za} {b1 : Nat} {p : Pg} {f : Fn} {x : Ins} {vs : List Value} {B : Bool}
theorem zo1 (P : PgOk h p) (F : FnOk h f) (hro : h.ro <= h.next) (hb : b1 < h.next) (hg : h.get b1 = some (zfw p)) {i : Nat} (hx : f.code[i]? = some x) {v0 : Value} {J : List Value -> za -> Prop}
    (hB : zaZ p x = false -> B = false) (hJ : ∀ h', zaZ p x = true -> Old h h' -> J [v0] h') : Wn f.cv [v0, .int .i64 (i : Nat)] h (.pointer (some ⟨b1, 0, none⟩)) (isB B) J := by
  have hm := mem_of hx
  have I := F.ins x hm
  have an := I.args.nob
  have ac := I.args.cok
  obtain ⟨b, o, c, t, ha, hbb, hgt, hle, htk, _⟩ := F.code.znC (i := i) (r := x.row) (by rw [List.getElem?_map, hx]; rfl) rfl
  have bad : zaZ p x = false -> ∀ h', isB B (.bool false) h' := fun q _ => by rw [hB q]; rfl
  simp -implicitDefEqProofs only [EE, nth, ↓nw, Value.cells, ↓BK, ze, if_true, Nat.reduceAdd, sto, ldn, Xs, zi6, zgA, Wn, ha, hgt, hle, htk, ac, zgA, hro]
  generalize hH : (za.push h _).set h.next _ = H
  have e : Old h H := by subst hH; exact (Old.push h _).set (Nat.le_refl _) _
  have g7 : H.get h.next = some (wD x) := by subst hH; exact zz
  have g1 := e.got hb hg
  clear hH
  have PH := P.old e
  have fn := PH.funcs.nob
  have fl := PH.funcs.zi4 3
  rw [List.length_map] at fl
  have gn := PH.globals.nob
  have gl := PH.globals.Q2 3
  have al := (I.args.old e).Q2 3
  have fin : zaZ p x = true -> J [v0] H := fun q => hJ H q e
  have bad' : zaZ p x = false -> isB B (.bool false) H := fun q => bad q H
  unfold zaZ zfv znL at fin bad'
  by_cases c10 : x.op = 10
  . have c8 : ¬ x.op = 8 := by omega
    simp -implicitDefEqProofs only [EE, ld1, qN, yc, xV, yi, yN, Zx, ZC, ZF, g1, g7, fn, fl, c10]
    simp -implicitDefEqProofs only [EE, Zn]
    refine vi (by kernel_rfl) rfl (qH x.sub p.funcs.length H).dc ?_
    rintro _ _ ⟨rfl, rfl⟩
    by_cases s01 : x.sub < 0 \/ (p.funcs.length : Int) <= x.sub
    . rw [uk s01]
      simp -implicitDefEqProofs only [EE, uO, uR, uN, uS, uV, uP, uK, uM]
      exact bad' (by rw [uk s01]; simp [c10])
    have s0 : ¬ x.sub < 0 := fun q => s01 (.inl q)
    have s1 : ¬ (p.funcs.length : Int) <= x.sub := fun q => s01 (.inr q)
    rw [xZ s0 s1]
    obtain ⟨g, hgf, hgm⟩ := get_some (l := p.funcs) (k := x.sub.toNat) (by omega)
    obtain ⟨b', o', c', t', ha', hbb', hgt', hle', htk', hk'⟩ := PH.funcs.zh1 (i := x.sub.toNat) (r := g.row) (by rw [List.getElem?_map, hgf]; rfl) rfl
    rw [zjA s0] at ha'
    have hk1 : c'[o' + 1]? = some g.pv := hk' 1 (by omega)
    have pn := (PH.fns g hgm).params.nob
    have pl := (PH.fns g hgm).params.Q2 3
    have hpa : zbm p x.sub = g.params.length := by simp only [zbm, hgf]
    by_cases s2 : (g.params.length : Int) = x.args.length
    . simp -implicitDefEqProofs only [EE, nth, Int.reduceEq, ld1, qa, qN, yc, xV, yi, yN, Vu, X1, qk, qb, ql, qe, v5, v7, vU, vQ, vW, v8, ZI, ZA, ZB, uO, uR, uN, uS, uV, uP, uK, uM, g1, g7, an, al, ha', hgt', hk1, pn, pl, c10, s2]
      exact fin (by rw [xZ s0 s1, hpa]; simp [c10, s2])
    . simp -implicitDefEqProofs only [EE, ld1, qa, qN, yc, xV, yN, Vu, X1, uO, uR, uN, uS, uV, uP, uK, uM, g1, g7, an, al, ha', hgt', hk1, pn, pl, c10, s2]
      exact bad' (by rw [xZ s0 s1, hpa]; simp [c10, s2])
  by_cases c8 : x.op = 8
  . simp -implicitDefEqProofs only [EE, Int.reduceEq, ld1, qa, yc, vH, yi, yN, ZI, ZA, ZB, uO, uR, uN, uS, uV, uP, uK, uM, Zn, Zx, ZC, ZF, g1, g7, gn, gl, c8]
    refine vi (by kernel_rfl) rfl (qH x.sub p.globals.length H).dc ?_
    rintro _ _ ⟨rfl, rfl⟩
    by_cases s01 : x.sub < 0 \/ (p.globals.length : Int) <= x.sub
    . rw [uk s01]
      simp -implicitDefEqProofs only [EE, qk, qb, ql, qe, v5, v7, vU, vQ, vW, v8]
      exact bad' (by rw [uk (m := p.globals.length) s01]; simp [c8])
    have s0 : ¬ x.sub < 0 := fun q => s01 (.inl q)
    have s1 : ¬ (p.globals.length : Int) <= x.sub := fun q => s01 (.inr q)
    rw [xZ s0 s1]
    by_cases s2 : x.k < 0
    . simp -implicitDefEqProofs only [EE, ld1, vK, uy, qk, qb, ql, qe, v5, v7, vU, vQ, vW, v8, g7, c8, s2]
      exact bad' (by rw [xZ s0 s1]; simp [c8, s2])
    obtain ⟨z, hz, _⟩ := get_some (l := p.globals) (k := x.sub.toNat) (by omega)
    obtain ⟨b', o', c', t', ha', hbb', hgt', hco'⟩ := PH.globals.at hz
    rw [zjA s0] at ha'
    have hgd := zfR hz
    by_cases s3 : z < x.k
    . simp -implicitDefEqProofs only [EE, ld1, vK, qa, yc, vH, yN, uy, qk, qb, ql, qe, v5, v7, vU, vQ, vW, v8, g1, g7, ha', hgt', hco', c8, s2, s3]
      exact bad' (by rw [xZ s0 s1, hgd]; simp [c8, s3])
    . simp -implicitDefEqProofs only [EE, nth, ld1, vK, qa, yc, vH, yN, uy, qk, qb, ql, qe, v5, v7, vU, vQ, vW, v8, g1, g7, ha', hgt', hco', c8, s2, s3]
      exact fin (by rw [xZ s0 s1, hgd]; simp [c8, s2, s3])
  simp -implicitDefEqProofs only [EE, nth, ld1, yc, yi, qk, qb, ql, qe, v5, v7, vU, vQ, vW, v8, ZI, ZA, ZB, uO, uR, uN, uS, uV, uP, uK, uM, Zn, Zx, ZC, ZF, g7, c10, c8]
  exact fin (by simp [c10, c8])
theorem zoT (P : PgOk h p) (hro : h.ro <= h.next) (hb : b1 < h.next) (hg : h.get b1 = some (zfw p)) (hB : B = p.funcs.all fun f => uW f && f.code.all (zaZ p)) :
    X8 (.pointer (some ⟨b1, 0, none⟩)) (isB B) vs h := by
  have fn := P.funcs.nob
  have fl := P.funcs.zi4 3
  rw [List.length_map] at fl
  simp -implicitDefEqProofs only [EE, ↓BK, ld1, qN, xV, X8, hg, fn, fl]
  refine zhF (lo := h) p.funcs.length (atB p.funcs fun f => uW f && f.code.all (zaZ p)) (.refl h) ?_
  intro i h2 J hi e2 hq hJ
  have g2 := e2.got hb hg
  have P2 := P.old e2
  have hro2 : h2.ro <= h2.next := by rw [e2.ro]; exact Nat.le_trans hro e2.next
  rcases Nat.lt_or_ge i p.funcs.length with hlt | hge
  . obtain ⟨f, hf, hm⟩ := get_some hlt
    obtain ⟨b, o, c, t, ha, hbb, hgt, hle, htk, _⟩ := P2.funcs.zh1 (i := i) (r := f.row) (by rw [List.getElem?_map, hf]; rfl) rfl
    have hlt' : (i : Int) < (p.funcs.length : Int) := by omega
    have hinc : IntKind.wrap .i64 ((i : Int) + 1) = ((i + 1 : Nat) : Int) := inc (by have := P.znr; omega)
    have F2 := P2.fns f hm
    have pn := F2.params.nob
    have pc := F2.params.cok
    have cn := F2.code.nob
    have cc := F2.code.cok
    simp -implicitDefEqProofs only [EE, nth, ↓nw, Value.cells, ↓BK, ze, if_true, Nat.reduceAdd, sto, ldn, zna, zoc, znq, Qj, XV, hlt', ha, hgt, hle, htk, pc, cc, znq, hro2]
    generalize hH : (za.push h2 _).set h2.next _ = H
    have e3 : Old h2 H := by subst hH; exact (Old.push h2 _).set (Nat.le_refl _) _
    have g5 : H.get h2.next = some (YK f) := by subst hH; exact zz
    have n5 : h2.next < H.next := by subst hH; exact Nat.lt_succ_self _
    have roH : H.ro <= H.next := by rw [e3.ro]; exact Nat.le_trans hro2 e3.next
    clear hH
    have FH := F2.old e3
    simp -implicitDefEqProofs only []
    refine zi (by kernel_rfl) (by simp -implicitDefEqProofs only [EE]) (zkF f H FH) ?_
    cases hR : uW f with
    | false =>
      simp -implicitDefEqProofs only [EE]
      rw [hB, X2 (B := fun f => uW f && f.code.all (zaZ p)) hf (by rw [hR]; rfl)]; rfl
    | true =>
      have cl := FH.code.zga 3
      rw [List.length_map] at cl
      simp -implicitDefEqProofs only [EE, nth, ↓BK, ld1, YA, vm, U9, g5, cn, cl]
      refine zhF (lo := H) f.code.length (atB f.code (zaZ p)) (.refl H) ?_
      intro k h3 J3 hk e4 hq3 hJ3
      have F3 := FH.old e4
      have P3 := P2.old (e3.trans e4)
      have g3 := (e2.trans (e3.trans e4)).got hb hg
      have hro3 : h3.ro <= h3.next := by rw [e4.ro]; exact Nat.le_trans roH e4.next
      rcases Nat.lt_or_ge k f.code.length with hlk | hgk
      . obtain ⟨x, hx, hmx⟩ := get_some hlk
        have hlk' : (k : Int) < (f.code.length : Int) := by omega
        have hinc3 : IntKind.wrap .i64 ((k : Int) + 1) = ((k + 1 : Nat) : Int) := inc (by have := F2.zl8; omega)
        simp -implicitDefEqProofs only [EE, nth, ↓BK, XC, hlk']
        refine zo1 P3 F3 hro3 (Nat.lt_of_lt_of_le hb (e2.trans (e3.trans e4)).next) g3 hx (fun q => ?_) fun h' q e5 => ?_
        . rw [hB, X2 (B := fun f => uW f && f.code.all (zaZ p)) hf (by rw [X2 hx q, Bool.and_false])]
        . simp -implicitDefEqProofs only [EE, nth, QE, hinc3]
          exact hJ3 _ hlk (by rw [zax hx]; exact q) (e4.trans e5)
      . have hlk' : ¬ (k : Int) < (f.code.length : Int) := by omega
        simp -implicitDefEqProofs only [EE, nth, XC, Qs, hlk', hinc]
        refine hJ _ hlt ?_ (e2.trans (e3.trans e4))
        rw [zax hf, hR, Bool.true_and]
        exact jV fun k' hk' => hq3 k' (by omega)
  . have hlt' : ¬ (i : Int) < (p.funcs.length : Int) := by omega
    simp -implicitDefEqProofs only [EE, nth, XV, hlt']
    have : (p.funcs.all fun f => uW f && f.code.all (zaZ p)) = true := jV fun k hk => hq k (by omega)
    rw [hB, this]; rfl
theorem zo2 (P : PgOk h p) (hro : h.ro <= h.next) (hb : b1 < h.next) (hg : h.get b1 = some (zfw p)) (hB : B = (p.globals.all Ki && p.funcs.all fun f => uW f && f.code.all (zaZ p))) :
    X0 (.pointer (some ⟨b1, 0, none⟩)) (isB B) vs h := by
  have gn := P.globals.nob
  have gl := P.globals.Q2 3
  simp -implicitDefEqProofs only [EE, ↓BK, ld1, qa, vH, X0, hg, gn, gl]
  refine zhF (lo := h) p.globals.length (atB p.globals Ki) (.refl h) ?_
  intro i h2 J hi e2 hq hJ
  have g2 := e2.got hb hg
  have P2 := P.old e2
  rcases Nat.lt_or_ge i p.globals.length with hlt | hge
  . obtain ⟨z, hz, _⟩ := get_some hlt
    obtain ⟨b, o, c, t, ha, hbb, hgt, hco⟩ := P2.globals.at hz
    have hlt' : (i : Int) < (p.globals.length : Int) := by omega
    have hinc : IntKind.wrap .i64 ((i : Int) + 1) = ((i + 1 : Nat) : Int) := inc (by have := P.znz; omega)
    by_cases z0 : z < 0
    . simp -implicitDefEqProofs only [EE, nth, ↓BK, ld1, yc, YS, Xk, YN, jK, hlt', ha, hgt, hco, z0]
      rw [hB, X2 (B := Ki) hz (by simp [Ki, z0])]; rfl
    by_cases z1 : 65536 < z
    . simp -implicitDefEqProofs only [EE, nth, ↓BK, ld1, yc, YS, Xk, YN, jK, hlt', ha, hgt, hco, z0, z1]
      rw [hB, X2 (B := Ki) hz (by simp [Ki, z1])]; rfl
    simp -implicitDefEqProofs only [EE, nth, ↓BK, ld1, yc, YS, Xk, YN, zaa, jK, hlt', ha, hgt, hco, z0, z1, hinc]
    exact hJ _ hlt (by rw [zax hz]; simp only [Ki, z0, z1, decide_false, Bool.not_false, Bool.and_self]) e2
  . have hlt' : ¬ (i : Int) < (p.globals.length : Int) := by omega
    simp -implicitDefEqProofs only [EE, nth, jK, hlt']
    have hp : p.globals.all Ki = true := jV fun k hk => hq k (by omega)
    exact zoT P2 (by rw [e2.ro]; exact Nat.le_trans hro e2.next) (Nat.lt_of_lt_of_le hb e2.next) g2 (by rw [hB, hp, Bool.true_and])
end
theorem rGood_q (p : Pg) (h : za) (P : PgOk h p) : xG Tryd.prog 13 [p.val] h (.bool (rGoodB p)) := by
  apply quiet_b
  replace P := P.lock
  generalize h.lock = L at P
  apply Yv; intro hwf; have hro := hwf.2
  apply ze0
  unfold zgi
  have gn := P.globals.nob
  have fn := P.funcs.nob
  have P1 := P.old (Old.push L (.cells p.row 25))
  have gl := P1.globals.Q2 3
  have fl := P1.funcs.zi4 3
  rw [List.length_map] at fl
  simp -implicitDefEqProofs only [EE, ↓nw, Value.cells, ld1, qN, yc, xV, V1, fn, fl]
  refine zi (by kernel_rfl) rfl (qH p.main p.funcs.length _) ?_
  unfold rGoodB zfP
  by_cases c34 : p.main < 0 \/ (p.funcs.length : Int) <= p.main
  . rw [uk c34]
    simp -implicitDefEqProofs only [EE, ki, qZ, kB, kf]
    rcases c34 with c | c
    . simp [isB, c]
    . simp [isB, c]
  have c3 : ¬ p.main < 0 := fun q => c34 (.inl q)
  have c4 : ¬ (p.funcs.length : Int) <= p.main := fun q => c34 (.inr q)
  rw [xZ c3 c4]
  by_cases c2 : (100 : Int) < p.funcs.length
  . simp -implicitDefEqProofs only [EE, ld1, qN, xV, ki, qZ, kB, kf, fn, fl, c2]
    simp [isB]
  by_cases c1 : (200 : Int) < p.globals.length
  . simp -implicitDefEqProofs only [EE, ld1, qa, qN, vH, xV, ki, qZ, kB, kf, gn, fn, gl, fl, c1, c2]
    simp [isB]
  simp -implicitDefEqProofs only [EE, ld1, qa, qN, vH, xV, ki, qZ, kB, kf, gn, fn, gl, fl, c1, c2]
  refine zo2 P1 (Nat.le_succ_of_le hro) (Nat.lt_succ_self _) zw ?_
  simp only [c3, c4, decide_false, Bool.not_false, Bool.true_and]
end Go.Rtl
namespace Go.Rtl
open Go.Ai Go.Proofs
set_option linter.unusedVariables false
set_option linter.unusedSimpArgs false
end Go.Rtl
namespace Go.Rm
open Go.Ai Go.Proofs Go.Mem
open Go.Rtl (Ins Pg writesI)
set_option linter.unusedVariables false
set_option linter.unusedSimpArgs false
def isInt (a : V) : Bool := decide (a.k = 1) && Uv a
def x7 (a : V) : Bool := decide (a.k = 2) && Uv a
def ofV (n : Int) : V := ⟨1, n, 0⟩
def jn (b : Bool) : V := if b = true then ofV 1 else ofV 0
abbrev w64 (n : Int) : Int := IntKind.wrap .i64 n
def zeo (f : BitVec 64 -> BitVec 64 -> BitVec 64) (a b : Int) : Int := w64 (f (BitVec.ofInt 64 a) (BitVec.ofInt 64 b)).toNat
def uB (op a b : Int) : Option V :=
  if op = 11 then some (ofV (w64 (a + b))) else if op = 12 then some (ofV (w64 (a - b))) else if op = 13 then some (ofV (w64 (a * b)))
  else if op = 14 \/ op = 15 then (if b = 0 \/ (a = -9223372036854775808 /\ b = -1) then none else if op = 14 then some (ofV (w64 (a.tdiv b))) else some (ofV (a.tmod b)))
  else if op = 16 then some (ofV (zeo (· &&& ·) a b)) else if op = 17 then some (ofV (zeo (· ||| ·) a b)) else if op = 18 then some (ofV (zeo (· ^^^ ·) a b))
  else if op = 19 \/ op = 20 then (if b < 0 \/ 63 < b then none else if op = 19 then some (ofV (w64 (a * 2 ^ b.toNat))) else some (ofV (a.fdiv (2 ^ b.toNat))))
  else if op = 21 then some (jn (decide (a = b))) else if op = 22 then some (jn (!decide (a = b))) else if op = 23 then some (jn (decide (a < b)))
  else if op = 24 then some (jn (decide (a <= b))) else if op = 25 then some (jn (decide (b < a))) else if op = 26 then some (jn (decide (b <= a))) else none
def wy (op : Int) (a b : V) : Option V :=
  if (x7 a && x7 b) || ((x7 a && decide (b = ofV 0)) || (decide (a = ofV 0) && x7 b)) then some (jn (decide (a = b) == decide (op = 21))) else none
def xY (op : Int) (a b : V) : Option V :=
  if isInt a && isInt b then uB op a.n b.n
  else if decide (op = 11) && (x7 a && isInt b) then some (atV a.b (w64 (a.n + b.n)))
  else if decide (op = 11) && (isInt a && x7 b) then some (atV b.b (w64 (a.n + b.n)))
  else if decide (op = 12) && (x7 a && isInt b) then some (atV a.b (w64 (a.n - b.n)))
  else if op = 21 \/ op = 22 then wy op a b else none
def notM (a : Int) : Int := w64 (BitVec.ofInt 64 (-1) ^^^ BitVec.ofInt 64 a).toNat
def unM (op : Int) (a : V) : Option V :=
  if isInt a = true then (if op = 1 then some (ofV (w64 (0 - a.n))) else if op = 2 then some (ofV (notM a.n)) else if op = 3 then some (ofV (w64 (IntKind.wrap .i8 a.n))) else if op = 4 then some (ofV (w64 (IntKind.wrap .i32 a.n))) else none) else none
structure Fr where
  f : Nat
  zD : List V
  blk : Int
  pt : Int
structure St where
  mem : MM
  used : Int
  kind : Int
  exit : Int
  ev : List (Int × Int)
  lk : List (Int × Int × Int)
  steps : Int
  gl : List Int
  calls : List Fr
def yY (l : List V) (r : Int) : V := if r < 0 then v0 else l.getD r.toNat v0
def qY (l : List V) (r : Int) (v : V) : List V := if r < 0 then l else (l ++ List.replicate (r.toNat + 1 - l.length) v0).set r.toNat v
def xl (S : St) (k a b : Int) : St := { S with lk := S.lk ++ [(k, a, b)] }
def ui (S : St) (k v : Int) : St := { S with ev := S.ev ++ [(k, v)] }
def zms (S : St) (c : Fr) : St := { S with calls := S.calls.dropLast ++ [c] }
def yb (c : Fr) (i : Ins) : V := if i.b = -1 then ofV i.k else yY c.zD i.b
def ym (c : Fr) (i : Ins) : Option V := match xY 11 (yY c.zD i.a) (ofV i.k) with
  | some p => if p.k = 2 then some p else none
  | none => none
def vP (S : St) (c : Fr) (i : Ins) (v : V) : St := zms S { c with zD := qY c.zD (writesI i) v, pt := i.s }
def XJ (p : Pg) (c : Fr) : Option Ins := (p.funcs[c.f]?).bind fun f => if c.pt < 0 then none else f.code[c.pt.toNat]?
def w7 : List Int -> List V -> List V -> List V
  | r :: rs, a :: l2, l => w7 rs l2 (qY l r a)
  | _, _, l => l
def xt (p : Pg) (S : St) (n : Int) (args : List V) : St × Bool :=
  if 20000 <= S.calls.length then (S, false) else match p.funcs[n.toNat]? with
  | none => (S, false)
  | some f => (if (yK S.mem f.frame).2.2 = 0 then ({ S with mem := (yK S.mem f.frame).1, calls := S.calls ++ [⟨n.toNat, w7 f.params args [], (yK S.mem f.frame).2.1, f.entry⟩] }, true) else ({ S with mem := (yK S.mem f.frame).1 }, false))
def Zb (kept : Option (Int -> Bool)) (l : List V) : List V := match kept with
  | none => l
  | some K => (List.range l.length).map fun (k : Nat) => if K (k : Int) = true then l.getD k v0 else v0
def ve (p : Pg) (kept : Option (Int -> Bool)) (S : St) (v : V) : St × Bool := match S.calls.getLast? with
  | none => (S, false)
  | some c => (match S.calls.dropLast.getLast? with
    | none => (if v.k = 1 then ({ S with mem := (qz S.mem c.blk).getD S.mem, calls := [], kind := 1, exit := v.n }, true) else ({ S with mem := (qz S.mem c.blk).getD S.mem, calls := [] }, false))
    | some b => (match XJ p b with
      | none => (S, false)
      | some i => ({ S with mem := (qz S.mem c.blk).getD S.mem, calls := S.calls.dropLast.dropLast ++ [{ b with zD := qY (Zb kept b.zD) i.d v, pt := i.s }] }, true)))
def zbc (S : St) (c : Fr) (i : Ins) : St × Bool := match xY i.sub (yY c.zD i.a) (yb c i) with
  | none => (S, false)
  | some v => (zms (xl S 1 v.n 0) { c with pt := if v.n = 0 then i.t else i.s }, true)
def Xb (world : List Int) (used : Int) : Int := if used < 0 then 0 else world.getD used.toNat 0
def wH (p : Pg) (world : List Int) (kept : Option (Int -> Bool)) (S : St) (c : Fr) (i : Ins) : St × Bool :=
  if i.op = 2 then (vP S c i (ofV i.k), true)
  else if i.op = 3 then (vP S c i (yY c.zD i.a), true)
  else if i.op = 4 then (match unM i.sub (yY c.zD i.a) with
    | none => (S, false)
    | some v => (vP S c i v, true))
  else if i.op = 5 then
    (let S1 := if (i.sub = 14 \/ i.sub = 15) /\ (yY c.zD i.a).k = 1 /\ (yb c i).k = 1 then xl S 3 (yY c.zD i.a).n (yb c i).n else S
    match xY i.sub (yY c.zD i.a) (yb c i) with
    | none => (S1, false)
    | some v => (vP S1 c i v, true))
  else if i.op = 6 then (match ym c i with
    | none => (S, false)
    | some q => (match jr S.mem i.sub q with
      | none => (xl S 2 q.b q.n, false)
      | some v => (vP (xl S 2 q.b q.n) c i v, true)))
  else if i.op = 7 then (match ym c i with
    | none => (S, false)
    | some q => (match uC S.mem i.sub q (yY c.zD i.b) with
      | none => (xl S 2 q.b q.n, false)
      | some M => (vP { xl S 2 q.b q.n with mem := M } c i v0, true)))
  else if i.op = 8 then (vP S c i (atV (S.gl.getD i.sub.toNat 0) i.k), true)
  else if i.op = 9 then (vP S c i (atV c.blk i.k), true)
  else if i.op = 10 then xt p (xl S 4 i.sub 0) i.sub (i.args.map (yY c.zD))
  else if i.op = 11 then zbc S c i
  else if i.op = 12 then ve p kept S (yY c.zD i.a)
  else if i.op = 13 then (vP { ui S 1 (Xb world S.used) with used := S.used + 1 } c i (ofV (Xb world S.used)), true)
  else if i.op = 14 then (if (yY c.zD i.a).k = 1 then (vP (ui S 2 (yY c.zD i.a).n) c i v0, true) else (S, false))
  else (vP S c i v0, true)
def kW (p : Pg) (world : List Int) (kept : Option (Int -> Bool)) (S : St) : St × Bool := match S.calls.getLast? with
  | none => (S, false)
  | some c => (match XJ p c with
    | none => (S, false)
    | some i => wH p world kept S c i)
def zca (p : Pg) (world : List Int) (kept : Option (Int -> Bool)) : Nat -> St × Bool -> St × Bool
  | 0, (S, ok) => if ok = true /\ S.kind = 0 then ({ S with kind := 2 }, ok) else (S, ok)
  | n + 1, (S, ok) => if ok = true /\ S.kind = 0 then zca p world kept n (kW p world kept { S with steps := S.steps + 1 }) else (S, ok)
def xE : List Int -> MM -> List Int -> MM × List Int
  | [], M, l => (M, l)
  | n :: ns, M, l => xE ns ((XL (yK M n).1 (yK M n).2.1).getD (yK M n).1) (l ++ [(yK M n).2.1])
def wC (p : Pg) (args : List Int) : St × Bool := xt p ⟨(xE p.globals [] []).1, 0, 0, 0, [], [], 0, (xE p.globals [] []).2, []⟩ p.main (args.map ofV)
def zfQ (r : St × Bool) : St := if r.2 = true then r.1 else { r.1 with kind := 3 }
def runM (p : Pg) (args world : List Int) (kept : Option (Int -> Bool)) (fuel : Nat) : St := zfQ (zca p world kept fuel (wC p args))
end Go.Rm
