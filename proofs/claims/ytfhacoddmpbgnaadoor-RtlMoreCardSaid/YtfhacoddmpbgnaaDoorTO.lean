/- A part of the proof. -/
import Derived.Test.YtfhacoddmpbgnaaDoorTN
set_option linter.unusedVariables false
set_option linter.unusedSimpArgs false
namespace Go.Rm
open Go.Ai Go.Proofs Go.Mem
open Go.Rtl (Ins Pg writesI PgOk FnOk InsOk SliceI SliceR Old inc)
set_option linter.unusedVariables false
set_option linter.unusedSimpArgs false
set_option maxRecDepth 10000
section
variable {lo : Low} {h : za} {L : List HP} {n : Nat} {sv : Value} {rows : List (List Value)} {row : List Value} {ty : TypeId}
theorem zg5 (s : Sat lo h (slc ty n sv (rows ++ [row]) :: L)) (hn : ∀ r, r ∈ rows -> r.length = n) : ∃ b c cs, sv = .slice (some ⟨b, 0, none⟩) (rows.length + 1) c /\ c ≠ 0 /\ h.get b = some (.cells cs ty) /\ Sat lo h (slc ty n (.slice (some ⟨b, 0, none⟩) rows.length c) rows :: L) := by
  have hlen : (rows ++ [row]).length = rows.length + 1 := by simp
  rcases w8 s with ⟨_, e, _⟩ | ⟨b, c, cs, rfl, hc, hl, hf, s⟩
  . simp at e
  . rw [hlen, Nat.succ_mul] at hl hf
    refine ⟨b, c, cs, by rw [hlen], hc, s.get, zf3 hc (by omega) ?_ s⟩
    have := congrArg (List.take (rows.length * n)) hf
    rw [List.take_take, Nat.min_eq_left (by omega), List.flatten_append] at this
    rw [this, List.take_left' (by rw [Go.Rtl.flat_len hn])]
end
theorem zgb {c : Nat} (hc : c ≠ 0) : Us c 0 = c := by
  match c with
  | 0 => exact absurd rfl hc
  | 1 => rfl
  | k + 2 => rfl
theorem zdR : Nat.beq (Tryd.prog.cellsOf 111) 1 = true := by kernel_rfl
def KV (kv : Value) (kept : Option (Int -> Bool)) : Prop := match kept with
  | none => kv = .nilFunc
  | some K => ∃ g, kv = .func (.func g) #[] #[] /\ yT Tryd.prog g = true /\ ∀ h n, xG Tryd.prog g [.int .i64 n] h (.bool (K n))
theorem znu {k : Nat} (h : k < 4611686018427387904) : IntKind.wrap .i64 (((k + 1 : Nat) : Int) - 1) = (k : Int) := by
  rw [show (((k + 1 : Nat) : Int) - 1) = k by omega]; exact Go.Mem.w64 (by omega) (by omega)
section
variable {lo : Low} {h : za} {L : List HP} {b mb wb fb : Nat} {p : Pg} {S : St} {ev lk gl cl kv : Value} {fbs : List Nat} {c bk : Fr} {init : List Fr} {kept : Option (Int -> Bool)}
theorem WW {h : za} {bb : Nat} {cs : List Value} {fbs : List Nat} {fb : Nat} (hg : h.get bb = some (.cells cs 111)) (hl : (fbs ++ [fb]).length * 1 <= cs.length) (ht : cs.take ((fbs ++ [fb]).length * 1) = ((fbs ++ [fb]).map xP).flatten) : cs[fbs.length]? = some (xF fb) := by
  have h1 : ((fbs ++ [fb]).map xP).flatten[fbs.length * 1 + 0]? = (xP fb)[0]? := Go.Rtl.flat_at (QV _) (i := fbs.length) (r := xP fb) (by simp) (by decide)
  rw [<- ht, List.getElem?_take_of_lt (by simp)] at h1
  rw [Nat.mul_one, Nat.add_zero] at h1
  exact h1
theorem zeh (s : Sat lo h [pt b (yG p mb wb S ev lk gl cl kv), slc 111 1 cl (([] ++ [fb]).map xP), jt mb S.mem, frA p fb c]) (hc : S.calls = [c]) (hL : S.mem.length <= 100000) (hb : c.blk < 9223372036854775808) (v : V) :
    DC Tryd.prog 57 [xF b, v.val] h (fun r h' => r = .bool (ve p kept S v).2 /\ ∃ cl', Sat lo h' [pt b (yG p mb wb (ve p kept S v).1 ev lk gl cl' kv), slc 111 1 cl' ([].map xP), jt mb (ve p kept S v).1.mem]) := by
  apply QS
  unfold zbQ xF V.val
  have el : ve p kept S v = if v.k = 1 then ({ S with mem := (qz S.mem c.blk).getD S.mem, calls := [], kind := 1, exit := v.n }, true) else ({ S with mem := (qz S.mem c.blk).getD S.mem, calls := [] }, false) := by
    unfold ve; rw [hc]; rfl
  simp -implicitDefEqProofs only [EE, Value.cells, ld1, US, qU]
  refine ZO s fun b1 h1 s1 => ?_
  have gm := (s1.p 1).get
  unfold yG xF at gm
  rcases w8 (s1.p 2) with ⟨_, e, _⟩ | ⟨bb, cc, cs, hcl, hcc, hll, htt, sc⟩
  . simp at e
  have hcl' : cl = .slice (some ⟨bb, 0, none⟩) 1 cc := hcl
  subst hcl'
  have gc := sc.get
  have ac := WW (fbs := []) (fb := fb) gc hll htt
  unfold xF at ac
  obtain ⟨fp, rv, hfp, sf⟩ := xO (s1.p 4)
  have gf := sf.get
  unfold Z4 at gf
  have w1 : IntKind.wrap .i64 (((1 : Nat) : Int) - 1) = 0 := znu (k := 0) (by decide)
  have l1 : (0 : Int) < ((1 : Nat) : Int) := by decide
  rw [List.length_nil] at ac
  simp -implicitDefEqProofs only [EE, if_true, Nat.reduceMul, Int.reduceLE, Int.reduceToNat, ld1, zcA, yc, zb1, KR, Z9, ziv, Xt, gm, gc, ac, gf, w1, l1]
  obtain ⟨lo1, le1, s2, fr⟩ := (s1.f [3]).call (L2 := [jt mb S.mem])
  refine vi (by kernel_rfl) rfl (zjJ s2 hL hb) ?_
  rintro r h2 ⟨rfl, s3⟩
  have s4 := fr _ _ s3
  have gm2 := (s4.p 2).get
  unfold yG xF at gm2
  obtain ⟨b2, c2, cs2, hcl2, hc2, gc2, sc2⟩ := zg5 (rows := []) (row := xP fb) (s4.p 3) (by simp)
  obtain ⟨e1, e2⟩ : bb = b2 /\ cc = c2 := by simpa using hcl2
  subst b2 c2
  have hw2 : wide Tryd.prog h2 bb 1 = true := by rw [zfF gc2]; exact zdR
  have cs0 := zgb hcc
  have l01 : (0 : Int) <= ((1 : Nat) : Int) := by decide
  simp -implicitDefEqProofs only [EE, cond_true, if_true, Nat.reduceMul, Int.reduceLE, Int.reduceToNat, ld1, US, zkl, qU, Xt, zl6, Wj, gm2, w1, hw2, cs0, l01, Nat.sub_zero]
  refine y9 ((sc2.f [3])) (by simp) rfl fun h5 s5 => ?_
  have gm5 := s5.get
  simp -implicitDefEqProofs only [EE, ze, ld1, US, qU, Xt, gm5]
  have gv := (s5.p 3).get
  have z0 : ((0 : Nat) : Int) = 0 := rfl
  simp -implicitDefEqProofs only []
  rw [el]
  by_cases hk : v.k = 1
  . rw [if_pos hk]
    have hne := (s5.f [0, 3]).ne
    simp -implicitDefEqProofs only [EE, Nat.reduceAdd, Nat.reduceLeDiff, ne_eq, ld1, vK, yc, zeP, u2, qu, yJ, yI, Js, VB, gv, hk, z0, zkn, hne]
    refine ⟨.inl trivial, ?_⟩
    refine y9 s5 (by simp [ze]) rfl fun h6 s6 => ?_
    simp -implicitDefEqProofs only [EE, Nat.reduceAdd, zoP, zce, qu]
    refine y9 s6 (by simp [ze]) rfl fun h7 s7 => ?_
    simp -implicitDefEqProofs only [EE]
    exact ⟨.slice (some ⟨bb, 0, none⟩) 0 cc, s7.k [0, 1, 2]⟩
  . rw [if_neg hk]
    simp -implicitDefEqProofs only [EE, ld1, yc, yJ, VB, gv, hk, z0]
    exact ⟨.slice (some ⟨bb, 0, none⟩) 0 cc, s5.k [0, 1, 2]⟩
theorem zmp (x y : Operand) : zf Tryd.prog .neq 55 x y .nilFunc .nilFunc = some (.bool false) := by kernel_rfl
theorem zkH (x y : Operand) (g : FuncId) : zf Tryd.prog .neq 55 x y (.func (.func g) #[] #[]) .nilFunc = some (.bool true) := by kernel_rfl
def XF (K : Int -> Bool) (l : List V) (i : Nat) : List V := (List.range l.length).map fun (k : Nat) => if k < i then (if K (k : Int) = true then l.getD k v0 else v0) else l.getD k v0
theorem zeH (K : Int -> Bool) (l : List V) : XF K l 0 = l := by
  apply List.ext_getElem?
  intro k
  unfold XF
  rw [List.getElem?_map]
  by_cases h : k < l.length
  . rw [List.getElem?_range h]; simp [List.getElem?_eq_getElem h]
  . rw [List.getElem?_eq_none (by simpa using h), List.getElem?_eq_none (by omega)]; rfl
theorem zhB (K : Int -> Bool) (l : List V) : XF K l l.length = Zb (some K) l := by
  unfold XF Zb
  apply List.map_congr_left
  intro k hk
  rw [if_pos (List.mem_range.1 hk)]
theorem jL (K : Int -> Bool) (l : List V) (i : Nat) : (XF K l i).length = l.length := by simp [XF]
theorem zgG {K : Int -> Bool} {l : List V} {i : Nat} (h : K (i : Int) = true) : XF K l (i + 1) = XF K l i := by
  unfold XF
  apply List.map_congr_left
  intro k hk
  by_cases e : k = i
  . subst e; simp [h]
  . by_cases e2 : k < i
    . rw [if_pos (by omega), if_pos e2]
    . rw [if_neg (by omega), if_neg e2]
theorem zi2 {K : Int -> Bool} {l : List V} {i : Nat} (h : K (i : Int) = false) : XF K l (i + 1) = (XF K l i).set i v0 := by
  apply List.ext_getElem?
  intro k
  by_cases hk : k < l.length
  . rw [List.getElem?_set]
    unfold XF
    simp only [List.getElem?_map, List.getElem?_range hk, Option.map_some, List.length_map, List.length_range]
    by_cases e : i = k
    . subst e; rw [if_pos (by omega), if_pos rfl, if_pos hk, h]; simp
    . rw [if_neg e]
      by_cases e2 : k < i
      . rw [if_pos (by omega), if_pos e2]
      . rw [if_neg (by omega), if_neg e2]
  . rw [List.getElem?_eq_none (by rw [jL]; omega), List.getElem?_eq_none (by rw [List.length_set, jL]; omega)]
theorem zdW {fbb : Nat} {ini : List Fr} {fi : List Nat} {i : Ins} (hp : Rd lo (PgOk · p)) (s : Sat lo h [pt b (yG p mb wb S ev lk gl cl kv), slc 111 1 cl (((fi ++ [fbb]) ++ [fb]).map xP), jt mb S.mem, frA p fb c, frA p fbb bk]) (hc : S.calls = (ini ++ [bk]) ++ [c]) (hi : XJ p bk = some i) (hK : KV kv kept)
    (hfi : fi.length < 4611686018427387900) (hrl : bk.zD.length <= 100000) (hd : i.d < 100000) (hL : S.mem.length <= 100000) (hb : c.blk < 9223372036854775808) (v : V) :
    DC Tryd.prog 57 [xF b, v.val] h (fun r h' => r = .bool (ve p kept S v).2 /\ ∃ cl', Sat lo h' [pt b (yG p mb wb (ve p kept S v).1 ev lk gl cl' kv), slc 111 1 cl' ((fi ++ [fbb]).map xP), jt mb (ve p kept S v).1.mem, frA p fbb { bk with zD := qY (Zb kept bk.zD) i.d v, pt := i.s }]) := by
  apply QS
  unfold zbQ xF V.val
  have el : ve p kept S v = ({ S with mem := (qz S.mem c.blk).getD S.mem, calls := ini ++ [{ bk with zD := qY (Zb kept bk.zD) i.d v, pt := i.s }] }, true) := by
    unfold ve; rw [hc]; simp only [List.getLast?_concat, List.dropLast_concat, hi]
  rw [el]
  simp -implicitDefEqProofs only [EE, Value.cells, ld1, US, qU]
  refine ZO s fun b1 h1 s1 => ?_
  have gm := (s1.p 1).get
  unfold yG xF at gm
  rcases w8 (s1.p 2) with ⟨_, e, _⟩ | ⟨bb, cc, cs, hcl, hcc, hll, htt, sc⟩
  . simp at e
  have hl2 : (((fi ++ [fbb]) ++ [fb]).map xP).length = fi.length + 1 + 1 := by simp
  have hl3 : (fi ++ [fbb]).length = fi.length + 1 := by simp
  rw [hl2] at hcl
  subst hcl
  have gc := sc.get
  rw [List.length_map] at hll htt
  have ac := WW (fbs := fi ++ [fbb]) (fb := fb) gc hll htt
  unfold xF at ac
  rw [hl3] at ac
  obtain ⟨fp, rv, hfp, sf⟩ := xO (s1.p 4)
  have gf := sf.get
  unfold Z4 at gf
  have w1 := znu (k := fi.length + 1) (by omega)
  have l0 : (0 : Int) <= ((fi.length + 1 : Nat) : Int) := by omega
  have l1 : ((fi.length + 1 : Nat) : Int) < ((fi.length + 1 + 1 : Nat) : Int) := by omega
  simp -implicitDefEqProofs only [EE, if_true, ld1, zcA, yc, zb1, KR, Z9, ziv, Xt, gm, gc, ac, gf, w1, l0, l1, Int.toNat_natCast, Nat.mul_one]
  obtain ⟨lo1, le1, s2, fr⟩ := (s1.f [3]).call (L2 := [jt mb S.mem])
  refine vi (by kernel_rfl) rfl (zjJ s2 hL hb) ?_
  rintro r h2 ⟨rfl, s3⟩
  have s4 := fr _ _ s3
  have gm2 := (s4.p 2).get
  unfold yG xF at gm2
  have s4c := s4.p 3
  rw [List.map_append (l₁ := fi ++ [fbb])] at s4c
  obtain ⟨b2, c2, cs2, hcl2, hc2, gc2, sc2⟩ := zg5 s4c (QV _)
  have hl4 : ((fi ++ [fbb]).map xP).length = fi.length + 1 := by simp
  rw [hl4] at hcl2 sc2
  obtain ⟨e1, e2⟩ : bb = b2 /\ cc = c2 := by simpa using hcl2
  subst b2 c2
  have hw2 : wide Tryd.prog h2 bb 1 = true := by rw [zfF gc2]; exact zdR
  have cs0 := zgb hcc
  have l01 : (0 : Int) <= ((fi.length + 1 : Nat) : Int) /\ ((fi.length + 1 : Nat) : Int) <= ((fi.length + 1 + 1 : Nat) : Int) := by omega
  simp -implicitDefEqProofs only [EE, cond_true, if_true, Nat.reduceMul, ld1, US, zkl, qU, Xt, zl6, Wj, gm2, w1, hw2, cs0, l01, Nat.sub_zero, Int.toNat_natCast, and_self]
  refine y9 ((sc2.f [3])) (by simp) rfl fun h5 s5 => ?_
  have gm5 := s5.get
  have nz : ¬ ((fi.length + 1 : Nat) : Int) = 0 := by omega
  have w2 := znu (k := fi.length) (by omega)
  simp -implicitDefEqProofs only [EE, ze, ld1, US, qU, ziv, Xt, QI, gm5, nz]
  have s6 := s5.p 1
  rcases w8 s6 with ⟨e, _, _⟩ | ⟨b6, c6, cs6, hcl6, hc6, hl6, ht6, sc6⟩
  . cases e
  rw [hl4] at hcl6
  obtain ⟨e1, e2⟩ : bb = b6 /\ cc = c6 := by simpa using hcl6
  subst b6 c6
  rw [List.length_map] at hl6 ht6
  have ac6 := WW (fbs := fi) (fb := fbb) sc6.get hl6 ht6
  unfold xF at ac6
  have gc6 := sc6.get
  have l5 : (0 : Int) <= (fi.length : Int) := by omega
  have l6 : ((fi.length : Nat) : Int) < ((fi.length + 1 : Nat) : Int) := by omega
  obtain ⟨fpb, rvb, hfpb, sb⟩ := xO (s5.f [5])
  have gb := sb.get
  unfold Z4 at gb
  obtain ⟨ff, hff, hin⟩ : ∃ ff, p.funcs[bk.f]? = some ff /\ (0 <= bk.pt /\ ff.code[bk.pt.toNat]? = some i) := by
    unfold XJ at hi
    cases hff : p.funcs[bk.f]? with
    | none => rw [hff] at hi; cases hi
    | some ff =>
      rw [hff] at hi
      simp only [Option.bind_some] at hi
      split at hi
      . cases hi
      . exact ⟨ff, rfl, by omega, hi⟩
  have hP := hp.at s5
  obtain ⟨bf, o, cf, tf, hix, hbf, hgf, hof, htf, hkf⟩ := SliceR.zh1 hP.funcs (i := bk.f) (r := ff.row) (by rw [List.getElem?_map, hff]; rfl) rfl
  rw [hfpb] at hix
  obtain rfl := Option.some.inj hix
  have k5 := hkf 5 (by decide)
  have hfo := hP.fns ff (List.mem_of_getElem? hff)
  obtain ⟨bi, oi, ci, ti, hii, hbi, hgi, hoi, hti, hki⟩ := SliceR.znC hfo.code (i := bk.pt.toNat) (r := i.row) (by rw [List.getElem?_map, hin.2]; rfl) rfl
  have hpt : ((bk.pt.toNat : Nat) : Int) = bk.pt := Int.toNat_of_nonneg hin.1
  rw [hpt] at hii
  have cdn := hfo.code.nob
  have hti' : (ci.drop oi).take 9 = [.int .i64 i.op, .int .i64 i.sub, .int .i64 i.a, .int .i64 i.b, .int .i64 i.d, .int .i64 i.k, i.av, .int .i64 i.s, .int .i64 i.t] := hti
  have hin9 := hfo.ins i (List.mem_of_getElem? hin.2)
  have ivn := hin9.args.nob
  have ivc := hin9.args.cok
  simp -implicitDefEqProofs only [EE, Value.cells, if_true, ldn, ld1, zkg, zcA, yc, Xs, YA, zgA, zdg, Zm, vm, gc6, ac6, w2, l5, l6, gb, hgf, k5, hii, hgi, hoi, hti', Int.toNat_natCast, Nat.mul_one]
  refine ZO s5 fun b7 h7 s7 => ?_
  simp -implicitDefEqProofs only [EE, Nat.reduceAdd, zi6]
  refine y9 s7 (by simp) (by simp only [List.all_cons, List.all_nil, ivc, x5, Bool.and_true]) fun h8 s8 => ?_
  obtain ⟨fpb8, rvb8, hfpb8, sb8⟩ := xO (s8.f [6])
  have g8 := s8.get
  have gm8 := (s8.p 1).get
  have gb8 := sb8.get
  unfold yG xF at gm8
  unfold Z4 at gb8
  have fin : ∀ (h9 : za) (zD : List V) (rv9 : Value), zD.length <= 100000 -> zD = Zb kept bk.zD -> Sat lo h9 [pt fbb (Z4 fpb8 rv9 bk.blk bk.pt), slc 84 3 rv9 (zD.map V.y1), pt b7 (.cells i.row 46), pt b (yG p mb wb { S with mem := (qz S.mem c.blk).getD S.mem, calls := ini ++ [{ bk with zD := qY (Zb kept bk.zD) i.d v, pt := i.s }] } ev lk gl (.slice (some ⟨bb, 0, none⟩) (fi.length + 1) cc) kv), slc 111 1 (.slice (some ⟨bb, 0, none⟩) (fi.length + 1) cc) ((fi ++ [fbb]).map xP), jt mb ((qz S.mem c.blk).getD S.mem), pt b1 (.cells v.y1 84)] ->
      Vn (.pointer (some ⟨b7, 0, none⟩)) (.pointer (some ⟨b1, 0, none⟩)) (.pointer (some ⟨fbb, 0, none⟩)) (fun r h' => r = .bool true /\ ∃ cl', Sat lo h' [pt b (yG p mb wb { S with mem := (qz S.mem c.blk).getD S.mem, calls := ini ++ [{ bk with zD := qY (Zb kept bk.zD) i.d v, pt := i.s }] } ev lk gl cl' kv), slc 111 1 cl' ((fi ++ [fbb]).map xP), jt mb ((qz S.mem c.blk).getD S.mem), frA p fbb { bk with zD := qY (Zb kept bk.zD) i.d v, pt := i.s }]) [] h9 := by
    intro h9 zD rv9 hlen hregs s9
    unfold Vn
    have q2 := (s9.p 2).get
    have q6 := (s9.p 6).get
    unfold V.y1 at q6
    simp -implicitDefEqProofs only [EE, if_true, Nat.reduceAdd, ldn, ld1, yc, zo, vk, q2, q6]
    obtain ⟨lo3, le3, s10, fr3⟩ := s9.call (L2 := [pt fbb (Z4 fpb8 rv9 bk.blk bk.pt), slc 84 3 rv9 (zD.map V.y1)])
    refine zJ (by kernel_rfl) rfl (zk0 s10 i.d v hd hlen) ?_
    rintro r h10 ⟨rv', s11⟩
    have s12 := fr3 _ _ s11
    have q12 := (s12.p 2).get
    have qf := s12.get
    unfold Z4 at qf
    simp -implicitDefEqProofs only [EE, ld1, yc, zeP, Zm, W1, Jo, q12]
    refine y9 s12 (by simp) rfl fun h13 s13 => ?_
    simp -implicitDefEqProofs only [EE]
    have s14 := q9 (p := p) (fb := fbb) (c := { bk with zD := qY zD i.d v, pt := i.s }) hfpb8 (s13.k [0, 1, 3, 4, 5])
    rw [hregs] at s14
    exact ⟨_, s14.f [1, 2, 3, 0]⟩
  cases kept with
  | none =>
    have hkv : kv = .nilFunc := hK
    subst hkv
    simp -implicitDefEqProofs only [EE, ze, ld1, zk7, zbH, gm8, zmp]
    exact fin h8 bk.zD rvb8 hrl rfl (sb8.zU 7)
  | some K =>
    obtain ⟨g, rfl, hcal, hQ⟩ := hK
    simp -implicitDefEqProofs only [EE, ze, ld1, zk7, zeL, Zs, zbH, Jm, gm8, zkH]
    have SR8 := slc_read (sb8.p 1) (vL _)
    have rn8 := SR8.nob
    have rl8 : ∀ r h', zg Tryd.prog .len [82] r [rvb8] h' = some (.int .i64 bk.zD.length, h') := zoi SR8
    simp -implicitDefEqProofs only [EE, ↓BK, gb8, rn8, rl8]
    refine kj (fun m vs h' => ∃ (k : Nat), k <= bk.zD.length /\ m = bk.zD.length - k /\ vs = [.int .i64 (k : Nat)] /\ Sat lo h' [pt fbb (Z4 fpb8 rvb8 bk.blk bk.pt), slc 84 3 rvb8 ((XF K bk.zD k).map V.y1), pt b7 (.cells i.row 46), pt b (yG p mb wb { S with mem := (qz S.mem c.blk).getD S.mem, calls := ini ++ [{ bk with zD := qY (Zb (some K) bk.zD) i.d v, pt := i.s }] } ev lk gl (.slice (some ⟨bb, 0, none⟩) (fi.length + 1) cc) (.func (.func g) #[] #[])), slc 111 1 (.slice (some ⟨bb, 0, none⟩) (fi.length + 1) cc) ((fi ++ [fbb]).map xP), jt mb ((qz S.mem c.blk).getD S.mem), pt b1 (.cells v.y1 84)])
      bk.zD.length ⟨0, Nat.zero_le _, rfl, rfl, by rw [zeH]; exact sb8.zU 7⟩ ?_
    rintro m vs h' ⟨k, hk, rfl, rfl, s9⟩
    unfold zau
    by_cases hkl : (k : Int) < (bk.zD.length : Int)
    . have g9 := (s9.p 3).get
      unfold yG xF at g9
      simp -implicitDefEqProofs only [EE, nth, ↓BK, ld1, zk7, zbH, Jk, K7, hkl, g9]
      refine zi hcal rfl (hQ h' k) ?_
      have gf9 := s9.get
      unfold Z4 at gf9
      obtain ⟨b0, c0, cs0', hrv, gb0, wb0, lb0, s10⟩ := zft (s9.p 1) (vL _) (i := k) (by rw [List.length_map, jL]; omega)
      have hrv' : rvb8 = .slice (some ⟨b0, 0, none⟩) bk.zD.length c0 := by rw [hrv, List.length_map, jL]
      cases hKk : K (k : Int) with
      | true =>
        simp -implicitDefEqProofs only [EE, nth, inc (show k < 4611686018427387904 by omega)]
        exact ⟨bk.zD.length - (k + 1), by omega, k + 1, by omega, rfl, rfl, by rw [zgG hKk]; exact s9⟩
      | false =>
        have h0k : (0 : Int) <= k := by omega
        simp -implicitDefEqProofs only [EE, nth, if_true, Nat.reduceAdd, ld1, zeL, zC, yg, Zs, ziR, za7, gf9, hrv', hkl, h0k, Int.toNat_natCast]
        refine zkj gb0 wb0 lb0 s10 (row := v0.y1) rfl rfl fun h11 s11 => ?_
        simp -implicitDefEqProofs only [EE, nth, inc (show k < 4611686018427387904 by omega)]
        refine ⟨bk.zD.length - (k + 1), by omega, k + 1, by omega, rfl, rfl, ?_⟩
        rw [zi2 hKk, List.map_set]
        exact s11.f [1, 0, 2, 3, 4, 5, 6]
    . have hk2 : k = bk.zD.length := by omega
      subst hk2
      simp -implicitDefEqProofs only [EE, nth, hkl]
      exact fin h' _ rvb8 (by rw [jL]; exact hrl) (zhB K bk.zD) s9
end
end Go.Rm
namespace Go.Rm
open Go.Ai Go.Proofs Go.Mem
open Go.Rtl (Ins Pg writesI PgOk FnOk InsOk SliceI SliceR Old inc)
set_option linter.unusedVariables false
set_option linter.unusedSimpArgs false
set_option maxRecDepth 10000
section
variable {lo : Low} {h : za} {L : List HP} {b mb wb fb : Nat} {p : Pg} {S : St} {world : List Int} {ev lk gl cl kv wn : Value} {fi : List Nat} {c : Fr} {ini : List Fr} {i : Ins} {kept : Option (Int -> Bool)}
theorem zmz {used : Int} (s : Sat lo h [pt wb (.cells [wn, .int .i64 used] 100), slc 2 1 wn (world.map x9)]) (h0 : 0 <= used) (h1 : used < 4611686018427387904) (hl : world.length < 4611686018427387904) :
    DC Tryd.prog 58 [xF wb] h (fun v h' => v = .int .i64 (Xb world used) /\ Sat lo h' [pt wb (.cells [wn, .int .i64 (used + 1)] 100), slc 2 1 wn (world.map x9)]) := by
  apply zfr
  unfold zke xF
  have gw := s.get
  have hinc : IntKind.wrap .i64 (used + 1) = used + 1 := Go.Mem.w64 (by omega) (by omega)
  have hdec : IntKind.wrap .i64 (used + 1 - 1) = used := by rw [show used + 1 - 1 = used by omega]; exact Go.Mem.w64 (by omega) (by omega)
  simp -implicitDefEqProofs only [EE, ld1, yc, zeP, Ka, gw, hinc]
  refine y9 s (by simp) rfl fun h2 s2 => ?_
  have g2 := s2.get
  have SR := slc_read (s2.p 1) (row_of (f := x9) (fun _ => rfl) world)
  have ws := SR.nob
  have hlen : ∀ h', zg Tryd.prog .len [26] 3 [wn] h' = some (.int .i64 world.length, h') := fun h' => by
    rcases SR with ⟨rfl, e⟩ | ⟨_, _, _, rfl, _⟩
    . have : world = [] := by simpa using e
      subst this
      simp only [zck, List.length_nil]
    . simp only [zck, List.length_map]
  by_cases hc : (world.length : Int) < used + 1
  . have hc' : used + 1 > (world.length : Int) := hc
    simp -implicitDefEqProofs only [EE, ze, ld1, zmC, yc, zcY, Ka, g2, ws, hlen, hc]
    refine ⟨?_, s2⟩
    unfold Xb
    rw [if_neg (by omega), List.getD_eq_getElem?_getD, List.getElem?_eq_none (by omega)]; rfl
  . obtain ⟨z, hz⟩ : ∃ z, world[used.toNat]? = some z := ⟨_, List.getElem?_eq_getElem (by omega)⟩
    obtain ⟨bb, o, cs, t, ⟨off, cp, rfl, rfl⟩, hi, hb, hgt, hle, htk, hat⟩ := SR.spot (i := used.toNat) (r := x9 z) (by rw [List.getElem?_map, hz]; rfl) rfl
    have hat0 : cs[off + used.toNat * 1]? = some (.int .i64 z) := hat 0 (by decide)
    rw [Nat.mul_one] at hat0
    have hu : used < (world.length : Int) := by omega
    rw [List.length_map] at *
    simp -implicitDefEqProofs only [EE, ze, if_true, ld1, vK, zmC, yc, zcY, Ka, znp, zcV, g2, ws, hlen, hc, hdec, h0, hu, hgt, hat0, Nat.mul_one]
    refine ⟨?_, s2⟩
    unfold Xb
    rw [if_neg (by omega), List.getD_eq_getElem?_getD, hz]; rfl
def yW (p : Pg) (b mb wb : Nat) (world : List Int) (S : St) (ev lk gl cl kv wn : Value) (fbs : List Nat) : List HP :=
  [pt b (yG p mb wb S ev lk gl cl kv), slc 111 1 cl (fbs.map xP), jt mb S.mem, slc 39 3 lk (S.lk.map lkRow), slc 54 2 ev (S.ev.map evRow), slc 3 1 gl (S.gl.map x9), pt wb (.cells [wn, .int .i64 S.used] 100), slc 2 1 wn (world.map x9)]
theorem zi7 (hp : Rd lo (PgOk · p)) (s : Sat lo h (yW p b mb wb world S ev lk gl cl kv wn (fi ++ [fb]) ++ frA p fb c :: L)) (hi : XJ p c = some i) (hfi : fi.length < 4611686018427387900) {R : Value -> za -> Prop}
    (k : zV i.av = false -> cellOk i.av = true -> ∀ b1 b2 h3, Sat lo h3 (pt b2 (.cells v0.y1 84) :: pt b1 (.cells i.row 46) :: (yW p b mb wb world S ev lk gl cl kv wn (fi ++ [fb]) ++ frA p fb c :: L)) ->
      ye (.int .i64 i.op) (.pointer (some ⟨b1, 0, none⟩)) h3 (.pointer (some ⟨b2, 0, none⟩)) (.pointer (some ⟨fb, 0, none⟩)) (.pointer (some ⟨b, 0, none⟩)) R (fun vs9 h10 => opt (aun Tryd.prog .not (nth vs9 1)) fun t244 => CD t244 (fun j183 => Ai.rv [.bool false] h10 R) (fun j183 => j183 [nth vs9 0] h10) (Ze (.pointer (some ⟨b1, 0, none⟩)) (.pointer (some ⟨b2, 0, none⟩)) (.pointer (some ⟨fb, 0, none⟩)) R))) : zgI h (xF b) R := by
  unfold zgI xF
  have gm := s.get
  unfold yG xF at gm
  rcases w8 (s.p 1) with ⟨_, e, _⟩ | ⟨bb, cc, cs, hcl, hcc, hll, htt, sc⟩
  . simp at e
  have hl2 : ((fi ++ [fb]).map xP).length = fi.length + 1 := by simp
  rw [hl2] at hcl
  subst hcl
  have gc := sc.get
  rw [List.length_map] at hll htt
  have ac := WW (fbs := fi) (fb := fb) gc hll htt
  unfold xF at ac
  obtain ⟨fp, rv, hfp, sf⟩ := xO (s.p 8)
  have gf := sf.get
  unfold Z4 at gf
  have w1 := znu (k := fi.length) (by omega)
  have l0 : (0 : Int) <= (fi.length : Int) := by omega
  have l1 : ((fi.length : Nat) : Int) < ((fi.length + 1 : Nat) : Int) := by omega
  obtain ⟨ff, hff, hin⟩ : ∃ ff, p.funcs[c.f]? = some ff /\ (0 <= c.pt /\ ff.code[c.pt.toNat]? = some i) := by
    unfold XJ at hi
    cases hff : p.funcs[c.f]? with
    | none => rw [hff] at hi; cases hi
    | some ff =>
      rw [hff] at hi
      simp only [Option.bind_some] at hi
      split at hi
      . cases hi
      . exact ⟨ff, rfl, by omega, hi⟩
  have hP := hp.at s
  obtain ⟨bf, o, cf, tf, hix, hbf, hgf, hof, htf, hkf⟩ := SliceR.zh1 hP.funcs (i := c.f) (r := ff.row) (by rw [List.getElem?_map, hff]; rfl) rfl
  rw [hfp] at hix
  obtain rfl := Option.some.inj hix
  have k5 := hkf 5 (by decide)
  have hfo := hP.fns ff (List.mem_of_getElem? hff)
  obtain ⟨bi, oi, ci, ti, hii, hbi, hgi, hoi, hti, hki⟩ := SliceR.znC hfo.code (i := c.pt.toNat) (r := i.row) (by rw [List.getElem?_map, hin.2]; rfl) rfl
  have hpt : ((c.pt.toNat : Nat) : Int) = c.pt := Int.toNat_of_nonneg hin.1
  rw [hpt] at hii
  have cdn := hfo.code.nob
  have hti' : (ci.drop oi).take 9 = [.int .i64 i.op, .int .i64 i.sub, .int .i64 i.a, .int .i64 i.b, .int .i64 i.d, .int .i64 i.k, i.av, .int .i64 i.s, .int .i64 i.t] := hti
  have hin9 := hfo.ins i (List.mem_of_getElem? hin.2)
  have ivn := hin9.args.nob
  have ivc := hin9.args.cok
  simp -implicitDefEqProofs only [EE, Value.cells, if_true, ldn, ld1, zkg, zcA, yc, Xs, YA, US, zgA, zdg, Zm, vm, qU, ziv, Xt, gm, gc, ac, w1, l0, l1, gf, hgf, k5, hii, hgi, hoi, hti', Int.toNat_natCast, Nat.mul_one]
  refine ZO s fun b1 h1 s1 => ?_
  simp -implicitDefEqProofs only [EE, Nat.reduceAdd, zi6]
  refine y9 s1 (by simp) (by simp only [List.all_cons, List.all_nil, ivc, x5, Bool.and_true]) fun h2 s2 => ?_
  have g2 := s2.get
  simp -implicitDefEqProofs only [EE, Value.cells, ↓BK, ld1, yc, yZ, yi]
  refine ZO s2 fun b2 h3 s3 => ?_
  have g3 := (s3.p 1).get
  simp -implicitDefEqProofs only [EE, ze, Nat.reduceAdd, g3]
  exact k ivn ivc b1 b2 h3 s3
theorem step_end {b1 b2 : Nat} {v : V} {R : Value -> za -> Prop} (hn : zV i.av = false) (s : Sat lo h (pt b2 (.cells v.y1 84) :: pt b1 (.cells i.row 46) :: frA p fb c :: L)) (hw : writesI i < 100000) (hl : c.zD.length <= 100000)
    (k : ∀ h', Sat lo h' (frA p fb { c with zD := qY c.zD (writesI i) v, pt := i.s } :: L) -> R (.bool true) h') : ∀ vs, Ze (.pointer (some ⟨b1, 0, none⟩)) (.pointer (some ⟨b2, 0, none⟩)) (.pointer (some ⟨fb, 0, none⟩)) R vs h := by
  intro vs
  unfold Ze
  have g1 := (s.p 1).get
  simp -implicitDefEqProofs only [EE, if_true, Nat.reduceAdd, ldn, Xs, g1]
  refine wQ (by kernel_rfl) (by simp only [yH, zQ, cond_false]) (Go.Rtl.zfd i hn h) ?_
  have g2 := s.get
  unfold V.y1 at g2
  obtain ⟨fp, rv, hfp, sf⟩ := xO (s.p 2)
  simp -implicitDefEqProofs only [EE, if_true, Nat.reduceAdd, ldn, zo, g2]
  obtain ⟨lo1, le1, s1, fr⟩ := sf.call (L2 := [pt fb (Z4 fp rv c.blk c.pt), slc 84 3 rv (c.zD.map V.y1)])
  refine vi (by kernel_rfl) rfl (zk0 s1 (writesI i) v hw hl) ?_
  rintro r h2 ⟨rv', s2⟩
  have s3 := fr _ _ s2
  have g3 := (s3.p 3).get
  have gf := s3.get
  unfold Z4 at gf
  simp -implicitDefEqProofs only [EE, ld1, yc, zeP, Zm, W1, zaI, g3]
  refine y9 s3 (by simp) rfl fun h4 s4 => ?_
  simp -implicitDefEqProofs only [EE]
  have s5 := q9 (p := p) (fb := fb) (c := { c with zD := qY c.zD (writesI i) v, pt := i.s }) hfp s4
  exact k h4 (s5.f [0] |>.perm (List.Perm.refl _) |> fun x => (x.p 2).drop |> fun y => (y.p 1).drop)
end
end Go.Rm
namespace Go.Rm
open Go.Ai Go.Proofs Go.Mem
open Go.Rtl (Ins Pg writesI PgOk FnOk InsOk SliceI SliceR Old inc)
set_option linter.unusedVariables false
set_option linter.unusedSimpArgs false
set_option maxRecDepth 10000
section
variable {lo : Low} {h : za} {L : List HP} {b mb wb fb b1 b2 : Nat} {p : Pg} {S : St} {world : List Int} {ev lk gl cl kv wn : Value} {fi : List Nat} {c : Fr} {ini : List Fr} {i : Ins} {kept : Option (Int -> Bool)} {R : Value -> za -> Prop}
theorem zjh {h : za} {sv : Value} {zs : List Int} (S : SliceR h sv 1 (zs.map x9)) : SliceI h sv zs := by
  have T := S
  rcases S with ⟨e, e2⟩ | ⟨b, off, cp, rfl, hc⟩
  . exact .inl ⟨e, by simpa using e2⟩
  . refine .inr ⟨b, off, cp, by rw [List.length_map], fun hz => ?_⟩
    obtain ⟨c, t, hb, hg, hat⟩ := hc (by simpa using hz)
    refine ⟨c, t, hb, hg, fun i z hiz => ?_⟩
    obtain ⟨b2, o, c2, t2, ⟨off2, cp2, e1, e2⟩, _, _, hg2, _, _, h3⟩ := T.spot (i := i) (r := x9 z) (by rw [List.getElem?_map, hiz]; rfl) rfl
    simp only [Value.slice.injEq, Option.some.injEq, Addr.mk.injEq] at e1
    obtain ⟨⟨rfl, rfl, _⟩, _, rfl⟩ := e1
    rw [hg] at hg2
    cases hg2
    have := h3 0 (by decide)
    rw [e2, Nat.mul_one, Nat.add_zero] at this
    exact this
def K51 (b1 b2 fb : Nat) (R : Value -> za -> Prop) (vs9 : List Value) (h10 : za) : Prop := opt (aun Tryd.prog .not (nth vs9 1)) fun t244 => CD t244 (fun j183 => Ai.rv [.bool false] h10 R) (fun j183 => j183 [nth vs9 0] h10) (Ze (.pointer (some ⟨b1, 0, none⟩)) (.pointer (some ⟨b2, 0, none⟩)) (.pointer (some ⟨fb, 0, none⟩)) R)
theorem zfV {x : Value} {h : za} (k : R (.bool false) h) : K51 b1 b2 fb R [x, .bool false] h := by
  unfold K51
  simp -implicitDefEqProofs only [EE, nth]
  exact k
theorem jz {x : Value} {h : za} {v : V} (hn : zV i.av = false) (hw : writesI i < 100000) (hrl : c.zD.length <= 100000) (s : Sat lo h (pt b2 (.cells v.y1 84) :: pt b1 (.cells i.row 46) :: (yW p b mb wb world S ev lk gl cl kv wn (fi ++ [fb]) ++ frA p fb c :: L)))
    (k : ∀ h' , Sat lo h' (frA p fb { c with zD := qY c.zD (writesI i) v, pt := i.s } :: (yW p b mb wb world S ev lk gl cl kv wn (fi ++ [fb]) ++ L)) -> R (.bool true) h') : K51 b1 b2 fb R [x, .bool true] h := by
  unfold K51
  simp -implicitDefEqProofs only [EE, nth]
  exact step_end hn (s.f [0, 1, 10]) hw hrl k _
theorem zoU (h0 : i.op = 2) (hn : zV i.av = false) (hco : cellOk i.av = true) (hw : writesI i < 100000) (hrl : c.zD.length <= 100000) (s : Sat lo h (pt b2 (.cells v0.y1 84) :: pt b1 (.cells i.row 46) :: (yW p b mb wb world S ev lk gl cl kv wn (fi ++ [fb]) ++ frA p fb c :: L)))
    (k : ∀ h' , Sat lo h' (frA p fb { c with zD := qY c.zD (writesI i) (ofV i.k), pt := i.s } :: (yW p b mb wb world S ev lk gl cl kv wn (fi ++ [fb]) ++ L)) -> R (.bool true) h') : ye (.int .i64 i.op) (.pointer (some ⟨b1, 0, none⟩)) h (.pointer (some ⟨b2, 0, none⟩)) (.pointer (some ⟨fb, 0, none⟩)) (.pointer (some ⟨b, 0, none⟩)) R (K51 b1 b2 fb R) := by
  rw [h0]
  unfold ye
  have g1 := (s.p 1).get
  have gm := (s.p 2).get
  unfold yG xF at gm
  simp -implicitDefEqProofs only [EE, ld1, vK, uy, JR, g1]
  refine zi (by kernel_rfl) rfl (YZ i.k h) ?_
  simp -implicitDefEqProofs only [EE, Nat.reduceAdd, zC, vv]
  refine y9 s (by simp [V.y1, v0]) rfl fun h1 s1 => ?_
  exact jz hn hw hrl s1 k
theorem zoX (h0 : i.op = 3) (hn : zV i.av = false) (hco : cellOk i.av = true) (hw : writesI i < 100000) (hrl : c.zD.length <= 100000) (s : Sat lo h (pt b2 (.cells v0.y1 84) :: pt b1 (.cells i.row 46) :: (yW p b mb wb world S ev lk gl cl kv wn (fi ++ [fb]) ++ frA p fb c :: L)))
    (k : ∀ h' , Sat lo h' (frA p fb { c with zD := qY c.zD (writesI i) (yY c.zD i.a), pt := i.s } :: (yW p b mb wb world S ev lk gl cl kv wn (fi ++ [fb]) ++ L)) -> R (.bool true) h') : ye (.int .i64 i.op) (.pointer (some ⟨b1, 0, none⟩)) h (.pointer (some ⟨b2, 0, none⟩)) (.pointer (some ⟨fb, 0, none⟩)) (.pointer (some ⟨b, 0, none⟩)) R (K51 b1 b2 fb R) := by
  rw [h0]
  unfold ye
  have g1 := (s.p 1).get
  have gm := (s.p 2).get
  unfold yG xF at gm
  simp -implicitDefEqProofs only [EE, Int.reduceEq, ld1, yc, vj, zak, xN, g1]
  obtain ⟨fp, rv, hfp, sf⟩ := xO (s.p 10)
  refine zi (by kernel_rfl) rfl (KN sf i.a) ?_
  simp -implicitDefEqProofs only [EE, Nat.reduceAdd, zC, vv]
  refine y9 s (by simp [V.y1, v0]) rfl fun h1 s1 => ?_
  exact jz hn hw hrl s1 k
theorem zoW (h0 : i.op = 4) (hn : zV i.av = false) (hco : cellOk i.av = true) (hw : writesI i < 100000) (hrl : c.zD.length <= 100000) (s : Sat lo h (pt b2 (.cells v0.y1 84) :: pt b1 (.cells i.row 46) :: (yW p b mb wb world S ev lk gl cl kv wn (fi ++ [fb]) ++ frA p fb c :: L)))
    (k : ∀ h' , Sat lo h' (frA p fb { c with zD := qY c.zD (writesI i) ((unM i.sub (yY c.zD i.a)).getD v0), pt := i.s } :: (yW p b mb wb world S ev lk gl cl kv wn (fi ++ [fb]) ++ L)) -> (unM i.sub (yY c.zD i.a)).isSome = true -> R (.bool true) h')
    (k0 : ∀ h' , Sat lo h' (yW p b mb wb world S ev lk gl cl kv wn (fi ++ [fb]) ++ frA p fb c :: L) -> (unM i.sub (yY c.zD i.a)).isSome = false -> R (.bool false) h') : ye (.int .i64 i.op) (.pointer (some ⟨b1, 0, none⟩)) h (.pointer (some ⟨b2, 0, none⟩)) (.pointer (some ⟨fb, 0, none⟩)) (.pointer (some ⟨b, 0, none⟩)) R (K51 b1 b2 fb R) := by
  rw [h0]
  unfold ye
  have g1 := (s.p 1).get
  have gm := (s.p 2).get
  unfold yG xF at gm
  simp -implicitDefEqProofs only [EE, Int.reduceEq, ld1, yc, yN, vj, Jr, x4, xN, g1]
  obtain ⟨fp, rv, hfp, sf⟩ := xO (s.p 10)
  refine wQ (by kernel_rfl) rfl (KN sf i.a) ?_
  unfold zdC
  refine wQ (by kernel_rfl) rfl (zoQ i.sub _ h) ?_
  unfold vB
  cases hu : unM i.sub (yY c.zD i.a) with
  | none =>
    simp -implicitDefEqProofs only [EE, Nat.reduceAdd, zC, vv, Option.getD_none, Option.isSome_none, v0]
    refine y9 s (by simp [V.y1, v0]) rfl fun h1 s1 => ?_
    exact zfV (k0 h1 (s1.drop.drop) (by rw [hu]; rfl))
  | some u =>
    simp -implicitDefEqProofs only [EE, Nat.reduceAdd, zC, vv, Option.getD_some, Option.isSome_some]
    refine y9 s (by simp [V.y1, v0]) rfl fun h1 s1 => ?_
    exact jz (v := u) hn hw hrl s1 fun h' s' => k h' (by rw [hu]; exact s') (by rw [hu]; rfl)
theorem zoS (h0 : i.op = 8) (hs0 : 0 <= i.sub) (hs1 : i.sub < S.gl.length) (hn : zV i.av = false) (hco : cellOk i.av = true) (hw : writesI i < 100000) (hrl : c.zD.length <= 100000) (s : Sat lo h (pt b2 (.cells v0.y1 84) :: pt b1 (.cells i.row 46) :: (yW p b mb wb world S ev lk gl cl kv wn (fi ++ [fb]) ++ frA p fb c :: L)))
    (k : ∀ h' , Sat lo h' (frA p fb { c with zD := qY c.zD (writesI i) (atV (S.gl.getD i.sub.toNat 0) i.k), pt := i.s } :: (yW p b mb wb world S ev lk gl cl kv wn (fi ++ [fb]) ++ L)) -> R (.bool true) h') : ye (.int .i64 i.op) (.pointer (some ⟨b1, 0, none⟩)) h (.pointer (some ⟨b2, 0, none⟩)) (.pointer (some ⟨fb, 0, none⟩)) (.pointer (some ⟨b, 0, none⟩)) R (K51 b1 b2 fb R) := by
  rw [h0]
  unfold ye
  have g1 := (s.p 1).get
  have gm := (s.p 2).get
  unfold yG xF at gm
  have SG := zjh (slc_read (s.p 7) (row_of (f := x9) (fun _ => rfl) S.gl))
  obtain ⟨z, hz⟩ : ∃ z, S.gl[i.sub.toNat]? = some z := ⟨_, List.getElem?_eq_getElem (by omega)⟩
  obtain ⟨bb, o, cs, t, hix, hb, hgt, hat0⟩ := SG.at hz
  rw [show ((i.sub.toNat : Nat) : Int) = i.sub from Int.toNat_of_nonneg hs0] at hix
  have gn := SG.nob
  rw [show S.gl.getD i.sub.toNat 0 = z by rw [List.getD_eq_getElem?_getD, hz]; rfl] at k
  simp -implicitDefEqProofs only [EE, Int.reduceEq, ld1, vK, qa, yc, yN, uy, zgK, Jq, vO, w9, wK, wm, x4, xN, g1, gm, hix, hgt, hat0]
  refine wQ (by kernel_rfl) rfl (zmL z i.k h) ?_
  simp -implicitDefEqProofs only [EE, Nat.reduceAdd, zC, vv]
  refine y9 s (by simp [V.y1, v0]) rfl fun h1 s1 => ?_
  exact jz (v := atV z i.k) hn hw hrl s1 k
theorem zoM (h0 : i.op = 9) (hn : zV i.av = false) (hco : cellOk i.av = true) (hw : writesI i < 100000) (hrl : c.zD.length <= 100000) (s : Sat lo h (pt b2 (.cells v0.y1 84) :: pt b1 (.cells i.row 46) :: (yW p b mb wb world S ev lk gl cl kv wn (fi ++ [fb]) ++ frA p fb c :: L)))
    (k : ∀ h' , Sat lo h' (frA p fb { c with zD := qY c.zD (writesI i) (atV c.blk i.k), pt := i.s } :: (yW p b mb wb world S ev lk gl cl kv wn (fi ++ [fb]) ++ L)) -> R (.bool true) h') : ye (.int .i64 i.op) (.pointer (some ⟨b1, 0, none⟩)) h (.pointer (some ⟨b2, 0, none⟩)) (.pointer (some ⟨fb, 0, none⟩)) (.pointer (some ⟨b, 0, none⟩)) R (K51 b1 b2 fb R) := by
  rw [h0]
  unfold ye
  have g1 := (s.p 1).get
  have gm := (s.p 2).get
  unfold yG xF at gm
  obtain ⟨fp, rv, hfp, sf⟩ := xO (s.p 10)
  have gf := sf.get
  unfold Z4 at gf
  simp -implicitDefEqProofs only [EE, Int.reduceEq, ld1, vK, yc, KR, uy, zbj, um, vO, w9, wK, wm, x4, xN, g1, gf]
  refine wQ (by kernel_rfl) rfl (zmL c.blk i.k h) ?_
  simp -implicitDefEqProofs only [EE, Nat.reduceAdd, zC, vv]
  refine y9 s (by simp [V.y1, v0]) rfl fun h1 s1 => ?_
  exact jz (v := atV c.blk i.k) hn hw hrl s1 k
theorem zn2 (h0 : i.op = 11) (hL : (S.lk.length + 1) * 24 <= 2 ^ 47) (hn : zV i.av = false) (hco : cellOk i.av = true) (hw : writesI i < 100000) (hrl : c.zD.length <= 100000) (s : Sat lo h (pt b2 (.cells v0.y1 84) :: pt b1 (.cells i.row 46) :: (yW p b mb wb world S ev lk gl cl kv wn (fi ++ [fb]) ++ frA p fb c :: L)))
    (o : Option V) (ho : o = xY i.sub (yY c.zD i.a) (yb c i))
    (k : ∀ h' lk', Sat lo h' (frA p fb { c with pt := brP c i o } :: (yW p b mb wb world (brS S o) ev lk' gl cl kv wn (fi ++ [fb]) ++ L)) -> R (.bool o.isSome) h') : ye (.int .i64 i.op) (.pointer (some ⟨b1, 0, none⟩)) h (.pointer (some ⟨b2, 0, none⟩)) (.pointer (some ⟨fb, 0, none⟩)) (.pointer (some ⟨b, 0, none⟩)) R (K51 b1 b2 fb R) := by
  rw [h0]
  unfold ye
  have g1 := (s.p 1).get
  have gm := (s.p 2).get
  unfold yG xF at gm
  simp -implicitDefEqProofs only [EE, if_true, Nat.reduceAdd, Int.reduceEq, ldn, Xs, q8, u4, um, vO, w9, wK, wm, x4, xN, g1]
  obtain ⟨fp, rv, hfp, sf⟩ := xO (s.p 10)
  obtain ⟨lo1, le1, s1, fr⟩ := (sf.f [4, 7, 0, 1]).call (L2 := [pt b (yG p mb wb S ev lk gl cl kv), slc 39 3 lk (S.lk.map lkRow), pt fb (Z4 fp rv c.blk c.pt), slc 84 3 rv (c.zD.map V.y1)])
  refine zJ (by kernel_rfl) (by simp only [yH, zQ, yp, cond_false]) (zmt s1 hL i hn hco o ho) ?_
  rintro r h2 ⟨rfl, lk', s2⟩
  have s3 := fr _ _ s2
  simp -implicitDefEqProofs only [EE]
  have s4 := q9 (p := p) (fb := fb) (c := { c with pt := brP c i o }) hfp (s3.f [2, 3])
  have em : (brS S o).mem = S.mem /\ (brS S o).ev = S.ev /\ (brS S o).gl = S.gl /\ (brS S o).used = S.used := by cases o <;> exact ⟨rfl, rfl, rfl, rfl⟩
  refine k h2 lk' ?_
  unfold yW
  rw [em.1, em.2.1, em.2.2.1, em.2.2.2]
  exact (s4.f [3, 4]).drop.drop.f [0, 1, 3, 4, 2]
end
end Go.Rm
namespace Go.Rm
open Go.Ai Go.Proofs Go.Mem
open Go.Rtl (Ins Pg writesI PgOk FnOk InsOk SliceI SliceR Old inc)
set_option linter.unusedVariables false
set_option linter.unusedSimpArgs false
set_option maxRecDepth 10000
section
variable {lo : Low} {h : za} {L : List HP} {b mb wb fb b1 b2 : Nat} {p : Pg} {S : St} {world : List Int} {ev lk gl cl kv wn : Value} {fi : List Nat} {c : Fr} {ini : List Fr} {i : Ins} {kept : Option (Int -> Bool)} {R : Value -> za -> Prop}
theorem znT (h0 : i.op = 13) (hu0 : 0 <= S.used) (hu1 : S.used < 4611686018427387904) (hwl : world.length < 4611686018427387904) (hE : (S.ev.length + 1) * 16 <= 2 ^ 47) (hn : zV i.av = false) (hco : cellOk i.av = true) (hw : writesI i < 100000) (hrl : c.zD.length <= 100000) (s : Sat lo h (pt b2 (.cells v0.y1 84) :: pt b1 (.cells i.row 46) :: (yW p b mb wb world S ev lk gl cl kv wn (fi ++ [fb]) ++ frA p fb c :: L)))
    (k : ∀ h' ev', Sat lo h' (frA p fb { c with zD := qY c.zD (writesI i) (ofV (Xb world S.used)), pt := i.s } :: (yW p b mb wb world { ui S 1 (Xb world S.used) with used := S.used + 1 } ev' lk gl cl kv wn (fi ++ [fb]) ++ L)) -> R (.bool true) h') : ye (.int .i64 i.op) (.pointer (some ⟨b1, 0, none⟩)) h (.pointer (some ⟨b2, 0, none⟩)) (.pointer (some ⟨fb, 0, none⟩)) (.pointer (some ⟨b, 0, none⟩)) R (K51 b1 b2 fb R) := by
  rw [h0]
  unfold ye
  have g1 := (s.p 1).get
  have gm := (s.p 2).get
  unfold yG xF at gm
  simp -implicitDefEqProofs only [EE, Int.reduceEq, ld1, znJ, zkV, za4, Xu, jQ, q8, u4, um, vO, w9, wK, wm, x4, xN, gm]
  obtain ⟨lo1, le1, s1, fr⟩ := (s.f [8, 9]).call (L2 := [pt wb (.cells [wn, .int .i64 S.used] 100), slc 2 1 wn (world.map x9)])
  refine zJ (by kernel_rfl) rfl (zmz s1 hu0 hu1 hwl) ?_
  rintro r h2 ⟨rfl, s2⟩
  have s3 := fr _ _ s2
  simp -implicitDefEqProofs only [zaY]
  obtain ⟨lo2, le2, s4, fr2⟩ := (s3.f [4, 8]).call (L2 := [pt b (yG p mb wb S ev lk gl cl kv), slc 54 2 ev (S.ev.map evRow)])
  refine zJ (by kernel_rfl) rfl (zhm s4 hE 1 (Xb world S.used)) ?_
  rintro r h5 ⟨ev', s5⟩
  have s6 := fr2 _ _ s5
  simp -implicitDefEqProofs only []
  refine zi (by kernel_rfl) rfl (YZ (Xb world S.used) h5) ?_
  simp -implicitDefEqProofs only [EE, Nat.reduceAdd, zC, vv]
  refine y9 (s6.f [4, 5, 0, 6, 7, 8, 1, 9, 2, 3]) (by simp [V.y1, v0]) rfl fun h7 s7 => ?_
  exact jz (S := { ui S 1 (Xb world S.used) with used := S.used + 1 }) (v := ofV (Xb world S.used)) hn hw hrl s7 fun h' s' => k h' ev' s'
theorem zoh (h0 : i.op = 14) (hE : (S.ev.length + 1) * 16 <= 2 ^ 47) (hn : zV i.av = false) (hco : cellOk i.av = true) (hw : writesI i < 100000) (hrl : c.zD.length <= 100000) (s : Sat lo h (pt b2 (.cells v0.y1 84) :: pt b1 (.cells i.row 46) :: (yW p b mb wb world S ev lk gl cl kv wn (fi ++ [fb]) ++ frA p fb c :: L)))
    (k : (yY c.zD i.a).k = 1 -> ∀ h' ev', Sat lo h' (frA p fb { c with zD := qY c.zD (writesI i) v0, pt := i.s } :: (yW p b mb wb world (ui S 2 (yY c.zD i.a).n) ev' lk gl cl kv wn (fi ++ [fb]) ++ L)) -> R (.bool true) h')
    (k0 : ¬ (yY c.zD i.a).k = 1 -> ∀ h', Sat lo h' (yW p b mb wb world S ev lk gl cl kv wn (fi ++ [fb]) ++ frA p fb c :: L) -> R (.bool false) h') : ye (.int .i64 i.op) (.pointer (some ⟨b1, 0, none⟩)) h (.pointer (some ⟨b2, 0, none⟩)) (.pointer (some ⟨fb, 0, none⟩)) (.pointer (some ⟨b, 0, none⟩)) R (K51 b1 b2 fb R) := by
  rw [h0]
  unfold ye
  have g1 := (s.p 1).get
  have gm := (s.p 2).get
  unfold yG xF at gm
  simp -implicitDefEqProofs only [EE, Int.reduceEq, ld1, yc, vj, Ju, VS, Xu, jQ, q8, u4, um, vO, w9, wK, wm, x4, xN, g1]
  obtain ⟨fp, rv, hfp, sf⟩ := xO (s.p 10)
  refine zi (by kernel_rfl) rfl (KN sf i.a) ?_
  simp -implicitDefEqProofs only [EE, Value.cells, yZ, JV, vv]
  refine ZO s fun b3 h1 s1 => ?_
  simp -implicitDefEqProofs only [EE, Nat.reduceAdd, zC]
  refine y9 s1 (by simp) rfl fun h2 s2 => ?_
  have g2 := s2.get
  by_cases hk : (yY c.zD i.a).k = 1
  . simp -implicitDefEqProofs only [EE, ze, Nat.reduceAdd, ld1, vK, yc, yJ, yI, Jl, g2, hk]
    obtain ⟨lo2, le2, s4, fr2⟩ := (s2.f [3, 7]).call (L2 := [pt b (yG p mb wb S ev lk gl cl kv), slc 54 2 ev (S.ev.map evRow)])
    refine zJ (by kernel_rfl) rfl (zhm s4 hE 2 (yY c.zD i.a).n) ?_
    rintro r h5 ⟨ev', s5⟩
    have s6 := fr2 _ _ s5
    simp -implicitDefEqProofs only [nth]
    exact jz (S := ui S 2 (yY c.zD i.a).n) (v := v0) hn hw hrl ((s6.p 2).drop.f [2, 3, 0, 4, 5, 6, 1]) fun h' s' => k hk h' ev' s'
  . simp -implicitDefEqProofs only [EE, ze, Nat.reduceAdd, ld1, yc, yJ, g2, hk]
    exact k0 hk h2 s2.drop.drop.drop
theorem zoO (h0 : i.op = 5) (hL : (S.lk.length + 1) * 24 <= 2 ^ 47) (hn : zV i.av = false) (hco : cellOk i.av = true) (hw : writesI i < 100000) (hrl : c.zD.length <= 100000) (s : Sat lo h (pt b2 (.cells v0.y1 84) :: pt b1 (.cells i.row 46) :: (yW p b mb wb world S ev lk gl cl kv wn (fi ++ [fb]) ++ frA p fb c :: L)))
    (S1 : St) (hS1 : S1 = if (i.sub = 14 \/ i.sub = 15) /\ (yY c.zD i.a).k = 1 /\ (yb c i).k = 1 then xl S 3 (yY c.zD i.a).n (yb c i).n else S)
    (o : Option V) (ho : o = xY i.sub (yY c.zD i.a) (yb c i))
    (k : o.isSome = true -> ∀ h' lk', Sat lo h' (frA p fb { c with zD := qY c.zD (writesI i) (o.getD v0), pt := i.s } :: (yW p b mb wb world S1 ev lk' gl cl kv wn (fi ++ [fb]) ++ L)) -> R (.bool true) h')
    (k0 : o.isSome = false -> ∀ h' lk', Sat lo h' (yW p b mb wb world S1 ev lk' gl cl kv wn (fi ++ [fb]) ++ frA p fb c :: L) -> R (.bool false) h') : ye (.int .i64 i.op) (.pointer (some ⟨b1, 0, none⟩)) h (.pointer (some ⟨b2, 0, none⟩)) (.pointer (some ⟨fb, 0, none⟩)) (.pointer (some ⟨b, 0, none⟩)) R (K51 b1 b2 fb R) := by
  rw [h0]
  unfold ye
  have g1 := (s.p 1).get
  have gm := (s.p 2).get
  unfold yG xF at gm
  simp -implicitDefEqProofs only [EE, Int.reduceEq, ld1, yc, vj, za3, wm, x4, xN, g1]
  obtain ⟨fp, rv, hfp, sf⟩ := xO (s.p 10)
  refine wQ (by kernel_rfl) rfl (KN sf i.a) ?_
  simp -implicitDefEqProofs only [EE, if_true, Nat.reduceAdd, ldn, Xs, g1]
  refine wQ (by kernel_rfl) (by simp only [yH, zQ, yp, cond_false]) (JA sf i hn) ?_
  simp -implicitDefEqProofs only [EE, Value.cells, yZ, zcy, vv]
  refine ZO s fun b3 h1 s1 => ?_
  simp -implicitDefEqProofs only [EE, Nat.reduceAdd, zC]
  refine ZO s1 fun b4 h2 s2 => ?_
  simp -implicitDefEqProofs only []
  refine y9 (s2.p 1) (by simp) rfl fun h3 s3 => ?_
  simp -implicitDefEqProofs only [EE, Nat.reduceAdd, zC]
  refine y9 (s3.p 1) (by simp) rfl fun h4 s4 => ?_
  have q4 := (s4.p 3).get
  have q3 := (s4.p 1).get
  have q2 := s4.get
  have tail : ∀ (h5 : za) (S1 : St) (lk' : Value), S1.mem = S.mem -> S1.ev = S.ev -> S1.gl = S.gl -> S1.used = S.used ->
      (∀ h' lk', o.isSome = true -> Sat lo h' (frA p fb { c with zD := qY c.zD (writesI i) (o.getD v0), pt := i.s } :: (yW p b mb wb world S1 ev lk' gl cl kv wn (fi ++ [fb]) ++ L)) -> R (.bool true) h') ->
      (∀ h' lk', o.isSome = false -> Sat lo h' (yW p b mb wb world S1 ev lk' gl cl kv wn (fi ++ [fb]) ++ frA p fb c :: L) -> R (.bool false) h') ->
      Sat lo h5 (pt b4 (.cells (yb c i).y1 84) :: pt b3 (.cells (yY c.zD i.a).y1 84) :: pt b2 (.cells v0.y1 84) :: pt b1 (.cells i.row 46) :: (yW p b mb wb world S1 ev lk' gl cl kv wn (fi ++ [fb]) ++ frA p fb c :: L)) ->
      ∀ vs, Y8 (.pointer (some ⟨b1, 0, none⟩)) (.pointer (some ⟨b3, 0, none⟩)) (.pointer (some ⟨b4, 0, none⟩)) (.pointer (some ⟨b2, 0, none⟩)) (fun vs31 h32 => K51 b1 b2 fb R [nth vs31 0, nth vs31 1] h32) vs h5 := by
    intro h5 S1 lk' e1 e2 e3 e4 k k0 s5 vs
    unfold Y8
    have z1 := (s5.p 3).get
    have z3 := (s5.p 1).get
    have z4 := s5.get
    unfold V.y1 at z3 z4
    simp -implicitDefEqProofs only [EE, if_true, Nat.reduceAdd, ldn, ld1, yc, zo, yN, z1, z3, z4]
    refine zi (by kernel_rfl) rfl (zkR i.sub _ _ h5) ?_
    rw [<- ho]
    unfold vB
    cases o with
    | none =>
      simp -implicitDefEqProofs only [EE, Nat.reduceAdd, zC, vv, Option.getD_none, Option.isSome_none, v0]
      refine y9 (s5.p 2) (by simp [V.y1, v0]) rfl fun h6 s6 => ?_
      exact zfV (k0 h6 lk' rfl s6.drop.drop.drop.drop)
    | some u =>
      simp -implicitDefEqProofs only [EE, Nat.reduceAdd, zC, vv, Option.getD_some, Option.isSome_some]
      refine y9 (s5.p 2) (by simp [V.y1, v0]) rfl fun h6 s6 => ?_
      exact jz (S := S1) (v := u) hn hw hrl ((s6.f [1, 2, 0, 3]).drop.drop) fun h' s' => k h' lk' rfl s'
  have gmL := (s4.p 4).get
  unfold yG xF at gmL
  have lkd : ∀ (K : Value -> za -> Prop), (∀ v h5 lk', Sat lo h5 (pt b4 (.cells (yb c i).y1 84) :: pt b3 (.cells (yY c.zD i.a).y1 84) :: pt b2 (.cells v0.y1 84) :: pt b1 (.cells i.row 46) :: (yW p b mb wb world (xl S 3 (yY c.zD i.a).n (yb c i).n) ev lk' gl cl kv wn (fi ++ [fb]) ++ frA p fb c :: L)) -> K v h5) ->
      zI Tryd.prog (.func (.func 50) #[] #[]) [.pointer (some ⟨b, 0, none⟩), .int .i64 3, .int .i64 (yY c.zD i.a).n, .int .i64 (yb c i).n] h4 K := by
    intro K hK
    obtain ⟨lo1, le1, s5, fr⟩ := (s4.f [4, 7]).call (L2 := [pt b (yG p mb wb S ev lk gl cl kv), slc 39 3 lk (S.lk.map lkRow)])
    refine zJ (by kernel_rfl) rfl (zdc s5 hL 3 _ _) ?_
    rintro v h5 ⟨lk', s6⟩
    exact hK v h5 lk' ((fr _ _ s6).f [2, 3, 4, 5, 0, 6, 7, 1])
  have q2' : h4.get b4 = some (.cells [.int .i64 (yb c i).k, .int .i64 (yb c i).n, .int .i64 (yb c i).b] 84) := q2
  have q3' : h4.get b3 = some (.cells [.int .i64 (yY c.zD i.a).k, .int .i64 (yY c.zD i.a).n, .int .i64 (yY c.zD i.a).b] 84) := q3
  have hsub : i.sub = 14 \/ i.sub = 15 \/ (¬ i.sub = 14 /\ ¬ i.sub = 15) := by omega
  have fin0 : ¬ ((i.sub = 14 \/ i.sub = 15) /\ (yY c.zD i.a).k = 1 /\ (yb c i).k = 1) -> ∀ vs, Y8 (.pointer (some ⟨b1, 0, none⟩)) (.pointer (some ⟨b3, 0, none⟩)) (.pointer (some ⟨b4, 0, none⟩)) (.pointer (some ⟨b2, 0, none⟩)) (fun vs31 h32 => K51 b1 b2 fb R [nth vs31 0, nth vs31 1] h32) vs h4 := by
    intro hc vs
    rw [if_neg hc] at hS1
    rw [hS1] at k k0
    exact tail h4 S lk rfl rfl rfl rfl (fun h' lk' e s' => k e h' lk' s') (fun h' lk' e s' => k0 e h' lk' s') s4 vs
  have fin1 : ((i.sub = 14 \/ i.sub = 15) /\ (yY c.zD i.a).k = 1 /\ (yb c i).k = 1) -> ∀ (K : Value -> za -> Prop), (∀ v h5, (∀ vs, Y8 (.pointer (some ⟨b1, 0, none⟩)) (.pointer (some ⟨b3, 0, none⟩)) (.pointer (some ⟨b4, 0, none⟩)) (.pointer (some ⟨b2, 0, none⟩)) (fun vs31 h32 => K51 b1 b2 fb R [nth vs31 0, nth vs31 1] h32) vs h5) -> K v h5) ->
      zI Tryd.prog (.func (.func 50) #[] #[]) [.pointer (some ⟨b, 0, none⟩), .int .i64 3, .int .i64 (yY c.zD i.a).n, .int .i64 (yb c i).n] h4 K := by
    intro hc K hK
    rw [if_pos hc] at hS1
    rw [hS1] at k k0
    refine lkd K fun v h5 lk' s5 => hK v h5 fun vs => tail h5 (xl S 3 (yY c.zD i.a).n (yb c i).n) lk' rfl rfl rfl rfl (fun h' lk' e s' => k e h' lk' s') (fun h' lk' e s' => k0 e h' lk' s') s5 vs
  by_cases ha : (yY c.zD i.a).k = 1
  . by_cases hb : (yb c i).k = 1
    . rcases hsub with h14 | h15 | ⟨h14, h15⟩
      . simp -implicitDefEqProofs only [EE, ld1, vK, yc, yN, yJ, yI, KW, ud, uh, ug, uf, ue, q2', q3', q4, ha, hb, h14]
        exact fin1 ⟨.inl h14, ha, hb⟩ _ fun v h5 t => t _
      . simp -implicitDefEqProofs only [EE, Int.reduceEq, ld1, vK, yc, yN, yJ, yI, KW, ud, uh, ug, uf, ue, q2', q3', q4, ha, hb, h15]
        exact fin1 ⟨.inr h15, ha, hb⟩ _ fun v h5 t => t _
      . simp -implicitDefEqProofs only [EE, nth, ld1, yc, yN, ud, uh, ug, uf, ue, q4, h14, h15]
        exact fin0 (by omega) _
    . rcases hsub with h14 | h15 | ⟨h14, h15⟩
      . simp -implicitDefEqProofs only [EE, nth, ld1, yc, yN, yJ, ud, uh, ug, uf, ue, q2', q3', q4, ha, hb, h14]
        exact fin0 (by omega) _
      . simp -implicitDefEqProofs only [EE, nth, Int.reduceEq, ld1, yc, yN, yJ, ud, uh, ug, uf, ue, q2', q3', q4, ha, hb, h15]
        exact fin0 (by omega) _
      . simp -implicitDefEqProofs only [EE, nth, ld1, yc, yN, ud, uh, ug, uf, ue, q4, h14, h15]
        exact fin0 (by omega) _
  . rcases hsub with h14 | h15 | ⟨h14, h15⟩
    . simp -implicitDefEqProofs only [EE, nth, ld1, yc, yN, yJ, ud, uh, ug, uf, ue, q3', q4, ha, h14]
      exact fin0 (by omega) _
    . simp -implicitDefEqProofs only [EE, nth, Int.reduceEq, ld1, yc, yN, yJ, ud, uh, ug, uf, ue, q3', q4, ha, h15]
      exact fin0 (by omega) _
    . simp -implicitDefEqProofs only [EE, nth, ld1, yc, yN, ud, uh, ug, uf, ue, q4, h14, h15]
      exact fin0 (by omega) _
end
end Go.Rm
namespace Go.Rm
open Go.Ai Go.Proofs Go.Mem
open Go.Rtl (Ins Pg writesI PgOk FnOk InsOk SliceI SliceR Old inc)
set_option linter.unusedVariables false
set_option linter.unusedSimpArgs false
set_option maxRecDepth 10000
section
variable {lo : Low} {h : za} {L : List HP} {b mb wb fb b1 b2 : Nat} {p : Pg} {S : St} {world : List Int} {ev lk gl cl kv wn : Value} {fi : List Nat} {c : Fr} {ini : List Fr} {i : Ins} {kept : Option (Int -> Bool)} {R : Value -> za -> Prop}
theorem zoR (h0 : i.op = 6) (hL : (S.lk.length + 1) * 24 <= 2 ^ 47) (hsm : small S.mem) (hsub : ZR i.sub) (hq : ∀ q, ym c i = some q -> q.ok) (hn : zV i.av = false) (hco : cellOk i.av = true) (hw : writesI i < 100000) (hrl : c.zD.length <= 100000) (s : Sat lo h (pt b2 (.cells v0.y1 84) :: pt b1 (.cells i.row 46) :: (yW p b mb wb world S ev lk gl cl kv wn (fi ++ [fb]) ++ frA p fb c :: L)))
    (k : ∀ q u, ym c i = some q -> jr S.mem i.sub q = some u -> ∀ h' lk', Sat lo h' (frA p fb { c with zD := qY c.zD (writesI i) u, pt := i.s } :: (yW p b mb wb world (xl S 2 q.b q.n) ev lk' gl cl kv wn (fi ++ [fb]) ++ L)) -> R (.bool true) h')
    (k0 : (∀ q u, ym c i = some q -> jr S.mem i.sub q = some u -> False) -> ∀ h' lk', Sat lo h' (yW p b mb wb world (zi1 S (ym c i)) ev lk' gl cl kv wn (fi ++ [fb]) ++ frA p fb c :: L) -> R (.bool false) h') : ye (.int .i64 i.op) (.pointer (some ⟨b1, 0, none⟩)) h (.pointer (some ⟨b2, 0, none⟩)) (.pointer (some ⟨fb, 0, none⟩)) (.pointer (some ⟨b, 0, none⟩)) R (K51 b1 b2 fb R) := by
  rw [h0]
  unfold ye
  have g1 := (s.p 1).get
  have gm := (s.p 2).get
  unfold yG xF at gm
  simp -implicitDefEqProofs only [EE, if_true, Nat.reduceAdd, Int.reduceEq, ldn, Xs, wK, wm, x4, xN, g1]
  obtain ⟨fp, rv, hfp, sf⟩ := xO (s.p 10)
  obtain ⟨lo1, le1, s1, fr⟩ := (sf.f [4, 7, 0, 1]).call (L2 := [pt b (yG p mb wb S ev lk gl cl kv), slc 39 3 lk (S.lk.map lkRow), pt fb (Z4 fp rv c.blk c.pt), slc 84 3 rv (c.zD.map V.y1)])
  refine zJ (by kernel_rfl) (by simp only [yH, zQ, yp, cond_false]) (zat s1 hL i hn hco) ?_
  rintro r h2 ⟨rfl, lk', s2⟩
  have s3 := fr _ _ s2
  have s4 := q9 (p := p) (fb := fb) (c := c) hfp (s3.f [2, 3])
  have s5 := s4.f [3, 4, 1, 5, 6, 2, 7, 8, 9, 10, 0]
  unfold zlo
  cases hA : ym c i with
  | none =>
    rw [hA] at s5 k0
    simp -implicitDefEqProofs only [EE, Value.cells, yZ, VM, vv, Option.getD_none, Option.isSome_none, v0]
    refine ZO s5 fun b3 h3 s6 => ?_
    simp -implicitDefEqProofs only [EE, Nat.reduceAdd, zC]
    refine y9 s6 (by simp) rfl fun h4 s7 => ?_
    simp -implicitDefEqProofs only [EE]
    exact k0 (fun q u e _ => by cases e) h4 lk' s7.drop.drop.drop
  | some q =>
    rw [hA] at s5 k0
    simp -implicitDefEqProofs only [EE, Value.cells, yZ, VM, vv, Option.getD_some, Option.isSome_some]
    refine ZO s5 fun b3 h3 s6 => ?_
    simp -implicitDefEqProofs only [EE, Nat.reduceAdd, zC]
    refine y9 s6 (by simp) rfl fun h4 s7 => ?_
    have z1 := (s7.p 2).get
    have z3 := s7.get
    have zm := (s7.p 3).get
    unfold yG xF at zm
    simp -implicitDefEqProofs only [EE, ze, if_true, Nat.reduceAdd, ldn, ld1, yc, zb1, zo, yN, Z9, zaM, z1, z3, zm]
    obtain ⟨lo2, le2, s8, fr2⟩ := (s7.f [5]).call (L2 := [jt mb S.mem])
    refine vi (by kernel_rfl) rfl (zne s8 hsm hsub (hq q hA)) ?_
    rintro r h5 ⟨rfl, s9⟩
    have s10 := fr2 _ _ s9
    have s11 := s10.f [2, 3, 4, 5, 0]
    unfold vB
    cases hu : jr S.mem i.sub q with
    | none =>
      simp -implicitDefEqProofs only [EE, Nat.reduceAdd, zC, vv, Option.getD_none, Option.isSome_none, v0]
      refine y9 s11 (by simp [V.y1, v0]) rfl fun h6 s12 => ?_
      exact zfV (k0 (fun q' u e1 e2 => by cases e1; rw [hu] at e2; cases e2) h6 lk' ((s12.f [5]).drop.drop.drop))
    | some u =>
      simp -implicitDefEqProofs only [EE, Nat.reduceAdd, zC, vv, Option.getD_some, Option.isSome_some]
      refine y9 s11 (by simp [V.y1, v0]) rfl fun h6 s12 => ?_
      exact jz (S := xl S 2 q.b q.n) (v := u) hn hw hrl ((s12.f [5]).drop) fun h' s' => k q u hA hu h' lk' s'
theorem zoY (h0 : i.op = 7) (hL : (S.lk.length + 1) * 24 <= 2 ^ 47) (hsm : small S.mem) (hsub : ZR i.sub) (hq : ∀ q, ym c i = some q -> q.ok) (hn : zV i.av = false) (hco : cellOk i.av = true) (hw : writesI i < 100000) (hrl : c.zD.length <= 100000) (s : Sat lo h (pt b2 (.cells v0.y1 84) :: pt b1 (.cells i.row 46) :: (yW p b mb wb world S ev lk gl cl kv wn (fi ++ [fb]) ++ frA p fb c :: L)))
    (k : ∀ q M, ym c i = some q -> uC S.mem i.sub q (yY c.zD i.b) = some M -> ∀ h' lk', Sat lo h' (frA p fb { c with zD := qY c.zD (writesI i) v0, pt := i.s } :: (yW p b mb wb world { xl S 2 q.b q.n with mem := M } ev lk' gl cl kv wn (fi ++ [fb]) ++ L)) -> R (.bool true) h')
    (k0 : (∀ q u, ym c i = some q -> uC S.mem i.sub q (yY c.zD i.b) = some u -> False) -> ∀ h' lk', Sat lo h' (yW p b mb wb world (zi1 S (ym c i)) ev lk' gl cl kv wn (fi ++ [fb]) ++ frA p fb c :: L) -> R (.bool false) h') : ye (.int .i64 i.op) (.pointer (some ⟨b1, 0, none⟩)) h (.pointer (some ⟨b2, 0, none⟩)) (.pointer (some ⟨fb, 0, none⟩)) (.pointer (some ⟨b, 0, none⟩)) R (K51 b1 b2 fb R) := by
  rw [h0]
  unfold ye
  have g1 := (s.p 1).get
  have gm := (s.p 2).get
  unfold yG xF at gm
  simp -implicitDefEqProofs only [EE, if_true, Nat.reduceAdd, Int.reduceEq, ldn, Xs, w9, wK, wm, x4, xN, g1]
  obtain ⟨fp, rv, hfp, sf⟩ := xO (s.p 10)
  obtain ⟨lo1, le1, s1, fr⟩ := (sf.f [4, 7, 0, 1]).call (L2 := [pt b (yG p mb wb S ev lk gl cl kv), slc 39 3 lk (S.lk.map lkRow), pt fb (Z4 fp rv c.blk c.pt), slc 84 3 rv (c.zD.map V.y1)])
  refine zJ (by kernel_rfl) (by simp only [yH, zQ, yp, cond_false]) (zat s1 hL i hn hco) ?_
  rintro r h2 ⟨rfl, lk', s2⟩
  have s3 := fr _ _ s2
  have s4 := q9 (p := p) (fb := fb) (c := c) hfp (s3.f [2, 3])
  have s5 := s4.f [3, 4, 1, 5, 6, 2, 7, 8, 9, 10, 0]
  unfold zlo
  cases hA : ym c i with
  | none =>
    rw [hA] at s5 k0
    simp -implicitDefEqProofs only [EE, Value.cells, yZ, V6, vv, Option.getD_none, Option.isSome_none, v0]
    refine ZO s5 fun b3 h3 s6 => ?_
    simp -implicitDefEqProofs only [EE, Nat.reduceAdd, zC]
    refine y9 s6 (by simp) rfl fun h4 s7 => ?_
    simp -implicitDefEqProofs only [EE, YO, Vc, Um, Vp, V2, V9, Vg]
    exact k0 (fun q u e _ => by cases e) h4 lk' s7.drop.drop.drop
  | some q =>
    rw [hA] at s5 k0
    simp -implicitDefEqProofs only [EE, Value.cells, yZ, V6, vv, Option.getD_some, Option.isSome_some]
    refine ZO s5 fun b3 h3 s6 => ?_
    simp -implicitDefEqProofs only [EE, Nat.reduceAdd, zC]
    refine y9 s6 (by simp) rfl fun h4 s7 => ?_
    have z1 := (s7.p 2).get
    have z3 := s7.get
    have zm := (s7.p 3).get
    unfold yG xF at zm
    obtain ⟨fp7, rv7, hfp7, sf7⟩ := xO (s7.p 11)
    simp -implicitDefEqProofs only [EE, ze, if_true, Nat.reduceAdd, ldn, ld1, yc, zb1, zo, yN, jx, Z9, Um, Vp, V2, V9, Vg, z1, z3, zm]
    refine wQ (by kernel_rfl) rfl (KN sf7 i.b) ?_
    simp -implicitDefEqProofs only [EE, Vc]
    obtain ⟨lo2, le2, s8, fr2⟩ := (s7.f [5]).call (L2 := [jt mb S.mem])
    refine vi (by kernel_rfl) rfl (zkA s8 hsm hsub (hq q hA)) ?_
    rintro r h5 ⟨rfl, s9⟩
    have s10 := fr2 _ _ s9
    have s11 := s10.f [2, 3, 4, 5, 0]
    cases hu : uC S.mem i.sub q (yY c.zD i.b) with
    | none =>
      rw [hu] at s11
      simp -implicitDefEqProofs only [EE, YO, Option.isSome_none]
      exact k0 (fun q' u e1 e2 => by cases e1; rw [hu] at e2; cases e2) h5 lk' ((s11.f [0, 1, 5]).drop.drop.drop)
    | some M =>
      rw [hu] at s11
      simp -implicitDefEqProofs only [EE, nth, YO, Option.isSome_some]
      exact jz (S := { xl S 2 q.b q.n with mem := M }) (v := v0) hn hw hrl ((s11.f [5]).drop) fun h' s' => k q M hA hu h' lk' s'
theorem zlb (h0 : ∀ k : Nat, 2 <= k -> k <= 14 -> ¬ i.op = k) (hn : zV i.av = false) (hco : cellOk i.av = true) (hw : writesI i < 100000) (hrl : c.zD.length <= 100000) (s : Sat lo h (pt b2 (.cells v0.y1 84) :: pt b1 (.cells i.row 46) :: (yW p b mb wb world S ev lk gl cl kv wn (fi ++ [fb]) ++ frA p fb c :: L)))
    (k : ∀ h', Sat lo h' (frA p fb { c with zD := qY c.zD (writesI i) v0, pt := i.s } :: (yW p b mb wb world S ev lk gl cl kv wn (fi ++ [fb]) ++ L)) -> R (.bool true) h') : ye (.int .i64 i.op) (.pointer (some ⟨b1, 0, none⟩)) h (.pointer (some ⟨b2, 0, none⟩)) (.pointer (some ⟨fb, 0, none⟩)) (.pointer (some ⟨b, 0, none⟩)) R (K51 b1 b2 fb R) := by
  unfold ye
  have h2 := h0 2 (by decide) (by decide)
  have h3 := h0 3 (by decide) (by decide)
  have h4 := h0 4 (by decide) (by decide)
  have h5 := h0 5 (by decide) (by decide)
  have h6 := h0 6 (by decide) (by decide)
  have h7 := h0 7 (by decide) (by decide)
  have h8 := h0 8 (by decide) (by decide)
  have h9 := h0 9 (by decide) (by decide)
  have h10 := h0 10 (by decide) (by decide)
  have h11 := h0 11 (by decide) (by decide)
  have h12 := h0 12 (by decide) (by decide)
  have h13 := h0 13 (by decide) (by decide)
  have h14 := h0 14 (by decide) (by decide)
  simp only [Int.cast_ofNat_Int] at h2 h3 h4 h5 h6 h7 h8 h9 h10 h11 h12 h13 h14
  simp -implicitDefEqProofs only [EE, nth, VS, Xu, jQ, q8, u4, um, vO, w9, wK, wm, x4, xN, h2, h3, h4, h5, h6, h7, h8, h9, h10, h11, h12, h13, h14]
  exact jz (v := v0) hn hw hrl s k
theorem zn3 (h0 : i.op = 12) (hn : zV i.av = false) (hco : cellOk i.av = true) (hw : writesI i < 100000) (hrl : c.zD.length <= 100000) (s : Sat lo h (pt b2 (.cells v0.y1 84) :: pt b1 (.cells i.row 46) :: (yW p b mb wb world S ev lk gl cl kv wn (fi ++ [fb]) ++ frA p fb c :: L)))
    (k : ∀ (h' : za), Sat lo h' (yW p b mb wb world S ev lk gl cl kv wn (fi ++ [fb]) ++ frA p fb c :: L) -> DC Tryd.prog 57 [xF b, (yY c.zD i.a).val] h' (fun v h'' => ∃ bl : Bool, v = .bool bl /\ R (.bool bl) h'')) : ye (.int .i64 i.op) (.pointer (some ⟨b1, 0, none⟩)) h (.pointer (some ⟨b2, 0, none⟩)) (.pointer (some ⟨fb, 0, none⟩)) (.pointer (some ⟨b, 0, none⟩)) R (K51 b1 b2 fb R) := by
  rw [h0]
  unfold ye
  have g1 := (s.p 1).get
  have gm := (s.p 2).get
  unfold yG xF at gm
  simp -implicitDefEqProofs only [EE, Int.reduceEq, ld1, yc, vj, zaf, jQ, q8, u4, um, vO, w9, wK, wm, x4, xN, g1]
  obtain ⟨fp, rv, hfp, sf⟩ := xO (s.p 10)
  refine zi (by kernel_rfl) rfl (KN sf i.a) ?_
  refine zJ (by kernel_rfl) rfl (k h s.drop.drop) ?_
  rintro v h2 ⟨bl, rfl, hR⟩
  rw [x8 rfl]
  exact hR
theorem zok (h0 : i.op = 10) (args : Rd lo (SliceI · i.av i.args)) (hal : i.args.length <= 100000) (hL : (S.lk.length + 1) * 24 <= 2 ^ 47)
    (k : ∀ lo1 h' lk' av, lo.Le lo1 -> Rd lo1 (SliceR · av 3 ((i.args.map (yY c.zD)).map V.y1)) -> (∀ h' L', Sat lo1 h' L' -> Sat lo h' L') -> Sat lo1 h' (yW p b mb wb world (xl S 4 i.sub 0) ev lk' gl cl kv wn (fi ++ [fb]) ++ frA p fb c :: L) -> DC Tryd.prog 33 [xF b, .int .i64 i.sub, av] h' (fun v h'' => ∃ bl : Bool, v = .bool bl /\ R (.bool bl) h'')) (hn : zV i.av = false) (hco : cellOk i.av = true) (hw : writesI i < 100000) (hrl : c.zD.length <= 100000) (s : Sat lo h (pt b2 (.cells v0.y1 84) :: pt b1 (.cells i.row 46) :: (yW p b mb wb world S ev lk gl cl kv wn (fi ++ [fb]) ++ frA p fb c :: L)))
    : ye (.int .i64 i.op) (.pointer (some ⟨b1, 0, none⟩)) h (.pointer (some ⟨b2, 0, none⟩)) (.pointer (some ⟨fb, 0, none⟩)) (.pointer (some ⟨b, 0, none⟩)) R (K51 b1 b2 fb R) := by
  rw [h0]
  unfold ye
  have g1 := (s.p 1).get
  have gm := (s.p 2).get
  unfold yG xF at gm
  have al : ∀ r h', zg Tryd.prog .len [22] r [i.av] h' = some (.int .i64 i.args.length, h') := fun r h' => by
    rcases args.at s with ⟨e, e2⟩ | ⟨_, _, _, e, _⟩
    . rw [e, e2]; simp only [Wu]; rfl
    . rw [e]; simp only [Wu]
  simp -implicitDefEqProofs only [EE, ↓BK, Int.reduceEq, ld1, qa, Vu, zbe, u4, um, vO, w9, wK, wm, x4, xN, g1, hn, al]
  refine kj (fun m vs h' => ∃ (j : Nat) (av : Value), j <= i.args.length /\ m = i.args.length - j /\ vs = [av, .int .i64 (j : Nat)] /\ Sat lo h' (slc 84 3 av (((i.args.take j).map (yY c.zD)).map V.y1) :: pt b2 (.cells v0.y1 84) :: pt b1 (.cells i.row 46) :: (yW p b mb wb world S ev lk gl cl kv wn (fi ++ [fb]) ++ frA p fb c :: L)))
    i.args.length ⟨0, .slice none 0 0, Nat.zero_le _, rfl, rfl, qR _ _ s⟩ ?_
  rintro m vs h' ⟨j, av, hj, rfl, rfl, s1⟩
  unfold Jv
  have avn := slc_nob s1
  by_cases hc : (j : Int) < (i.args.length : Int)
  . obtain ⟨z, hz⟩ : ∃ z, i.args[j]? = some z := ⟨_, List.getElem?_eq_getElem (by omega)⟩
    obtain ⟨bb, o, cs, t, hix, hb, hgt, hat0⟩ := (args.at s1).at hz
    simp -implicitDefEqProofs only [EE, nth, ↓BK, ld1, yc, zbn, hc, hix, hgt, hat0]
    obtain ⟨fp, rv, hfp, sf⟩ := xO (s1.p 11)
    refine zi (by kernel_rfl) rfl (KN sf z) ?_
    have s2 := s1.push (.cells (yY c.zD z).y1 84)
    obtain ⟨b', c', h3, a1, s3⟩ := Yj (s2.p 1) (vL _) (yY c.zD z).y1 rfl (by decide) 24 (by simp only [List.length_map, List.length_take]; omega)
    have hlen : (((i.args.take j).map (yY c.zD)).map V.y1).length = j := by simp; omega
    rw [hlen] at a1 s3
    have hap : ∀ r, zg Tryd.prog .append [82, 82] r [av, .slice (some ⟨h'.next, 0, none⟩) 1 3] (h'.push (.cells (yY c.zD z).y1 84)) = some (.slice (some ⟨b', 0, none⟩) (j + 1) c', h3) := fun r =>
      (zkq r _ _ 1 (yY c.zD z).y1 _ rfl (by simp only [xh, zw]; rfl) rfl rfl).trans a1
    unfold V.y1 at hap
    simp -implicitDefEqProofs only [EE, nth, Up, zaO, zaF, vv, avn, hap, inc (show j < 4611686018427387904 by omega)]
    refine ⟨i.args.length - (j + 1), by omega, j + 1, .slice (some ⟨b', 0, none⟩) (j + 1) c', by omega, rfl, rfl, ?_⟩
    rw [List.take_add_one, hz, show (some z).toList = [z] from rfl, List.map_append, List.map_append]
    exact (s3.p 1).drop
  . have hj2 : j = i.args.length := by omega
    subst hj2
    rw [List.take_length] at s1
    simp -implicitDefEqProofs only [EE, nth, hc]
    unfold JH
    have z1 := (s1.p 2).get
    simp -implicitDefEqProofs only [EE, ld1, yc, yN, z1]
    obtain ⟨lo2, le2, s4, fr2⟩ := (s1.f [3, 6]).call (L2 := [pt b (yG p mb wb S ev lk gl cl kv), slc 39 3 lk (S.lk.map lkRow)])
    refine zJ (by kernel_rfl) rfl (zdc s4 hL 4 i.sub 0) ?_
    rintro r h5 ⟨lk', s5⟩
    have s6 := fr2 _ _ s5
    have z6 := (s6.p 4).get
    simp -implicitDefEqProofs only [EE, nth, ld1, yc, yN, Jn, z6]
    obtain ⟨lo3, le3, rd, s7, fr3⟩ := zjv (s6.p 2) (vL _)
    refine zJ (by kernel_rfl) (by simp only [yH, avn, yp, zA, cond_false]) (k lo3 h5 lk' av le3 rd (fun h' L' s' => (fr3 h' L' s').drop) ((s7.f [2, 3]).drop.drop.f [0, 2, 3, 1])) ?_
    rintro v h8 ⟨bl, rfl, hR⟩
    rw [x8 rfl]
    exact hR
end
end Go.Rm
namespace Go.Rm
open Go.Ai Go.Proofs Go.Mem
open Go.Rtl (Ins Pg writesI PgOk FnOk InsOk SliceI SliceR Old inc)
set_option linter.unusedVariables false
set_option linter.unusedSimpArgs false
set_option maxRecDepth 10000
def zbT (p : Pg) : List Nat -> List Fr -> List HP
  | fb :: fbs, c :: cs => frA p fb c :: zbT p fbs cs
  | _, _ => []
theorem qv (p : Pg) (fb : Nat) (c : Fr) : ∀ (fbs : List Nat) (cs : List Fr), fbs.length = cs.length -> zbT p (fbs ++ [fb]) (cs ++ [c]) = zbT p fbs cs ++ [frA p fb c]
  | [], [], _ => rfl
  | f :: fbs, d :: cs, h => by
    simp only [List.cons_append, zbT]
    rw [qv p fb c fbs cs (by simpa using h)]
  | [], _ :: _, h => by simp at h
  | _ :: _, [], h => by simp at h
def zky (lo : Low) (h : za) (p : Pg) (b mb wb : Nat) (world : List Int) (gl kv wn : Value) (S : St) : Prop := ∃ ev lk cl fbs, fbs.length = S.calls.length /\ Sat lo h (yW p b mb wb world S ev lk gl cl kv wn fbs ++ zbT p fbs S.calls)
structure zoI (p : Pg) (x : Ins) : Prop where
  w : writesI x < 100000
  zo8 : x.op = 8 -> 0 <= x.sub /\ x.sub < p.globals.length
  znm : x.op = 6 \/ x.op = 7 -> ZR x.sub
  call : x.op = 10 -> ∃ f, 0 <= x.sub /\ p.funcs[x.sub.toNat]? = some f /\ x.args.length = f.params.length /\ f.params.length <= 100000 /\ ∀ r, r ∈ f.params -> r < 100000
structure zoA (p : Pg) (S : St) : Prop where
  fr : ∀ c, c ∈ S.calls -> c.zD.length <= 100000 /\ (∀ v, v ∈ c.zD -> ZR v.b) /\ ZR c.blk
  at_ : ∀ c, c ∈ S.calls -> ∃ i, XJ p c = some i /\ zoI p i
  low : ∀ c, c ∈ S.calls.dropLast -> ∃ i, XJ p c = some i /\ i.op = 10
  many : S.calls.length <= 20000
  lk : S.lk.length <= 20000000
  ev : S.ev.length <= 20000000
  used : 0 <= S.used /\ S.used <= 20000000
  mem : small S.mem /\ S.mem.length <= 100000
  gl : S.gl.length = p.globals.length
section
variable {lo : Low} {h : za} {b mb wb : Nat} {p : Pg} {S : St} {world : List Int} {gl kv wn : Value} {kept : Option (Int -> Bool)}
theorem zfO {c : Fr} {i : Ins} (hr : ∀ v, v ∈ c.zD -> ZR v.b) : ∀ q, ym c i = some q -> q.ok := by
  intro q hq
  have hb : ZR (yY c.zD i.a).b := by
    unfold yY
    split
    . exact ⟨by decide, by decide⟩
    . rw [List.getD_eq_getElem?_getD]
      cases e : c.zD[i.a.toNat]? with
      | none => exact ⟨by decide, by decide⟩
      | some v => exact hr v (List.mem_of_getElem? e)
  have w64_in : ∀ n : Int, ZR (w64 n) := fun n => by
    unfold w64 ZR
    simp only [IntKind.wrap, IntKind.bits, IntKind.signed]
    constructor <;> simp <;> omega
  unfold ym at hq
  generalize yY c.zD i.a = a at hq hb
  unfold xY at hq
  have hi : isInt (ofV i.k) = true := rfl
  cases ha : isInt a with
  | true =>
    rw [ha, hi] at hq
    simp only [Bool.and_self, if_true, uB] at hq
    simp [ofV] at hq
  | false =>
    rw [ha, hi] at hq
    cases hp : x7 a with
    | true =>
      rw [hp] at hq
      simp only [Bool.false_and, Bool.false_eq_true, if_false, decide_true, Bool.and_self, if_true] at hq
      split at hq
      . simp only [Option.some.injEq] at hq
        subst hq
        unfold atV
        split
        . exact ⟨⟨by decide, by decide⟩, ⟨by decide, by decide⟩, ⟨by decide, by decide⟩⟩
        . exact ⟨⟨by show (-9223372036854775808 : Int) <= 2; decide, by show (2 : Int) < 9223372036854775808; decide⟩, w64_in _, hb⟩
      . cases hq
    | false =>
      rw [hp] at hq
      have hpi : x7 (ofV i.k) = false := rfl
      simp [hpi] at hq
theorem zmW (hp : Rd lo (PgOk · p)) (hK : KV kv kept) (hwl : world.length < 4611686018427387904) (x : zky lo h p b mb wb world gl kv wn S) (ok : zoA p S) (hne : S.calls ≠ []) :
    DC Tryd.prog 34 [xF b] h (fun v h' => v = .bool (kW p world kept S).2 /\ zky lo h' p b mb wb world gl kv wn (kW p world kept S).1) := by
  apply zfM
  obtain ⟨ev, lk, cl, fbs, hlen, s⟩ := x
  rcases List.eq_nil_or_concat S.calls with e | ⟨ini, c, e⟩
  . exact absurd e hne
  rcases List.eq_nil_or_concat fbs with rfl | ⟨fi, fb, rfl⟩
  . rw [e] at hlen; simp at hlen
  simp only [List.concat_eq_append] at *
  have hl : fi.length = ini.length := by rw [e] at hlen; simpa using hlen
  have hcm : c ∈ S.calls := by rw [e]; simp
  obtain ⟨i, hi, ig⟩ := ok.at_ c hcm
  obtain ⟨hrl, hrb, hblk⟩ := ok.fr c hcm
  have hmany := ok.many
  have hil : ini.length < 20000 := by rw [e] at hmany; simp at hmany; omega
  have est : kW p world kept S = wH p world kept S c i := by
    unfold kW; rw [e, List.getLast?_concat]; simp only [hi]
  rw [est]
  rw [e, qv p fb c fi ini hl] at s
  have sx : Sat lo h (yW p b mb wb world S ev lk gl cl kv wn (fi ++ [fb]) ++ frA p fb c :: zbT p fi ini) := s.perm (by
    rw [<- List.append_assoc]
    refine List.Perm.trans List.perm_append_comm ?_
    rw [List.singleton_append]
    exact List.perm_middle.symm)
  have hL : (S.lk.length + 1) * 24 <= 2 ^ 47 := by have := ok.lk; omega
  have hE : (S.ev.length + 1) * 16 <= 2 ^ 47 := by have := ok.ev; omega
  have back : ∀ {S' : St} {h' : za} {ev' lk' : Value} {c' : Fr}, S'.calls = ini ++ [c'] -> Sat lo h' (frA p fb c' :: (yW p b mb wb world S' ev' lk' gl cl kv wn (fi ++ [fb]) ++ zbT p fi ini)) -> zky lo h' p b mb wb world gl kv wn S' := by
    intro S' h' ev' lk' c' e' s'
    refine ⟨ev', lk', cl, fi ++ [fb], by rw [e']; simp [hl], ?_⟩
    rw [e', qv p fb c' fi ini hl]
    refine s'.perm ?_
    rw [<- List.append_assoc]
    exact (List.perm_append_comm (l₁ := [frA p fb c']))
  have done : ∀ (S' : St) (v : V), (S'.calls = S.calls) -> (vP S' c i v).calls = ini ++ [{ c with zD := qY c.zD (writesI i) v, pt := i.s }] := by
    intro S' v e'
    unfold vP zms
    rw [show ({ S' with calls := S'.calls.dropLast ++ [{ c with zD := qY c.zD (writesI i) v, pt := i.s }] } : St).calls = S'.calls.dropLast ++ [{ c with zD := qY c.zD (writesI i) v, pt := i.s }] from rfl, e', e, List.dropLast_concat]
  have back0 : ∀ {S' : St} {h' : za} {ev' lk' : Value}, S'.calls = S.calls -> Sat lo h' (yW p b mb wb world S' ev' lk' gl cl kv wn (fi ++ [fb]) ++ frA p fb c :: zbT p fi ini) -> zky lo h' p b mb wb world gl kv wn S' := by
    intro S' h' ev' lk' e' s'
    refine back (c' := c) (by rw [e', e]) (s'.perm List.perm_middle)
  refine zi7 hp sx hi (by omega) fun hn hco b1 b2 h3 s3 => ?_
  have hw := ig.w
  show ye (.int .i64 i.op) _ h3 _ _ _ _ (K51 b1 b2 fb _)
  by_cases h2 : i.op = 2
  . refine zoU h2 hn hco hw hrl s3 fun h' s' => ?_
    have es : wH p world kept S c i = (vP S c i (ofV i.k), true) := by unfold wH; rw [if_pos h2]
    rw [es]
    exact ⟨rfl, back (done S _ rfl) s'⟩
  by_cases h3' : i.op = 3
  . refine zoX h3' hn hco hw hrl s3 fun h' s' => ?_
    have es : wH p world kept S c i = (vP S c i (yY c.zD i.a), true) := by unfold wH; rw [if_neg h2, if_pos h3']
    rw [es]
    exact ⟨rfl, back (done S _ rfl) s'⟩
  by_cases h4 : i.op = 4
  . have es : wH p world kept S c i = (match unM i.sub (yY c.zD i.a) with
      | none => (S, false)
      | some v => (vP S c i v, true)) := by unfold wH; rw [if_neg h2, if_neg h3', if_pos h4]; rfl
    refine zoW h4 hn hco hw hrl s3 (fun h' s' q => ?_) (fun h' s' q => ?_)
    . cases hu : unM i.sub (yY c.zD i.a) with
      | none => rw [hu] at q; cases q
      | some u => rw [hu] at es s'; rw [es]; exact ⟨rfl, back (done S _ rfl) s'⟩
    . cases hu : unM i.sub (yY c.zD i.a) with
      | some u => rw [hu] at q; cases q
      | none => rw [hu] at es; rw [es]; exact ⟨rfl, back0 rfl s'⟩
  by_cases h5 : i.op = 5
  . obtain ⟨S1, hS1⟩ : ∃ S1, S1 = if (i.sub = 14 \/ i.sub = 15) /\ (yY c.zD i.a).k = 1 /\ (yb c i).k = 1 then xl S 3 (yY c.zD i.a).n (yb c i).n else S := ⟨_, rfl⟩
    have hS1c : S1.calls = S.calls := by rw [hS1]; split <;> rfl
    have es : wH p world kept S c i = (match xY i.sub (yY c.zD i.a) (yb c i) with
      | none => (S1, false)
      | some v => (vP S1 c i v, true)) := by unfold wH; rw [if_neg h2, if_neg h3', if_neg h4, if_pos h5, hS1]; rfl
    obtain ⟨o, ho⟩ : ∃ o, o = xY i.sub (yY c.zD i.a) (yb c i) := ⟨_, rfl⟩
    rw [<- ho] at es
    refine zoO h5 hL hn hco hw hrl s3 S1 hS1 o ho (fun q h' lk' s' => ?_) (fun q h' lk' s' => ?_)
    . cases o with
      | none => cases q
      | some u => rw [es]; exact ⟨rfl, back (done S1 _ hS1c) s'⟩
    . cases o with
      | some u => cases q
      | none => rw [es]; exact ⟨rfl, back0 hS1c s'⟩
  by_cases h6 : i.op = 6
  . have es : wH p world kept S c i = (match ym c i with
      | none => (S, false)
      | some q => (match jr S.mem i.sub q with
        | none => (xl S 2 q.b q.n, false)
        | some v => (vP (xl S 2 q.b q.n) c i v, true))) := by unfold wH; rw [if_neg h2, if_neg h3', if_neg h4, if_neg h5, if_pos h6]; rfl
    refine zoR h6 hL ok.mem.1 (ig.znm (.inl h6)) (zfO hrb) hn hco hw hrl s3 (fun q u e1 e2 h' lk' s' => ?_) (fun q0 h' lk' s' => ?_)
    . rw [e1] at es
      simp only [e2] at es
      rw [es]; exact ⟨rfl, back (done (xl S 2 q.b q.n) _ rfl) s'⟩
    . cases hA : ym c i with
      | none => rw [hA] at es s'; rw [es]; exact ⟨rfl, back0 rfl s'⟩
      | some q =>
        rw [hA] at es s'
        cases hu : jr S.mem i.sub q with
        | some u => exact (q0 q u hA hu).elim
        | none => simp only [hu] at es; rw [es]; exact ⟨rfl, back0 (S' := xl S 2 q.b q.n) rfl s'⟩
  by_cases h7 : i.op = 7
  . have es : wH p world kept S c i = (match ym c i with
      | none => (S, false)
      | some q => (match uC S.mem i.sub q (yY c.zD i.b) with
        | none => (xl S 2 q.b q.n, false)
        | some M => (vP { xl S 2 q.b q.n with mem := M } c i v0, true))) := by unfold wH; rw [if_neg h2, if_neg h3', if_neg h4, if_neg h5, if_neg h6, if_pos h7]; rfl
    refine zoY h7 hL ok.mem.1 (ig.znm (.inr h7)) (zfO hrb) hn hco hw hrl s3 (fun q M e1 e2 h' lk' s' => ?_) (fun q0 h' lk' s' => ?_)
    . rw [e1] at es
      simp only [e2] at es
      rw [es]; exact ⟨rfl, back (done { xl S 2 q.b q.n with mem := M } _ rfl) s'⟩
    . cases hA : ym c i with
      | none => rw [hA] at es s'; rw [es]; exact ⟨rfl, back0 rfl s'⟩
      | some q =>
        rw [hA] at es s'
        cases hu : uC S.mem i.sub q (yY c.zD i.b) with
        | some u => exact (q0 q u hA hu).elim
        | none => simp only [hu] at es; rw [es]; exact ⟨rfl, back0 (S' := xl S 2 q.b q.n) rfl s'⟩
  by_cases h8 : i.op = 8
  . have es : wH p world kept S c i = (vP S c i (atV (S.gl.getD i.sub.toNat 0) i.k), true) := by unfold wH; rw [if_neg h2, if_neg h3', if_neg h4, if_neg h5, if_neg h6, if_neg h7, if_pos h8]
    obtain ⟨g0, g1⟩ := ig.zo8 h8
    refine zoS h8 g0 (by rw [ok.gl]; exact g1) hn hco hw hrl s3 fun h' s' => ?_
    rw [es]; exact ⟨rfl, back (done S _ rfl) s'⟩
  by_cases h9 : i.op = 9
  . have es : wH p world kept S c i = (vP S c i (atV c.blk i.k), true) := by unfold wH; rw [if_neg h2, if_neg h3', if_neg h4, if_neg h5, if_neg h6, if_neg h7, if_neg h8, if_pos h9]
    refine zoM h9 hn hco hw hrl s3 fun h' s' => ?_
    rw [es]; exact ⟨rfl, back (done S _ rfl) s'⟩
  by_cases h10 : i.op = 10
  . have es : wH p world kept S c i = xt p (xl S 4 i.sub 0) i.sub (i.args.map (yY c.zD)) := by unfold wH; rw [if_neg h2, if_neg h3', if_neg h4, if_neg h5, if_neg h6, if_neg h7, if_neg h8, if_neg h9, if_pos h10]
    obtain ⟨f, f0, f1, f2, f3, f4⟩ := ig.call h10
    have hf : ∀ h, PgOk h p -> SliceI h i.av i.args := fun h P => by
      unfold XJ at hi
      cases hff : p.funcs[c.f]? with
      | none => rw [hff] at hi; cases hi
      | some ff =>
        rw [hff] at hi
        simp only [Option.bind_some] at hi
        split at hi
        . cases hi
        . exact ((P.fns ff (List.mem_of_getElem? hff)).ins i (List.mem_of_getElem? hi)).args
    refine zok h10 (fun h b => hf h (hp h b)) (by rw [f2]; exact f3) hL (fun lo1 h' lk' av le rd fr s' => ?_) hn hco hw hrl s3
    rw [es]
    have en : i.sub = ((i.sub.toNat : Nat) : Int) := (Int.toNat_of_nonneg f0).symm
    obtain ⟨lo2, le2, s5, fr2⟩ := (s'.f [0, 1, 2]).call (L2 := [pt b (yG p mb wb (xl S 4 i.sub 0) ev lk' gl cl kv), slc 111 1 cl ((fi ++ [fb]).map xP), jt mb (xl S 4 i.sub 0).mem])
    have hfb : (fi ++ [fb]).length = (xl S 4 i.sub 0).calls.length := by show _ = S.calls.length; rw [e]; simp [hl]
    have := zfT (lo := lo2) (n := i.sub.toNat) (f := f) (args := i.args.map (yY c.zD)) ((hp.mono le).mono le2) (rd.mono le2) s5 f1 (by rw [List.length_map]; exact f2) hfb f4 f3
    rw [<- en] at this
    refine this.mono ?_
    rintro v h6 ⟨rfl, hq⟩
    refine ⟨_, rfl, rfl, ?_⟩
    obtain ⟨E, hE'⟩ : ∃ E, E = xt p (xl S 4 i.sub 0) i.sub (i.args.map (yY c.zD)) := ⟨_, rfl⟩
    rw [<- hE'] at hq ⊢
    have EM : E = if 20000 <= S.calls.length then (xl S 4 i.sub 0, false) else (if (yK S.mem f.frame).2.2 = 0 then ({ xl S 4 i.sub 0 with mem := (yK S.mem f.frame).1, calls := S.calls ++ [⟨i.sub.toNat, w7 f.params (i.args.map (yY c.zD)) [], (yK S.mem f.frame).2.1, f.entry⟩] }, true) else ({ xl S 4 i.sub 0 with mem := (yK S.mem f.frame).1 }, false)) := by
      rw [hE']; unfold xt; simp only [f1]; rfl
    by_cases hb : E.2 = true
    . rw [if_pos hb] at hq
      obtain ⟨fb2, cl2, s6⟩ := hq
      have s7 := fr _ _ (fr2 _ _ s6)
      split at EM
      . rw [EM] at hb; cases hb
      split at EM
      . subst EM
        refine ⟨ev, lk', cl2, (fi ++ [fb]) ++ [fb2], by show _ = (S.calls ++ [_]).length; rw [e]; simp [hl], ?_⟩
        show Sat lo h6 (_ ++ zbT p ((fi ++ [fb]) ++ [fb2]) (S.calls ++ [_]))
        rw [qv p fb2 _ _ S.calls (by rw [e]; simp [hl]), e, qv p fb c fi ini hl]
        have s8 := s7.f [0, 1, 2, 4, 5, 6, 7, 8, 3, 9]
        refine s8.perm ?_
        simp only [yW, List.cons_append, List.nil_append]
        refine List.Perm.cons _ (List.Perm.cons _ (List.Perm.cons _ (List.Perm.cons _ (List.Perm.cons _ (List.Perm.cons _ (List.Perm.cons _ (List.Perm.cons _ ?_)))))))
        have : (frA p fb2 ⟨i.sub.toNat, w7 f.params (i.args.map (yY c.zD)) [], (yK S.mem f.frame).2.1, f.entry⟩ :: frA p fb c :: zbT p fi ini).Perm ((zbT p fi ini ++ [frA p fb c]) ++ [frA p fb2 ⟨i.sub.toNat, w7 f.params (i.args.map (yY c.zD)) [], (yK S.mem f.frame).2.1, f.entry⟩]) :=
          (List.Perm.cons _ (List.perm_append_comm (l₁ := [frA p fb c]))).trans (List.perm_append_comm (l₁ := [_]))
        exact this
      . rw [EM] at hb; cases hb
    . rw [if_neg hb] at hq
      have s7 := fr _ _ (fr2 _ _ hq)
      have hcl : E.1.calls = S.calls /\ E.1.lk = (xl S 4 i.sub 0).lk /\ E.1.ev = S.ev /\ E.1.gl = S.gl /\ E.1.used = S.used := by
        split at EM
        . subst EM; exact ⟨rfl, rfl, rfl, rfl, rfl⟩
        split at EM
        . subst EM; exact absurd rfl hb
        . subst EM; exact ⟨rfl, rfl, rfl, rfl, rfl⟩
      refine back0 hcl.1 (ev' := ev) (lk' := lk') ?_
      unfold yW
      rw [hcl.2.1, hcl.2.2.1, hcl.2.2.2.1, hcl.2.2.2.2]
      exact s7
  by_cases h11 : i.op = 11
  . obtain ⟨o, ho⟩ : ∃ o, o = xY i.sub (yY c.zD i.a) (yb c i) := ⟨_, rfl⟩
    have es : wH p world kept S c i = zbc S c i := by unfold wH; rw [if_neg h2, if_neg h3', if_neg h4, if_neg h5, if_neg h6, if_neg h7, if_neg h8, if_neg h9, if_neg h10, if_pos h11]
    unfold zbc at es
    rw [<- ho] at es
    refine zn2 h11 hL hn hco hw hrl s3 o ho fun h' lk' s' => ?_
    cases o with
    | none => rw [es]; exact ⟨rfl, back (S' := S) (c' := c) e s'⟩
    | some w =>
      rw [es]
      refine ⟨rfl, back (c' := { c with pt := if w.n = 0 then i.t else i.s }) (ev' := ev) (lk' := lk') ?_ s'⟩
      unfold zms
      show (S.calls.dropLast ++ [_]) = _
      rw [e, List.dropLast_concat]
  by_cases h12 : i.op = 12
  . have es : wH p world kept S c i = ve p kept S (yY c.zD i.a) := by unfold wH; rw [if_neg h2, if_neg h3', if_neg h4, if_neg h5, if_neg h6, if_neg h7, if_neg h8, if_neg h9, if_neg h10, if_neg h11, if_pos h12]
    refine zn3 h12 hn hco hw hrl s3 fun h' s' => ?_
    rw [es]
    have eF : ∀ (r : List Fr) (E : St × Bool), E.1.lk = S.lk -> E.1.ev = S.ev -> E.1.gl = S.gl -> E.1.used = S.used -> True := fun _ _ _ _ _ _ => trivial
    rcases List.eq_nil_or_concat ini with hini | ⟨in2, bk, hini⟩
    . subst hini
      have hfi : fi = [] := by cases fi with
        | nil => rfl
        | cons _ _ => simp at hl
      subst hfi
      obtain ⟨lo2, le2, s5, fr2⟩ := (s'.f [0, 1, 2, 8]).call (L2 := [pt b (yG p mb wb S ev lk gl cl kv), slc 111 1 cl (([] ++ [fb]).map xP), jt mb S.mem, frA p fb c])
      refine (zeh (kept := kept) s5 (by simpa using e) ok.mem.2 hblk.2 (yY c.zD i.a)).mono ?_
      rintro v h6 ⟨rfl, cl', s6⟩
      refine ⟨_, rfl, rfl, ?_⟩
      have s7 := fr2 _ _ s6
      obtain ⟨E, hE'⟩ : ∃ E, E = ve p kept S (yY c.zD i.a) := ⟨_, rfl⟩
      rw [<- hE'] at s7 ⊢
      have hcl : E.1.calls = [] /\ E.1.lk = S.lk /\ E.1.ev = S.ev /\ E.1.gl = S.gl /\ E.1.used = S.used := by
        rw [hE']; unfold ve
        rw [show S.calls = [c] by simpa using e]
        simp only [List.getLast?_singleton, List.dropLast_singleton, List.getLast?_nil]
        split <;> exact ⟨rfl, rfl, rfl, rfl, rfl⟩
      refine ⟨ev, lk, cl', [], by rw [hcl.1]; rfl, ?_⟩
      unfold yW
      rw [hcl.2.1, hcl.2.2.1, hcl.2.2.2.1, hcl.2.2.2.2, hcl.1]
      exact s7.zU 8
    . simp only [List.concat_eq_append] at hini
      subst hini
      rcases List.eq_nil_or_concat fi with rfl | ⟨fi2, fbb, hfi⟩
      . simp at hl
      simp only [List.concat_eq_append] at hfi
      subst hfi
      have hl2 : fi2.length = in2.length := by simpa using hl
      have hbm : bk ∈ S.calls := by rw [e]; simp
      obtain ⟨bi, hbi, hb10⟩ := ok.low bk (by rw [e, List.dropLast_concat]; simp)
      obtain ⟨bi2, hbi2, hbg⟩ := ok.at_ bk hbm
      have : bi2 = bi := by rw [hbi] at hbi2; exact (Option.some.inj hbi2).symm
      subst this
      have hwd : bi2.d < 100000 := by
        have := hbg.w
        unfold Go.Rtl.writesI Go.Rtl.wr at this
        rw [hb10] at this
        simpa using this
      rw [qv p fbb bk fi2 in2 hl2] at s'
      have s4 : Sat lo h' (yW p b mb wb world S ev lk gl cl kv wn ((fi2 ++ [fbb]) ++ [fb]) ++ frA p fb c :: frA p fbb bk :: zbT p fi2 in2) := s'.perm (List.Perm.append_left _ (List.Perm.cons _ (List.perm_append_comm (l₂ := [frA p fbb bk]))))
      obtain ⟨lo2, le2, s5, fr2⟩ := (s4.f [0, 1, 2, 8, 9]).call (L2 := [pt b (yG p mb wb S ev lk gl cl kv), slc 111 1 cl (((fi2 ++ [fbb]) ++ [fb]).map xP), jt mb S.mem, frA p fb c, frA p fbb bk])
      refine (zdW (hp.mono le2) s5 e hbi hK (by simp only [List.length_append, List.length_singleton] at hil; omega) (ok.fr bk hbm).1 hwd ok.mem.2 hblk.2 (yY c.zD i.a)).mono ?_
      rintro v h6 ⟨rfl, cl', s6⟩
      refine ⟨_, rfl, rfl, ?_⟩
      have s7 := fr2 _ _ s6
      obtain ⟨E, hE'⟩ : ∃ E, E = ve p kept S (yY c.zD i.a) := ⟨_, rfl⟩
      rw [<- hE'] at s7 ⊢
      have hcl : E.1.calls = in2 ++ [{ bk with zD := qY (Zb kept bk.zD) bi2.d (yY c.zD i.a), pt := bi2.s }] /\ E.1.lk = S.lk /\ E.1.ev = S.ev /\ E.1.gl = S.gl /\ E.1.used = S.used := by
        rw [hE']; unfold ve
        rw [e]
        simp only [List.getLast?_concat, List.dropLast_concat, hbi]
        exact ⟨trivial, trivial, trivial, trivial, trivial⟩
      refine ⟨ev, lk, cl', fi2 ++ [fbb], by rw [hcl.1]; simp [hl2], ?_⟩
      unfold yW
      rw [hcl.2.1, hcl.2.2.1, hcl.2.2.2.1, hcl.2.2.2.2, hcl.1, qv p fbb _ fi2 in2 hl2]
      have s8 := s7.f [0, 1, 2, 4, 5, 6, 7, 8, 3]
      refine s8.perm ?_
      simp only [List.cons_append, List.nil_append]
      refine List.Perm.cons _ (List.Perm.cons _ (List.Perm.cons _ (List.Perm.cons _ (List.Perm.cons _ (List.Perm.cons _ (List.Perm.cons _ (List.Perm.cons _ ?_)))))))
      exact (List.perm_append_comm (l₁ := [_]))
  by_cases h13 : i.op = 13
  . have es : wH p world kept S c i = (vP { ui S 1 (Xb world S.used) with used := S.used + 1 } c i (ofV (Xb world S.used)), true) := by unfold wH; rw [if_neg h2, if_neg h3', if_neg h4, if_neg h5, if_neg h6, if_neg h7, if_neg h8, if_neg h9, if_neg h10, if_neg h11, if_neg h12, if_pos h13]
    refine znT h13 ok.used.1 (by have := ok.used.2; omega) hwl hE hn hco hw hrl s3 fun h' ev' s' => ?_
    rw [es]; exact ⟨rfl, back (done { ui S 1 (Xb world S.used) with used := S.used + 1 } _ rfl) s'⟩
  by_cases h14 : i.op = 14
  . have es : wH p world kept S c i = (if (yY c.zD i.a).k = 1 then (vP (ui S 2 (yY c.zD i.a).n) c i v0, true) else (S, false)) := by unfold wH; rw [if_neg h2, if_neg h3', if_neg h4, if_neg h5, if_neg h6, if_neg h7, if_neg h8, if_neg h9, if_neg h10, if_neg h11, if_neg h12, if_neg h13, if_pos h14]
    refine zoh h14 hE hn hco hw hrl s3 (fun hk h' ev' s' => ?_) (fun hk h' s' => ?_)
    . rw [if_pos hk] at es; rw [es]; exact ⟨rfl, back (done (ui S 2 (yY c.zD i.a).n) _ rfl) s'⟩
    . rw [if_neg hk] at es; rw [es]; exact ⟨rfl, back0 rfl s'⟩
  have es : wH p world kept S c i = (vP S c i v0, true) := by unfold wH; rw [if_neg h2, if_neg h3', if_neg h4, if_neg h5, if_neg h6, if_neg h7, if_neg h8, if_neg h9, if_neg h10, if_neg h11, if_neg h12, if_neg h13, if_neg h14]
  refine zlb (fun k k2 k14 hk => ?_) hn hco hw hrl s3 fun h' s' => ?_
  . have : k = 2 \/ k = 3 \/ k = 4 \/ k = 5 \/ k = 6 \/ k = 7 \/ k = 8 \/ k = 9 \/ k = 10 \/ k = 11 \/ k = 12 \/ k = 13 \/ k = 14 := by omega
    omega
  . rw [es]; exact ⟨rfl, back (done S _ rfl) s'⟩
end
end Go.Rm
namespace Go.Rm
open Go.Ai Go.Proofs Go.Mem
open Go.Rtl (Ins Pg writesI PgOk FnOk InsOk SliceI SliceR Old inc)
set_option linter.unusedVariables false
set_option linter.unusedSimpArgs false
set_option maxRecDepth 10000
section
variable {lo : Low} {h : za} {L : List HP} {ty : TypeId} {n : Nat} {sv : Value} {rows : List (List Value)}
theorem ziz (s : Sat lo h (slc ty n sv rows :: L)) (hn : ∀ r, r ∈ rows -> r.length = n) (rows2 : List (List Value)) (hn2 : ∀ r, r ∈ rows2 -> r.length = n) (bz : Nat) (hb : (rows.length + rows2.length) * bz <= 2 ^ 47) (hne : rows2 ≠ []) :
    ∃ b' c' h', KU h ty n bz rows2.length rows2.flatten sv = some (.slice (some ⟨b', 0, none⟩) (rows.length + rows2.length) c', h') /\ Sat lo h' (slc ty n (.slice (some ⟨b', 0, none⟩) (rows.length + rows2.length) c') (rows ++ rows2) :: L) := by
  have hn3 : ∀ r, r ∈ rows ++ rows2 -> r.length = n := fun r q => by
    rcases List.mem_append.1 q with q | q
    . exact hn r q
    . exact hn2 r q
  have hlen : (rows ++ rows2).length = rows.length + rows2.length := by simp
  have h0 : ¬ rows2.length = 0 := fun e => hne (List.length_eq_zero_iff.1 e)
  rcases w8 s with ⟨rfl, rfl, s'⟩ | ⟨b, c, cs, rfl, hc, hl, hf, s⟩
  . refine ⟨h.next, 1, h.push (.cells rows2.flatten ty), ?_, ?_⟩
    . simp only [KU]
      rw [if_neg h0, if_pos (by simp at hb; omega)]; simp
    . have q := YV (cs := rows2.flatten) (rows := [] ++ rows2) (c := 1) (by decide) hn3 (by simp) (s'.push (.cells rows2.flatten ty))
      rw [hlen] at q
      exact q
  . have hroom : roomFor c (rows.length + rows2.length) bz = true := by
      unfold roomFor
      cases Nat.beq c 2 <;> simp only [cond_true, cond_false, Nat.ble_eq] <;> omega
    refine ⟨h.next, wk c (rows.length + rows2.length), (h.set b none).push (.cells (((cs.drop 0).take (rows.length * n)) ++ rows2.flatten) ty), ?_, ?_⟩
    . simp only [KU, s.get]
      rw [if_neg h0, if_pos ⟨hc, trivial, s.wr, by omega, hroom, by simp⟩]
    . have q := YV (rows := rows ++ rows2) (c := wk c (rows.length + rows2.length)) (zdS _ _) hn3 (by rw [List.drop_zero, hf, List.flatten_append]) ((s.forget none).push (.cells (((cs.drop 0).take (rows.length * n)) ++ rows2.flatten) ty))
      rw [hlen] at q
      exact q
end
theorem zdh {h : za} {sv : Value} {zs : List Int} (S : SliceI h sv zs) : SliceR h sv 1 (zs.map x9) := by
  rcases S with ⟨e, e2⟩ | ⟨b, off, cp, rfl, hc⟩
  . exact .inl ⟨e, by rw [e2]; rfl⟩
  . refine .inr ⟨b, off, cp, by rw [List.length_map], fun hz => ?_⟩
    obtain ⟨c, t, hb, hg, hat⟩ := hc (by simpa using hz)
    refine ⟨c, t, hb, hg, fun i r hr => ?_⟩
    rw [List.getElem?_map] at hr
    cases hz : zs[i]? with
    | none => rw [hz] at hr; cases hr
    | some z =>
      rw [hz] at hr
      cases hr
      have := hat i z hz
      have hlt : off + i < c.length := by
        rcases Nat.lt_or_ge (off + i) c.length with q | q
        . exact q
        . rw [List.getElem?_eq_none q] at this; cases this
      refine ⟨by omega, ?_⟩
      rw [Nat.mul_one, List.drop_eq_getElem_cons hlt]
      rw [List.getElem?_eq_getElem hlt] at this
      rw [Option.some.inj this]
      rfl
section
variable {lo : Low} {h : za} {L : List HP} {wv : Value} {world : List Int}
theorem zkL (hw : SliceI h wv world) (hl : world.length * 8 <= 2 ^ 47) (s : Sat lo h L) : DC Tryd.prog 43 [wv] h (fun v h' => zV v = false /\ cellOk v = true /\ Sat lo h' (slc 2 1 v (world.map x9) :: L)) := by
  apply zaP
  unfold Ja
  have SR := zdh hw
  rcases hw with ⟨rfl, rfl⟩ | ⟨b, off, cp, rfl, hc⟩
  . simp -implicitDefEqProofs only [EE, zkJ]
    exact qR _ _ s
  . simp -implicitDefEqProofs only [EE, ziM, znn]
    have s1 := s.push (.cells [] 2)
    have s2 : Sat lo (h.push (.cells [] 2)) (slc 2 1 (.slice (some ⟨h.next, 0, none⟩) 0 2) [] :: L) := YV (rows := []) (c := 2) (by decide) (by simp) (by simp) s1
    have hap : ∀ r, zg Tryd.prog .append [26, 26] r [.slice (some ⟨h.next, 0, none⟩) 0 2, .slice (some ⟨b, off, none⟩) world.length cp] (h.push (.cells [] 2)) = KU (h.push (.cells [] 2)) 2 1 8 world.length (world.map x9).flatten (.slice (some ⟨h.next, 0, none⟩) 0 2) := fun r => by
      have f := (SR.old (Old.push h (.cells [] 2))).first (by decide) (row_of (f := x9) (fun _ => rfl) world)
      rw [List.length_map] at f
      exact zoo r _ _ world.length _ _ rfl f (by simp [x9, List.all_flatten]; exact fun _ _ => rfl) (by rw [Go.Rtl.flat_len (row_of (f := x9) (fun _ => rfl) world), List.length_map])
    by_cases h0 : world = []
    . subst h0
      have : KU (h.push (.cells [] 2)) 2 1 8 ([] : List Int).length (([] : List Int).map x9).flatten (.slice (some ⟨h.next, 0, none⟩) 0 2) = some (.slice (some ⟨h.next, 0, none⟩) 0 2, h.push (.cells [] 2)) := rfl
      simp -implicitDefEqProofs only [EE]
      first | exact s2 | exact ⟨rfl, rfl, s2⟩ | exact ⟨rfl, rfl, rfl, s2⟩
    . obtain ⟨b', c', h3, a1, s3⟩ := ziz s2 (by simp) (world.map x9) (row_of (f := x9) (fun _ => rfl) world) 8 (by simp; omega) (by simpa using h0)
      rw [List.length_map] at a1 s3
      simp -implicitDefEqProofs only [EE, hap, a1]
      rw [List.length_nil, Nat.zero_add, List.nil_append] at s3
      first | exact s3 | exact ⟨rfl, rfl, s3⟩
theorem zmN (hw : SliceI h wv world) (hl : world.length * 8 <= 2 ^ 47) (s : Sat lo h L) : DC Tryd.prog 29 [wv] h (fun v h' => ∃ wb wn, v = xF wb /\ Sat lo h' (pt wb (.cells [wn, .int .i64 0] 100) :: slc 2 1 wn (world.map x9) :: L)) := by
  apply zgh
  unfold zjZ
  refine zJ (by kernel_rfl) (by simp only [yH, hw.nob, cond_false]) (zkL hw hl s) ?_
  rintro v h1 ⟨n1, c1, s1⟩
  obtain ⟨a, c, rfl⟩ := VJ s1
  rw [List.length_map] at s1
  simp -implicitDefEqProofs only [EE, Value.cells, zic]
  refine ZO s1 fun wb h2 s2 => ?_
  simp -implicitDefEqProofs only [EE]
  exact ⟨wb, _, rfl, s2⟩
end
end Go.Rm
namespace Go.Rm
open Go.Ai Go.Proofs Go.Mem
open Go.Rtl (Ins Pg writesI)
set_option linter.unusedVariables false
set_option linter.unusedSimpArgs false
set_option maxRecDepth 20000
theorem zdY {M : MM} {B : MB} (h : small M) (hb : B.size < 2147483648) : small (M ++ [B]) := fun i C hC => by
  rw [List.getElem?_append] at hC
  split at hC
  . exact h i C hC
  . cases hq : i - M.length with
    | zero => rw [hq] at hC; simp at hC; subst hC; exact hb
    | succ k => rw [hq] at hC; simp at hC
def vb (v : V) : Prop := ZR v.b
theorem WB : ZR 0 := ⟨by decide, by decide⟩
theorem zeY : vb v0 := WB
theorem zd0 (n : Int) : vb (ofV n) := WB
theorem zgu {b n : Int} (h : ZR b) : vb (atV b n) := by
  unfold atV; split
  . exact WB
  . exact h
theorem zdA (t : Bool) : vb (jn t) := by unfold jn; split <;> exact WB
theorem zm1 {c : Prop} [Decidable c] {x y : Option V} {v : V} (hx : x = some v -> vb v) (hy : y = some v -> vb v) : (if c then x else y) = some v -> vb v := by
  intro h
  by_cases hc : c
  . rw [if_pos hc] at h; exact hx h
  . rw [if_neg hc] at h; exact hy h
theorem zkQ {op a b : Int} {v : V} (h : uB op a b = some v) : vb v := by
  revert h
  unfold uB
  repeat' apply zm1
  all_goals intro h
  all_goals first
    | (cases h; done)
    | (have e := Option.some.inj h; rw [<- e]; first | exact zd0 _ | exact zdA _)
theorem zju {op : Int} {a b v : V} (ha : vb a) (hb : vb b) (h : xY op a b = some v) : vb v := by
  unfold xY at h
  split at h
  . exact zkQ h
  split at h
  . simp only [Option.some.injEq] at h; subst h; exact zgu ha
  split at h
  . simp only [Option.some.injEq] at h; subst h; exact zgu hb
  split at h
  . simp only [Option.some.injEq] at h; subst h; exact zgu ha
  split at h
  . unfold wy at h
    split at h
    . simp only [Option.some.injEq] at h; subst h; exact zdA _
    . cases h
  . cases h
theorem znD {op : Int} {a v : V} (h : unM op a = some v) : vb v := by
  unfold unM at h
  repeat' (split at h)
  all_goals first
    | (cases h; done)
    | (simp only [Option.some.injEq] at h; subst h; exact zd0 _)
theorem zme {l : List V} (h : ∀ v, v ∈ l -> vb v) (r : Int) : vb (yY l r) := by
  unfold yY; split
  . exact zeY
  . rw [List.getD_eq_getElem?_getD]
    cases e : l[r.toNat]? with
    | none => exact zeY
    | some v => exact h v (List.mem_of_getElem? e)
theorem zjT {l : List V} (h : ∀ v, v ∈ l -> vb v) (r : Int) {w : V} (hw : vb w) : ∀ v, v ∈ qY l r w -> vb v := by
  intro v hv
  unfold qY at hv
  split at hv
  . exact h v hv
  . rcases List.mem_or_eq_of_mem_set hv with q | rfl
    . rcases List.mem_append.1 q with q | q
      . exact h v q
      . rw [List.eq_of_mem_replicate q]; exact zeY
    . exact hw
theorem KJ : ∀ (ps : List Int) (al l : List V), (∀ v, v ∈ al -> vb v) -> (∀ v, v ∈ l -> vb v) -> ∀ v, v ∈ w7 ps al l -> vb v
  | [], al, l, _, h => by cases al <;> exact h
  | p :: ps, [], l, _, h => h
  | p :: ps, a :: al, l, ha, h => KJ ps al _ (fun v hv => ha v (by simp [hv])) (zjT h p (ha a (by simp)))
theorem zkO (kept : Option (Int -> Bool)) {l : List V} (h : ∀ v, v ∈ l -> vb v) : ∀ v, v ∈ Zb kept l -> vb v := by
  intro v hv
  cases kept with
  | none => exact h v hv
  | some K =>
    unfold Zb at hv
    simp only [List.mem_map] at hv
    obtain ⟨k, _, rfl⟩ := hv
    split
    . rw [List.getD_eq_getElem?_getD]
      cases e : l[k]? with
      | none => exact zeY
      | some w => exact h w (List.mem_of_getElem? e)
    . exact zeY
theorem ziy (kept : Option (Int -> Bool)) (l : List V) : (Zb kept l).length = l.length := by
  cases kept with
  | none => rfl
  | some K => simp [Zb]
def U4 (M : MM) : Prop := small M /\ M.length <= 100000 /\ ∀ (i : Nat) B, M[i]? = some B -> ∀ a, vb (B.byte a).p
theorem zgf {M : MM} {c : Int} {p v : V} (h : U4 M) (e : jr M c p = some v) : vb v := by
  unfold jr at e
  split at e
  . cases e
  . rename_i i hi
    simp only [Option.map_eq_some_iff] at e
    obtain ⟨B, hB, rfl⟩ := e
    unfold QZ
    split
    . exact WB
    split
    . exact h.2.2 i B hB _
    . exact zeY
theorem QW {M : MM} {i : Nat} {B : MB} (h : U4 M) (hs : B.size < 2147483648) (hp : ∀ a, vb (B.byte a).p) : U4 (M.set i B) := by
  refine ⟨fun j C hC => ?_, by rw [List.length_set]; exact h.2.1, fun j C hC a => ?_⟩
  . rw [List.getElem?_set] at hC
    split at hC
    . split at hC
      . cases hC; exact hs
      . cases hC
    . exact h.1 j C hC
  . rw [List.getElem?_set] at hC
    split at hC
    . split at hC
      . cases hC; exact hp a
      . cases hC
    . exact h.2.2 j C hC a
theorem zem {M M' : MM} {c : Int} {p v : V} (h : U4 M) (hv : vb v) (e : uC M c p v = some M') : U4 M' := by
  unfold uC at e
  split at e
  . cases e
  split at e
  . cases e
  . rename_i i hi
    simp only [Option.map_eq_some_iff] at e
    obtain ⟨B, hB, rfl⟩ := e
    refine QW h (h.1 i B hB) fun a => ?_
    show vb ((if _ then cellOf (norm v) _ else B.byte a).p)
    split
    . unfold cellOf norm
      repeat' split
      all_goals first | exact hv | exact zeY
    . exact h.2.2 i B hB a
theorem Je {M : MM} {n : Int} (h : U4 M) : U4 ((qz M n).getD M) := by
  cases e : qz M n with
  | none => exact h
  | some M' =>
    unfold qz at e
    simp only [Option.bind_eq_some_iff, Option.map_eq_some_iff] at e
    obtain ⟨i, hi, B, hB, rfl⟩ := e
    exact QW h (h.1 i B hB) fun a => zeY
theorem zfK {M : MM} {n : Int} (h : U4 M) : U4 ((XL M n).getD M) := by
  cases e : XL M n with
  | none => exact h
  | some M' =>
    unfold XL at e
    simp only [Option.bind_eq_some_iff, Option.map_eq_some_iff] at e
    obtain ⟨i, hi, B, hB, rfl⟩ := e
    refine QW h (h.1 i B hB) fun a => ?_
    show vb ((if a < _ then zc else B.byte a).p)
    split
    . exact zeY
    . exact h.2.2 i B hB a
theorem ZD {M : MM} (n : Int) (h : U4 M) : U4 (yK M n).1 /\ ZR (yK M n).2.1 := by
  unfold yK
  split
  . exact ⟨h, WB⟩
  split
  . exact ⟨h, WB⟩
  . refine ⟨⟨?_, by simp; omega, fun i B hB a => ?_⟩, ?_⟩
    . exact zdY h.1 (by show n.toNat < _; omega)
    . rw [List.getElem?_append] at hB
      split at hB
      . exact h.2.2 i B hB a
      . cases hq : i - M.length with
        | zero => rw [hq] at hB; simp at hB; subst hB; exact zeY
        | succ k => rw [hq] at hB; simp at hB
    . show ZR ((M.length : Int) + 1); constructor <;> omega
end Go.Rm
