/-
  THE ABSTRACT INTERPRETER: code and calls on abstract heaps, by fuel. It draws nothing.
-/
import Derived.Test.YtpilbfkinpbnoaaAiDraw4
import Derived.Test.YtpilbfkinpbnoaaAiRound
set_option linter.unusedVariables false
namespace Go.Ai
noncomputable section

inductive Task where
  | code (rd : Option Nat) (c : Code) (s : Env)
  | call (f : FuncId) (args : List Value)
inductive Out where
  | ex (e : Ex) (s : Env)
  | val (v : Value)
abbrev Runs := Task → AHeap → Option (Out × AHeap)

/-- The blocks of another heap that are new there. -/
def graft (h h2 : AHeap) : AHeap := @AHeap.rec (fun _ => AHeap) (fun t n r => @AHeap.rec (fun _ => AHeap) (fun t2 n2 _ => ⟨(List.range' n (n2 - n)).foldl (fun t b => t.set b (t2.get b)) t, n2, r⟩) h2) h
/-- A call by the function's kind: 1: any; 2: it writes nothing that was there, and its answer names no block; 3: it writes nothing that was there. -/
def callF (cls : List Nat) (rec : Runs) (g : FuncId) (args : List Value) (h : AHeap) : Option (Value × AHeap) :=
  match cls.getD g 0 with
  | 1 => (match rec (.call g args) h with
    | some (.val v, h') => some (v, h')
    | _ => none)
  | 2 => (match rec (.call g args) h.lock with
    | some (.val v, _) => cond (scal v) (some (v, h)) none
    | _ => none)
  | 3 => (match rec (.call g args) h.lock with
    | some (.val v, h2) => some (v, graft h h2)
    | _ => none)
  | _ => none
def isNorm : Ex → Bool
  | .normal => true
  | _ => false
def isReady : LoopState → Bool
  | .ready => true
  | _ => false
def notBusy : LoopState → Bool
  | .busy => false
  | _ => true
/-- A round of a loop over a function. -/
def roundF (rec : Runs) (L : Nat) (args : List Value) (h : AHeap) : Option (Value × AHeap) :=
  match h.get L with
  | some (.loop A) => (match roundEnv A.params.toList args A.s with
    | some s0 => (match rec (.code (some L) A.assign s0) h with
      | some (.ex .normal s1, h1) => (match h1.get L with
        | some (.loop A1) => cond (isReady A1.state && Nat.ble h1.ro L)
            (match rec (.code (some L) A.body s1) (h1.set L (some (.loop { A1 with state := .busy }))) with
              | some (.ex e _, h2) => (match h2.get L with
                | some (.loop A2) => cond (Nat.ble h2.ro L) (some (.bool (isNorm e), h2.set L (some (.loop (A2.left e))))) none
                | _ => none)
              | _ => none) none
        | _ => none)
      | _ => none)
    | none => none)
  | _ => none
def exOf : Option Code → Option Ex
  | none => some .normal
  | some .ret => some .ret
  | some (.exit id) => some (.exit id)
  | _ => none
/-- A loop over a function. -/
def rangeF (cls : List Nat) (rec : Runs) (rd : Option Nat) (f : Option Value) (params : Array Tmp) (as bd : Code) (s : Env) (h : AHeap) : Option (Ex × AHeap) :=
  match f with
  | some (.func (.func g) fa fc) => cond (Nat.beq (cls.getD g 0) 1 && (match rd with
      | none => true
      | some L0 => (match h.get L0 with
        | some (.loop _) => true
        | _ => false)))
      (match rec (.call g (fa.toList ++ [.func (.yield h.next) #[] #[]] ++ fc.toList)) (h.push (.loop { state := .ready, pending := none, s := s, params := params, assign := as, body := bd })) with
        | some (.val _, h1) => (match h1.get h.next with
          | some (.loop A) => cond (notBusy A.state && Nat.ble h1.ro h.next)
              (match exOf A.pending with
                | some e => some (e, h1.set h.next none)
                | none => none) none
          | _ => none)
        | _ => none) none
  | _ => none
def evalOp (P : Program) (cls : List Nat) (rec : Runs) (s : Env) (o : Oper) (h : AHeap) : Option (Value × AHeap) :=
  match o.op with
  | .call { callee := .value f, args, argTypes } => (match aev s f, aevs s args.toList with
    | some (.func (.func g) fa fc), some vs => cond (Nat.beq (cls.getD g 0) 0) (aext P g (fa.toList ++ vs ++ fc.toList) h) (callF cls rec g (fa.toList ++ vs ++ fc.toList) h)
    | some (.func (.yield L) fa fc), some vs => cond (Nat.beq fa.size 0 && Nat.beq fc.size 0) (roundF rec L vs h) none
    | _, _ => none)
  | _ => aop P s o h

/-! ### A region in its order -/
def runOps (P : Program) (cls : List Nat) (rec : Runs) (ops : Array Oper) : List Oper → Env → AHeap → Option (Env × AHeap)
  | [], s, h => some (s, h)
  | o :: os, s, h =>
    cond (awanted ops s o)
      (match evalOp P cls rec s o h with
        | some (v, h1) => (match s.put o.dst v with
          | some s1 => runOps P cls rec ops os s1 h1
          | none => none)
        | none => none)
      (match s.put o.dst undef with
        | some s1 => runOps P cls rec ops os s1 h
        | none => none)

/-! ### A region that draws its order -/
/-- What is kept of an operation: DRec, the blocks that it touches as a list ('all': more than the list tells), and the blocks that it looks at as a list (if 'ex'). -/
structure FRec where
  r : DRec
  tcl : List Nat
  all : Bool
  light : Bool
  rdl : List Nat
  ex : Bool
def maskOf (ms : List Nat) (o : Oper) : Nat := o.after.toList.foldl (fun m e => cond (Region.binds .any e) (m ||| (1 <<< e.on) ||| ms.getD e.on 0) m) 0
/-- The slots that an operation looks at. -/
def looksOf (ops : Array Oper) (o : Oper) : List Nat := o.looksAt ops
/-- Two operations that write no slot that the other looks at or writes. -/
def slotsFree (ops : Array Oper) (x y : Oper) : Bool :=
  (match x.dst with
    | none => true
    | some d => !(y.looksAt ops).contains d && !(decide (y.dst = some d))) &&
  (match y.dst with
    | none => true
    | some d => !(x.looksAt ops).contains d)
def heapFree (x y : FRec) : Bool :=
  cond x.all (y.light || (y.ex && !y.all && y.rdl.all (fun b => !x.r.tc b) && y.tcl.all (fun b => !x.r.tc b))) (x.tcl.all fun b => !y.r.rd b && !y.r.tc b) &&
  cond y.all (x.light || (x.ex && x.rdl.all fun b => !y.r.tc b)) (y.tcl.all fun b => !x.r.rd b)
/-- What is asked of a region's text alone: its edges lead back; what no edge orders shares no slot. -/
def statGo (ops : Array Oper) : List Oper → Nat → List Nat → List (Nat × Oper) → Bool
  | [], _, _, _ => true
  | o :: os, i, ms, prev =>
    (o.after.toList.all fun e => !(Region.binds .any e) || Nat.blt e.on i) && (prev.all fun x => (maskOf ms o).testBit x.1 || slotsFree ops x.2 o) && statGo ops os (i + 1) (ms ++ [maskOf ms o]) ((i, o) :: prev)
/-- The blocks that a value names by itself. -/
def blkOf : Value → List Nat
  | .pointer (some a) => [a.block]
  | .slice (some a) _ _ => [a.block]
  | .map (some b) => [b]
  | _ => []
def needsHeap : Op → Bool
  | .call { callee := .builtin .cap, .. } | .call { callee := .builtin .min, .. } | .call { callee := .builtin .max, .. } | .call { callee := .builtin .unsafeSliceData, .. } => false
  | .move _ | .assign _ | .pick _ _ _ | .alloc _ | .box _ _ | .build _ _ | .nilCheck _ | .binOp _ _ _ _ _ | .unOp _ _ _ | .makeInterface _ _ | .makeFunc _ _ _ | .fieldAddr _ _ _ | .field _ _ _ | .indexAddr _ _ _ | .index _ _ _ | .extract _ _ => false
  | _ => true
/-- A block, and the map that it is an iterator over. -/
def behindIter (h : AHeap) (b : Nat) : List Nat :=
  match h.get b with
  | some (.iter (some m) _ _ _) => [b, m]
  | _ => [b]
def opBlks (s : Env) (o : Oper) (h : AHeap) : List Nat := cond (needsHeap o.op) ((o.op.operands.toList.flatMap fun x => (match aev s x with | some v => blkOf v | none => [])).flatMap (behindIter h)) []
/-- Some blocks of a heap alone. -/
def AHeap.pick (h : AHeap) (l : List Nat) : AHeap := @AHeap.rec (fun _ => AHeap) (fun t0 n r => ⟨l.foldl (fun t b => t.set b (t0.get b)) .e, n, r⟩) h
/-- A heap without some blocks. -/
def AHeap.hide (h : AHeap) (l : List Nat) : AHeap := @AHeap.rec (fun _ => AHeap) (fun t0 n r => ⟨l.foldl (fun t b => t.set b none) t0, n, r⟩) h
/-- One heap's blocks, where a list names them, put into another. -/
def AHeap.mend (h g : AHeap) (l : List Nat) : AHeap := @AHeap.rec (fun _ => AHeap) (fun t0 _ r => @AHeap.rec (fun _ => AHeap) (fun t1 n _ => ⟨l.foldl (fun t b => t.set b (t1.get b)) t0, n, r⟩) g) h
/-- A heap with blocks of another one put back. -/
def AHeap.unhide (h' h : AHeap) (l : List Nat) : AHeap := @AHeap.rec (fun _ => AHeap) (fun t0 n r => ⟨l.foldl (fun t b => t.set b (h.get b)) t0, n, r⟩) h'
/-- The blocks that later operations name, those aside that come behind in every order. -/
def aheadOf (s : Env) (dsts : List Nat) : List Oper → Nat → Nat → List Nat
  | [], _, _ => []
  | o :: os, j, desc => cond (o.after.toList.any fun e => Region.binds .any e && desc.testBit e.on)
      (aheadOf s dsts os (j + 1) (desc ||| (1 <<< j)))
      ((cond (needsHeap o.op) (o.op.operands.toList.flatMap fun x => (match x with
        | .tmp t => cond (dsts.contains t) [] (blkOf (s.get t))
        | _ => [])) []) ++ aheadOf s dsts os (j + 1) desc)
def quietB : Builtin → Bool
  | .len | .cap | .min | .max | .unsafeSliceData => true
  | _ => false
def isWrite : Op → Bool
  | .call { callee := .builtin b, .. } => !quietB b
  | .store _ _ _ => true
  | .mapUpdate _ _ _ _ => true
  | .next _ _ => true
  | .call _ => true
  | _ => false
/-- The operation, with what it may look at and what it touches, and the heap behind it. -/
def drawOp (P : Program) (cls : List Nat) (rec : Runs) (ops : Array Oper) (recs : List FRec) (mask i : Nat) (os : List Oper) (o : Oper) (s : Env) (h : AHeap) : Option (FRec × AHeap) :=
  cond (awanted ops s o)
    (match o.op with
      | .call { callee := .value f, args, argTypes } => (match aev s f, aevs s args.toList with
        | some (.func (.func g) fa fc), some vs =>
          (match cls.getD g 0 with
            | 1 =>
              let hid := ((recs.flatMap fun x => cond (mask.testBit x.r.j) [] (x.tcl ++ x.rdl)) ++ aheadOf s ((o :: os).filterMap (·.dst)) os (i + 1) (1 <<< i)).filter fun b => Nat.blt b h.next
              (match rec (.call g (fa.toList ++ vs ++ fc.toList)) (h.hide hid) with
                | some (.val v, h') => some (⟨⟨i, o, v, s, h.hide hid, h', fun b => Nat.blt b h.next && !hid.contains b, fun b => Nat.blt b h'.next && !hid.contains b⟩, [], true, false, [], false⟩, h'.unhide h hid)
                | _ => none)
            | 2 =>
              let hid := recs.flatMap fun x => cond (mask.testBit x.r.j) [] x.tcl
              (match rec (.call g (fa.toList ++ vs ++ fc.toList)) (h.hide hid).lock with
                | some (.val v, _) => cond (scal v) (some (⟨⟨i, o, v, s, h.hide hid, h.hide hid, fun b => Nat.blt b h.next && !hid.contains b, fun _ => false⟩, [], false, false, [], false⟩, h)) none
                | _ => none)
            | 3 =>
              let hid := recs.flatMap fun x => cond (mask.testBit x.r.j) [] x.tcl
              (match rec (.call g (fa.toList ++ vs ++ fc.toList)) (h.hide hid).lock with
                | some (.val v, h2) =>
                  let new := List.range' h.next (h2.next - h.next)
                  some (⟨⟨i, o, v, s, h.hide hid, graft (h.hide hid) h2, fun b => Nat.blt b h.next && !hid.contains b, fun b => new.contains b⟩, new, false, false, [], false⟩, graft h h2)
                | _ => none)
            | _ => (match aext P g (fa.toList ++ vs ++ fc.toList) (h.pick []) with
              | some (v, g') =>
                let new := List.range' h.next (g'.next - h.next)
                some (⟨⟨i, o, v, s, h.pick [], g', fun _ => false, fun b => new.contains b⟩, new, false, new.isEmpty, [], true⟩, h.mend g' new)
              | none => none))
        | _, _ => none)
      | _ =>
        let bs := opBlks s o h
        (match aop P s o (h.pick bs) with
          | some (v, g') =>
            let new := List.range' h.next (g'.next - h.next)
            let tcl := cond (isWrite o.op) (bs ++ new) new
            some (⟨⟨i, o, v, s, h.pick bs, g', fun b => bs.contains b, fun b => tcl.contains b⟩, tcl, false, bs.isEmpty && tcl.isEmpty, bs, true⟩, h.mend g' tcl)
          | none => none))
    (some (⟨⟨i, o, undef, s, h.pick [], h.pick [], fun _ => false, fun _ => false⟩, [], false, true, [], true⟩, h))
def drawGo (P : Program) (cls : List Nat) (rec : Runs) (ops : Array Oper) : List Oper → Nat → List Nat → List FRec → Env → AHeap → Option (Env × AHeap)
  | [], _, _, _, s, h => some (s, h)
  | o :: os, i, ms, recs, s, h =>
    (match drawOp P cls rec ops recs (maskOf ms o) i os o s h with
      | some (y, h1) => cond (y.light || recs.all fun x => heapFree x y || (maskOf ms o).testBit x.r.j)
          (match s.put o.dst y.r.v with
            | some s1 => drawGo P cls rec ops os (i + 1) (ms ++ [maskOf ms o]) (y :: recs) s1 h1
            | none => none) none
      | none => none)

/-! ### Code -/
def body (P : Program) (cls : List Nat) (rec : Runs) : Task → AHeap → Option (Out × AHeap)
  | .call f args, h => (match P.funcs[f]? with
    | none => none
    | some fn => (match fn.body with
      | none => none
      | some c => (match rec (.code none c (Env.enter args fn.ntmps)) h with
        | some (.ex .normal s1, h1) => (match aresults P s1 h1 fn.results.toList with
          | some vs => some (.val (aresult vs), h1)
          | none => none)
        | some (.ex .ret s1, h1) => (match aresults P s1 h1 fn.results.toList with
          | some vs => some (.val (aresult vs), h1)
          | none => none)
        | _ => none)))
  | .code rd c s, h => (match c with
    | .skip => some (.ex .normal s, h)
    | .label _ => some (.ex .normal s, h)
    | .exit id => some (.ex (.exit id) s, h)
    | .ret => some (.ex .ret s, h)
    | .seq a b => (match rec (.code rd a s) h with
      | some (.ex .normal s1, h1) => rec (.code rd b s1) h1
      | r => r)
    | .cond x a b => (match aev s x with
      | some (.bool true) => rec (.code rd a s) h
      | some (.bool false) => rec (.code rd b s) h
      | _ => none)
    | .block id a => (match rec (.code rd a s) h with
      | some (.ex (.exit id') s1, h1) => cond (Nat.beq id' id) (some (.ex .normal s1, h1)) (some (.ex (.exit id') s1, h1))
      | r => r)
    | .scope a => rec (.code rd a s) h
    | .loop a => (match rec (.code rd a s) h with
      | some (.ex .normal s1, h1) => rec (.code rd (.loop a) s1) h1
      | r => r)
    | .region _ ops draw => cond draw
        (cond (statGo ops ops.toList 0 [] []) (match drawGo P cls rec ops ops.toList 0 [] [] s h with
          | some (s1, h1) => some (.ex .normal s1, h1)
          | none => none) none)
        (match runOps P cls rec ops ops.toList s h with
          | some (s1, h1) => some (.ex .normal s1, h1)
          | none => none)
    | .rangeFunc f params as bd => (match rangeF cls rec rd (aev s f) params as bd s h with
      | some (e, h1) => some (.ex e s, h1)
      | none => none)
    | _ => none)
/-- The interpreter. -/
def run (P : Program) (cls : List Nat) (n : Nat) : Runs := Nat.rec (fun _ _ => none) (fun _ rec => body P cls rec) n
theorem run_zero (P : Program) (cls : List Nat) (t : Task) (h : AHeap) : run P cls 0 t h = none := rfl
theorem run_succ (P : Program) (cls : List Nat) (n : Nat) (t : Task) (h : AHeap) : run P cls (n + 1) t h = body P cls (run P cls n) t h := rfl

end
end Go.Ai
