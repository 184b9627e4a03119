/-
  THE MACHINE's STEPS in a frame that may be a loop body's round and may have marks among its deferred calls.
-/
import Derived.Test.YtpilbfkinpbnoaaAiOps8
namespace Go.Ai
noncomputable section
variable {P : Program}

def fat (b : Frame) (tm : Array Value) (ds : List Deferred) (todo : List Item) : Frame :=
  { fn := b.fn, tmps := tm, todo, defers := ds, mode := .run, kind := b.kind, roundOf := b.roundOf }
theorem fat_eval (b : Frame) (tm : Array Value) (ds : List Deferred) (todo : List Item) : (fat b tm ds todo).eval = (Act.eval ⟨tm, ds⟩) := by
  funext x; cases x <;> rfl
section moves
variable {b : Frame} {tm : Array Value} {ds : List Deferred} {k : List Item} {cs : List Frame} {w : World}
theorem fstep_skip : step P (lone (fat b tm ds (.code .skip :: k)) cs w) = .next (lone (fat b tm ds k) cs w) := step_lone_go (by simp [stepG, stepG.exec, fat])
theorem fstep_label {l : Nat} : step P (lone (fat b tm ds (.code (.label l) :: k)) cs w) = .next (lone (fat b tm ds k) cs w) := step_lone_go (by simp [stepG, stepG.exec, fat])
theorem fstep_inBlock {id : Nat} : step P (lone (fat b tm ds (.inBlock id :: k)) cs w) = .next (lone (fat b tm ds k) cs w) := step_lone_go (by simp [stepG, stepG.exec, fat])
theorem fstep_inScope {c : Code} : step P (lone (fat b tm ds (.inScope c :: k)) cs w) = .next (lone (fat b tm ds k) cs w) := step_lone_go (by simp [stepG, stepG.exec, fat])
theorem fstep_seq {x y : Code} : step P (lone (fat b tm ds (.code (.seq x y) :: k)) cs w) = .next (lone (fat b tm ds (.code x :: .code y :: k)) cs w) := step_lone_go (by simp [stepG, stepG.exec, fat])
theorem fstep_cond {c : Operand} {x y : Code} {t : Bool} (h : Act.eval ⟨tm, ds⟩ c = .bool t) : step P (lone (fat b tm ds (.code (.cond c x y) :: k)) cs w) = .next (lone (fat b tm ds (.code (if t then x else y) :: k)) cs w) :=
  step_lone_go (by
    have := congrFun (fat_eval b tm ds (.code (.cond c x y) :: k)) c
    simp only [fat] at this
    simp [stepG, stepG.exec, fat, this, h])
theorem fstep_block {id : Nat} {c : Code} : step P (lone (fat b tm ds (.code (.block id c) :: k)) cs w) = .next (lone (fat b tm ds (.code c :: .inBlock id :: k)) cs w) := step_lone_go (by simp [stepG, stepG.exec, fat])
theorem fstep_scope {c : Code} : step P (lone (fat b tm ds (.code (.scope c) :: k)) cs w) = .next (lone (fat b tm ds (.code c :: .inScope c :: k)) cs w) := step_lone_go (by simp [stepG, stepG.exec, fat])
theorem fstep_loop {c : Code} : step P (lone (fat b tm ds (.code (.loop c) :: k)) cs w) = .next (lone (fat b tm ds (.code c :: .inLoop c :: k)) cs w) := step_lone_go (by simp [stepG, stepG.exec, fat])
theorem fstep_inLoop {c : Code} : step P (lone (fat b tm ds (.inLoop c :: k)) cs w) = .next (lone (fat b tm ds (.code c :: .inLoop c :: k)) cs w) := step_lone_go (by simp [stepG, stepG.exec, fat])
theorem fstep_exit {id : Nat} {k' : List Item} (h : exitTo id k = some k') : step P (lone (fat b tm ds (.code (.exit id) :: k)) cs w) = .next (lone (fat b tm ds k') cs w) := step_lone_go (by simp [stepG, stepG.exec, fat, h])
theorem fstep_region {id : Nat} {ops : Array Oper} : step P (lone (fat b tm ds (.code (.region id ops false) :: k)) cs w) = .next (lone (fat b tm ds (.inRegion ops (List.range ops.size) :: k)) cs w) := step_lone_go (by simp [stepG, stepG.exec, fat])
theorem fstep_region_draw {id : Nat} {ops : Array Oper} : step P (lone (fat b tm ds (.code (.region id ops true) :: k)) cs w) =
    .next (lone (fat b tm ds (.inRegion ops (Region.schedule (P.follows .mixedOrders) ops (w.tape w.drawn (.order b.fn id))) :: k)) cs { w with drawn := w.drawn + 1 }) :=
  step_lone_go (by simp [stepG, stepG.exec, fat, choose, Sem.run, Question.forced, Question.cut])
theorem fstep_region_end {ops : Array Oper} : step P (lone (fat b tm ds (.inRegion ops [] :: k)) cs w) = .next (lone (fat b tm ds k) cs w) := step_lone_go (by simp [stepG, stepG.exec, fat])
/-- A function's end, by 'ret' or behind its last statement. -/
theorem fstep_ret (hb : b.roundOf = none) : step P (lone (fat b tm ds (.code .ret :: k)) cs w) = .next (lone { fat b tm ds (.code .ret :: k) with mode := .returning } cs w) :=
  step_lone_go (by simp [stepG, stepG.exec, fat, hb])
theorem fstep_end (hb : b.roundOf = none) : step P (lone (fat b tm ds []) cs w) = .next (lone { fat b tm ds [] with mode := .returning } cs w) :=
  step_lone_go (by simp [stepG, stepG.exec, fat, hb])
theorem fat_finish (ops : Array Oper) (i : Nat) (rest : List Nat) (v : Value) :
    (fat b tm ds (.inRegion ops (i :: rest) :: k)).finish v = fat b (putTm tm ((ops[i]?).bind (·.dst)) v) ds (.inRegion ops rest :: k) := by
  cases h : (ops[i]?).bind (·.dst) <;> simp [Frame.finish, fat, putTm, h]
theorem fstep_op_skip {ops : Array Oper} {i : Nat} {rest : List Nat} (h : ((ops[i]?).map (Region.wanted · (yielded ops tm))).getD false = false) :
    step P (lone (fat b tm ds (.inRegion ops (i :: rest) :: k)) cs w) = .next (lone ((fat b tm ds (.inRegion ops (i :: rest) :: k)).finish undef) cs w) := by
  exact step_lone_go (by
    have h' := h
    simp only [fat] at *
    simp [stepG, stepG.exec, h'])
def isDefer : Op → Bool
  | .defer _ => true
  | _ => false
theorem stepG_fop {ops : Array Oper} {i : Nat} {rest : List Nat} {o : Oper} (ho : ops[i]? = some o) (hw : Region.wanted o (yielded ops tm) = true) (hd : isDefer o.op = false) :
    stepG P true { frame := fat b tm ds (.inRegion ops (i :: rest) :: k), callers := cs, status := .running, dying := none } w =
      stepG.apply P true (fat b tm ds (.inRegion ops (i :: rest) :: k)) cs none (execOp (Act.eval ⟨tm, ds⟩) o) w := by
  have he := fat_eval b tm ds (.inRegion ops (i :: rest) :: k)
  have hw' : ((ops[i]?).map (Region.wanted · (yielded ops tm))).getD false = true := by rw [ho]; exact hw
  have h2 : (fat b tm ds (.inRegion ops (i :: rest) :: k)).oper? = some o := by simp [Frame.oper?, fat, ho]
  have h1 : stepG P true { frame := fat b tm ds (.inRegion ops (i :: rest) :: k), callers := cs, status := .running, dying := none } w = stepG.oper P true (fat b tm ds (.inRegion ops (i :: rest) :: k)) cs none w := by
    simp only [stepG, fat]
    simp only [stepG.exec, hw']
    rfl
  rw [h1]
  simp only [stepG.oper, h2, he]
  cases hro : (fat b tm ds (.inRegion ops (i :: rest) :: k)).roundOf with
  | none => rfl
  | some l => cases hop : o.op <;> first | rfl | (rw [hop] at hd; cases hd)
theorem fstep_op_value {ops : Array Oper} {i : Nat} {rest : List Nat} {o : Oper} (ho : ops[i]? = some o) (hw : Region.wanted o (yielded ops tm) = true) (hd : isDefer o.op = false) {v : Value} {w' : World}
    (hr : (execOp (Act.eval ⟨tm, ds⟩) o).run P w = .ok (.value v) w') :
    step P (lone (fat b tm ds (.inRegion ops (i :: rest) :: k)) cs w) = .next (lone ((fat b tm ds (.inRegion ops (i :: rest) :: k)).finish v) cs w') :=
  step_lone_go (by rw [stepG_fop ho hw hd]; simp [stepG.apply, hr])
theorem fstep_op_done {ops : Array Oper} {i : Nat} {rest : List Nat} {o : Oper} (ho : ops[i]? = some o) (hw : Region.wanted o (yielded ops tm) = true) (hd : isDefer o.op = false) {w' : World}
    (hr : (execOp (Act.eval ⟨tm, ds⟩) o).run P w = .ok .skip w') :
    step P (lone (fat b tm ds (.inRegion ops (i :: rest) :: k)) cs w) = .next (lone ((fat b tm ds (.inRegion ops (i :: rest) :: k)).finish undef) cs w') :=
  step_lone_go (by rw [stepG_fop ho hw hd]; simp [stepG.apply, hr])
theorem fstep_op_enter {ops : Array Oper} {i : Nat} {rest : List Nat} {o : Oper} (ho : ops[i]? = some o) (hw : Region.wanted o (yielded ops tm) = true) (hd : isDefer o.op = false) {f : FuncId} {args : Array Value} {w' : World}
    (hr : (execOp (Act.eval ⟨tm, ds⟩) o).run P w = .ok (.enter f args) w') :
    step P (lone (fat b tm ds (.inRegion ops (i :: rest) :: k)) cs w) = .next (lone (Frame.enter P f args .normal) (fat b tm ds (.inRegion ops (i :: rest) :: k) :: cs) w') :=
  step_lone_go (by rw [stepG_fop ho hw hd]; simp [stepG.apply, hr, fat])
end moves

end
end Go.Ai
