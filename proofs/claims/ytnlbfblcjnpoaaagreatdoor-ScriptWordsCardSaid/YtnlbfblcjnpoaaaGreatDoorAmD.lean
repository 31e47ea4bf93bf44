/- AM, texts and calls: what AM answers, the model answers. -/
import Derived.Test.YtnlbfblcjnpoaaaGreatDoorAmC4
import Derived.Defers
import Derived.Recover
import Derived.RangeFuncRecord
namespace Go.AM
open Go

/-! ## one step of a frame -/
def todoF (fr : Frame) (k : List Item) : Frame := { fr with todo := k }
section
variable {P : Program} {fr : Frame} {k : List Item} {cs : List Frame} {w : World}
theorem st_skip (h1 : fr.mode = .run) (h2 : fr.todo = .code .skip :: k) : step P (lone fr cs w) = .next (lone (todoF fr k) cs w) :=
  step_lone_go (by simp [stepG, stepG.exec, h1, h2, todoF])
theorem st_label {l : Nat} (h1 : fr.mode = .run) (h2 : fr.todo = .code (.label l) :: k) : step P (lone fr cs w) = .next (lone (todoF fr k) cs w) :=
  step_lone_go (by simp [stepG, stepG.exec, h1, h2, todoF])
theorem st_inBlock {id : Nat} (h1 : fr.mode = .run) (h2 : fr.todo = .inBlock id :: k) : step P (lone fr cs w) = .next (lone (todoF fr k) cs w) :=
  step_lone_go (by simp [stepG, stepG.exec, h1, h2, todoF])
theorem st_inScope {c : Code} (h1 : fr.mode = .run) (h2 : fr.todo = .inScope c :: k) : step P (lone fr cs w) = .next (lone (todoF fr k) cs w) :=
  step_lone_go (by simp [stepG, stepG.exec, h1, h2, todoF])
theorem st_seq {x y : Code} (h1 : fr.mode = .run) (h2 : fr.todo = .code (.seq x y) :: k) : step P (lone fr cs w) = .next (lone (todoF fr (.code x :: .code y :: k)) cs w) :=
  step_lone_go (by simp [stepG, stepG.exec, h1, h2, todoF])
theorem st_cond {c : Operand} {x y : Code} {t : Bool} (h1 : fr.mode = .run) (h2 : fr.todo = .code (.cond c x y) :: k) (h3 : fr.eval c = .bool t) :
    step P (lone fr cs w) = .next (lone (todoF fr (.code (if t then x else y) :: k)) cs w) :=
  step_lone_go (by simp [stepG, stepG.exec, h1, h2, h3, todoF])
theorem st_block {id : Nat} {c : Code} (h1 : fr.mode = .run) (h2 : fr.todo = .code (.block id c) :: k) : step P (lone fr cs w) = .next (lone (todoF fr (.code c :: .inBlock id :: k)) cs w) :=
  step_lone_go (by simp [stepG, stepG.exec, h1, h2, todoF])
theorem st_loop {c : Code} (h1 : fr.mode = .run) (h2 : fr.todo = .code (.loop c) :: k) : step P (lone fr cs w) = .next (lone (todoF fr (.code c :: .inLoop c :: k)) cs w) :=
  step_lone_go (by simp [stepG, stepG.exec, h1, h2, todoF])
theorem st_inLoop {c : Code} (h1 : fr.mode = .run) (h2 : fr.todo = .inLoop c :: k) : step P (lone fr cs w) = .next (lone (todoF fr (.code c :: .inLoop c :: k)) cs w) :=
  step_lone_go (by simp [stepG, stepG.exec, h1, h2, todoF])
theorem st_scope {c : Code} (h1 : fr.mode = .run) (h2 : fr.todo = .code (.scope c) :: k) : step P (lone fr cs w) = .next (lone (todoF fr (.code c :: .inScope c :: k)) cs w) :=
  step_lone_go (by simp [stepG, stepG.exec, h1, h2, todoF])
theorem st_exit {id : Nat} {k' : List Item} (h1 : fr.mode = .run) (h2 : fr.todo = .code (.exit id) :: k) (h3 : exitTo id k = some k') : step P (lone fr cs w) = .next (lone (todoF fr k') cs w) :=
  step_lone_go (by simp [stepG, stepG.exec, h1, h2, h3, todoF])
theorem st_goto {l : Nat} {k' : List Item} (h1 : fr.mode = .run) (h2 : fr.todo = .code (.goto l) :: k) (h3 : gotoIn l k = some k') : step P (lone fr cs w) = .next (lone (todoF fr k') cs w) :=
  step_lone_go (by simp [stepG, stepG.exec, h1, h2, h3, todoF])
def modeF (fr : Frame) (u : FrameMode) : Frame := { fr with mode := u }
theorem st_ret (h1 : fr.mode = .run) (h0 : fr.roundOf = none) (h2 : fr.todo = .code .ret :: k) : step P (lone fr cs w) = .next (lone (modeF fr .returning) cs w) :=
  step_lone_go (by simp [stepG, stepG.exec, h1, h2, h0, modeF])
theorem st_end (h1 : fr.mode = .run) (h0 : fr.roundOf = none) (h2 : fr.todo = []) : step P (lone fr cs w) = .next (lone (modeF fr .returning) cs w) :=
  step_lone_go (by simp [stepG, stepG.exec, h1, h2, h0, modeF])
theorem st_region {id : Nat} {ops : Array Oper} (h1 : fr.mode = .run) (h2 : fr.todo = .code (.region id ops false) :: k) :
    step P (lone fr cs w) = .next (lone (todoF fr (.inRegion ops (List.range ops.size) :: k)) cs w) :=
  step_lone_go (by simp [stepG, stepG.exec, h1, h2, todoF])
theorem st_draw {id : Nat} {ops : Array Oper} (h1 : fr.mode = .run) (h2 : fr.todo = .code (.region id ops true) :: k) :
    step P (lone fr cs w) = .next (lone (todoF fr (.inRegion ops (Region.schedule (P.follows .mixedOrders) ops (w.tape w.drawn (.order fr.fn id))) :: k)) cs (drawW w)) :=
  step_lone_go (by simp [stepG, stepG.exec, h1, h2, todoF, choose, Sem.run, Question.forced, Question.cut, drawW])
theorem st_regionEnd {ops : Array Oper} (h1 : fr.mode = .run) (h2 : fr.todo = .inRegion ops [] :: k) : step P (lone fr cs w) = .next (lone (todoF fr k) cs w) :=
  step_lone_go (by simp [stepG, stepG.exec, h1, h2, todoF])
theorem st_opSkip {ops : Array Oper} {i : Nat} {rest : List Nat} (h1 : fr.mode = .run) (h2 : fr.todo = .inRegion ops (i :: rest) :: k) (h3 : ((ops[i]?).map (Region.wanted · (yielded ops fr.tmps))).getD false = false) :
    step P (lone fr cs w) = .next (lone (fr.finish undef) cs w) :=
  step_lone_go (by simp [stepG, stepG.exec, h1, h2, h3])
theorem stG_op {ops : Array Oper} {i : Nat} {rest : List Nat} {o : Oper} (h1 : fr.mode = .run) (h2 : fr.todo = .inRegion ops (i :: rest) :: k) (ho : ops[i]? = some o) (hw : Region.wanted o (yielded ops fr.tmps) = true)
    (hd : fr.roundOf = none ∨ ∀ c, o.op ≠ .defer c) :
    stepG P true { frame := fr, callers := cs, status := .running, dying := none } w = stepG.apply P true fr cs none (execOp fr.eval o) w := by
  simp only [stepG, stepG.exec, h1, h2, ho, hw, stepG.oper, Frame.oper?, Option.map_some, Option.getD_some, if_true]
  split
  · rename_i l c hr hc
    rcases hd with hd | hd
    · rw [hd] at hr; cases hr
    · exact absurd hc (hd c)
  · rfl
end
end Go.AM

namespace Go.AM
open Go

/-! ## frames on both sides -/
inductive DfR (m : Mp) : Deferred → Deferred → Prop
  | fn {g : FuncId} {cap cap' args args' : List Value} : VRs m cap cap' → VRs m args args' → DfR m ⟨.fn (.func g) ⟨cap⟩, ⟨args⟩⟩ ⟨.fn (.func g) ⟨cap'⟩, ⟨args'⟩⟩
  | coll {k b n : Nat} : m k = some (b, n) → DfR m ⟨.collected k, #[]⟩ ⟨.collected b, #[]⟩
inductive DfRs (m : Mp) : List Deferred → List Deferred → Prop
  | nil : DfRs m [] []
  | cons {x y : Deferred} {xs ys : List Deferred} : DfR m x y → DfRs m xs ys → DfRs m (x :: xs) (y :: ys)
theorem DfR.mono {m m' : Mp} (h : ∀ k p, m k = some p → m' k = some p) {x y : Deferred} (r : DfR m x y) : DfR m' x y := by
  cases r with
  | fn a b => exact .fn (a.mono h) (b.mono h)
  | coll a => exact .coll (h _ _ a)
theorem DfRs.mono {m m' : Mp} (h : ∀ k p, m k = some p → m' k = some p) : ∀ {x y : List Deferred}, DfRs m x y → DfRs m' x y
  | _, _, .nil => .nil
  | _, _, .cons a r => .cons (a.mono h) (DfRs.mono h r)
structure AR (m : Mp) (a : Ac) (fr : Frame) : Prop where
  tm : VRs m a.tm fr.tmps.toList
  df : DfRs m a.df fr.defers
  rd : OptR m a.round fr.roundOf
  mode : fr.mode = .run
  kind : fr.kind = .normal ∨ fr.kind = .deferred
theorem AR.mono {m m' : Mp} (h : ∀ k p, m k = some p → m' k = some p) {a : Ac} {fr : Frame} (r : AR m a fr) : AR m' a fr :=
  ⟨r.tm.mono h, r.df.mono h, r.rd.mono h, r.mode, r.kind⟩
/-- what a recover would find -/
def CR (m : Mp) (rc : Option Value) (kind : CallKind) (cs : List Frame) : Prop :=
  match rc with
  | none => ∀ fr : Frame, fr.kind = kind → tryRecover fr cs = none
  | some v => kind = .deferred ∧ ∃ c rest v' older, cs = c :: rest ∧ c.mode = .panicking (⟨v', false, false⟩ :: older) ∧ VR m v v'
def CsR (rc rc' : Option Value) (cs cs' : List Frame) : Prop :=
  (rc' = rc ∧ cs' = cs) ∨ (rc' = none ∧ rc ≠ none ∧ ∃ c rest v' older, cs = c :: rest ∧ c.mode = .panicking (⟨v', false, false⟩ :: older) ∧ cs' = modeF c (.panicking (⟨v', true, false⟩ :: older)) :: rest)
theorem CR.mono {m m' : Mp} (h : ∀ k p, m k = some p → m' k = some p) {rc : Option Value} {kind : CallKind} {cs : List Frame} (r : CR m rc kind cs) : CR m' rc kind cs := by
  cases rc with
  | none => exact r
  | some v => obtain ⟨a, c, rest, v', older, b, e, f⟩ := r; exact ⟨a, c, rest, v', older, b, e, f.mono h⟩
theorem CsR.refl (rc : Option Value) (cs : List Frame) : CsR rc rc cs cs := .inl ⟨rfl, rfl⟩
theorem CsR.trans {r r' r'' : Option Value} {c c' c'' : List Frame} (a : CsR r r' c c') (b : CsR r' r'' c' c'') : CsR r r'' c c'' := by
  rcases a with ⟨rfl, rfl⟩ | ⟨a1, a2, a3⟩
  · exact b
  · rcases b with ⟨rfl, rfl⟩ | ⟨_, b2, _⟩
    · exact .inr ⟨a1, a2, a3⟩
    · exact absurd a1 b2
theorem CR.next {m : Mp} {rc rc' : Option Value} {kind : CallKind} {cs cs' : List Frame} (h : CR m rc kind cs) (c : CsR rc rc' cs cs') : CR m rc' kind cs' := by
  rcases c with ⟨rfl, rfl⟩ | ⟨rfl, h2, c, rest, v', older, rfl, hm, rfl⟩
  · exact h
  · intro fr hk
    cases rc with
    | none => exact absurd rfl h2
    | some v =>
      obtain ⟨hd, _⟩ := h
      simp only [tryRecover, hk, hd, modeF]
def GR (E : Env) (m : Mp) : Prop := ∀ g u, T.get E.gl g = some u → ∃ n, m g = some (g, n)
theorem GR.mono {E : Env} {m m' : Mp} (h : ∀ k p, m k = some p → m' k = some p) (r : GR E m) : GR E m' := fun g u hg => let ⟨n, hn⟩ := r g u hg; ⟨n, h _ _ hn⟩

/-! ## operands -/
theorem sOk_rel {m : Mp} {v : Value} (h : sOk v = true) : VR m v v := by
  unfold sOk at h
  split at h
  · exact .bool _
  · exact .int _ _
  · exact .string _
  · exact .ptrNil
  · exact .sliceNil _ _
  · exact .mapNil
  · exact .nilFunc
  · exact .nilIface
  · exact .func (.func _) .nil .nil
  · cases h
theorem allOk_rel {m : Mp} : ∀ {l : List Value}, allOk l = true → VRs m l l ∧ ∀ x ∈ l, isCell x = true
  | [], _ => ⟨.nil, by simp⟩
  | x :: l, h => by
    have h' : (match sOk x with | true => allOk l | false => false) = true := h
    cases hx : sOk x with
    | false => rw [hx] at h'; cases h'
    | true =>
      rw [hx] at h'
      obtain ⟨a, b⟩ := allOk_rel (m := m) h'
      refine ⟨.cons (sOk_rel hx) a, ?_⟩
      intro y hy
      rcases List.mem_cons.1 hy with rfl | hy
      · cases y <;> first | rfl | cases hx
      · exact b y hy
theorem cOk_rel {m : Mp} {v : Value} (h : cOk v = true) : VR m v v := by
  unfold cOk at h
  split at h
  · exact .iface _ (sOk_rel h)
  · exact .agg (allOk_rel h).1 (allOk_rel (m := m) h).2
  · exact .tuple (allOk_rel h).1
  · exact sOk_rel h
theorem opd_rel {E : Env} {m : Mp} {tm : List Value} {fr : Frame} (hg : GR E m) (ht : VRs m tm fr.tmps.toList) {x : Operand} (h : opdOk E x = true) : VR m (evl tm x) (fr.eval x) := by
  cases x with
  | tmp t =>
    have := ht.lk t
    show VR m (lk tm t) (fr.tmps.getD t undef)
    have e : fr.tmps.getD t undef = fr.tmps.toList.getD t Go.undef := by
      simp [Array.getD_eq_getD_getElem?, List.getD]
    rw [e]; exact this
  | const v => exact cOk_rel h
  | global g =>
    simp only [opdOk] at h
    split at h
    · rename_i u hu
      obtain ⟨n, hn⟩ := hg g _ hu
      exact .ptr 0 hn
    · cases h
  | func f => exact .func (.func f) .nil .nil
theorem opdsOk_mem {E : Env} : ∀ {l : List Operand}, opdsOk E l = true → ∀ x ∈ l, opdOk E x = true
  | [], _, x, hx => by simp at hx
  | y :: l, h, x, hx => by
    have h' : (match opdOk E y with | true => opdsOk E l | false => false) = true := h
    cases hy : opdOk E y with
    | false => rw [hy] at h'; cases h'
    | true =>
      rw [hy] at h'
      rcases List.mem_cons.1 hx with rfl | hx
      · exact hy
      · exact opdsOk_mem h' x hx
theorem opsOk_mem {E : Env} : ∀ {l : List Oper}, opsOk E l = true → ∀ o ∈ l, ∀ x ∈ o.op.operands, opdOk E x = true
  | [], _, o, ho => by simp at ho
  | y :: l, h, o, ho => by
    have h' : (match opdsOk E y.op.operands.toList with | true => opsOk E l | false => false) = true := h
    cases hy : opdsOk E y.op.operands.toList with
    | false => rw [hy] at h'; cases h'
    | true =>
      rw [hy] at h'
      rcases List.mem_cons.1 ho with rfl | ho
      · intro x hx; exact opdsOk_mem hy x (by simpa using hx)
      · exact opsOk_mem h' o ho

/-! ## where code arrives -/
def ExR (m : Mp) (e : Ex) (k : List Item) (fr : Frame) : Prop :=
  match e with
  | .normal => fr.mode = .run ∧ fr.todo = k
  | .exit id => fr.mode = .run ∧ ∃ k', fr.todo = .code (.exit id) :: k' ∧ exitTo id k' = exitTo id k
  | .goto l => fr.mode = .run ∧ ∃ k', fr.todo = .code (.goto l) :: k' ∧ gotoIn l k' = gotoIn l k
  | .ret => fr.mode = .run ∧ ∃ k', fr.todo = .code .ret :: k'
  | .panic v => (∃ ops l k', fr.todo = .inRegion ops l :: k') ∧ ∃ v', fr.mode = .panicking [⟨v', false, false⟩] ∧ VR m v v'
structure AX (m : Mp) (a : Ac) (fr0 fr : Frame) (e : Ex) : Prop where
  tm : (∀ v, e = .panic v → a.df ≠ []) → VRs m a.tm fr.tmps.toList
  df : DfRs m a.df fr.defers
  rd : OptR m a.round fr.roundOf
  fn : fr.fn = fr0.fn
  kind : fr.kind = fr0.kind
  rnd : fr.roundOf = fr0.roundOf
def Goes (P : Program) (m : Mp) (s : St) (w : World) (fr : Frame) (cs : List Frame) (k : List Item) (rc : Option Value) (e : Ex) (a' : Ac) (s' : St) : Prop :=
  ∃ m' w' fr' cs', Steps P (lone fr cs w) (lone fr' cs' w') ∧ Rel m' s' w' ∧ Ext m s w m' s' w' ∧ AX m' a' fr fr' e ∧ ExR m' e k fr' ∧ CsR rc a'.rc cs cs'
/-- what a caller finds -/
abbrev FinR (P : Program) (m : Mp) (o : Out) (fr0 c : Frame) (cs : List Frame) (w w' : World) : Prop :=
  match o with
  | .ret v => ∃ v', VR m v v' ∧ Steps P (lone fr0 (c :: cs) w) (lone (c.finish v') cs w')
  | .panic v => ∃ v', VR m v v' ∧ Steps P (lone fr0 (c :: cs) w) (lone (c.raise [⟨v', false, false⟩]) cs w')
def Called (P : Program) (m : Mp) (s : St) (w : World) (fr0 : Frame) (o : Out) (s' : St) : Prop :=
  ∀ c cs, ∃ m' w', Rel m' s' w' ∧ Ext m s w m' s' w' ∧ FinR P m' o fr0 c cs w w'
/-- a frame at its end -/
def Left (P : Program) (m : Mp) (fr : Frame) (w : World) (o : Out) : Prop :=
  fr.roundOf = none ∧ fr.defers = [] ∧ ∃ fn, P.funcs[fr.fn]? = some fn ∧ match o with
    | .ret v => fr.mode = .returning ∧ ∃ v', (results fn fr.tmps).run P w = .ok v' w ∧ VR m v v'
    | .panic v => ∃ v', fr.mode = .panicking [⟨v', false, false⟩] ∧ VR m v v'
def Ends (P : Program) (m : Mp) (s : St) (w : World) (fr : Frame) (cs : List Frame) (rc : Option Value) (o : Out) (rc' : Option Value) (s' : St) : Prop :=
  ∃ m' w' fr' cs', Steps P (lone fr cs w) (lone fr' cs' w') ∧ Rel m' s' w' ∧ Ext m s w m' s' w' ∧ (fr'.kind = fr.kind ∧ fr'.fn = fr.fn) ∧ Left P m' fr' w' o ∧ CsR rc rc' cs cs'
theorem Goes.of_steps {P : Program} {m : Mp} {s : St} {w : World} {fr fr1 : Frame} {cs : List Frame} {k : List Item} {rc : Option Value} {e : Ex} {a' : Ac} {s' : St}
    (h : Steps P (lone fr cs w) (lone fr1 cs w)) (h1 : fr1.fn = fr.fn) (h2 : fr1.kind = fr.kind) (h3 : fr1.roundOf = fr.roundOf) (g : Goes P m s w fr1 cs k rc e a' s') : Goes P m s w fr cs k rc e a' s' := by
  obtain ⟨m', w', fr', cs', q1, q2, q3, q4, q5, q6⟩ := g
  exact ⟨m', w', fr', cs', h.trans q1, q2, q3, ⟨q4.tm, q4.df, q4.rd, q4.fn.trans h1, q4.kind.trans h2, q4.rnd.trans h3⟩, q5, q6⟩
/-- first one, then the other -/
theorem Goes.next {P : Program} {E : Env} {m : Mp} {s s1 : St} {w : World} {fr : Frame} {cs : List Frame} {k k1 : List Item} {rc : Option Value} {a1 : Ac} {e : Ex} {a' : Ac} {s' : St} (hg : GR E m) (hk : fr.kind = .normal ∨ fr.kind = .deferred) (hc : CR m rc fr.kind cs)
    (g : Goes P m s w fr cs k1 rc .normal a1 s1)
    (n : ∀ m w fr cs, Rel m s1 w → GR E m → AR m a1 fr → CR m a1.rc fr.kind cs → fr.todo = k1 → Goes P m s1 w fr cs k a1.rc e a' s') : Goes P m s w fr cs k rc e a' s' := by
  obtain ⟨m1, w1, fr1, cs1, q1, q2, q3, q4, q5, q6⟩ := g
  have hc1 : CR m1 a1.rc fr1.kind cs1 := by rw [q4.kind]; exact (hc.mono q3.mono).next q6
  obtain ⟨m', w', fr', cs', p1, p2, p3, p4, p5, p6⟩ := n m1 w1 fr1 cs1 q2 (hg.mono q3.mono) ⟨q4.tm (by intro v h; cases h), q4.df, q4.rd, q5.1, by rw [q4.kind]; exact hk⟩ hc1 q5.2
  exact ⟨m', w', fr', cs', q1.trans p1, p2, q3.trans p3, ⟨p4.tm, p4.df, p4.rd, p4.fn.trans q4.fn, p4.kind.trans q4.kind, p4.rnd.trans q4.rnd⟩, p5, q6.trans p6⟩
end Go.AM

namespace Go.AM
open Go
def PanR (m : Mp) (pan : Option Value) (fr : Frame) : Prop := match pan with | none => fr.mode = .returning | some v => ∃ v', fr.mode = .panicking [⟨v', false, false⟩] ∧ VR m v v'
structure Ok (P : Program) (E : Env) (r : K) : Prop where
  code : ∀ c a s e a' s', r (.code c a) s = some (.ex e a', s') → codeOk E c = true → ∀ m w fr k cs, Rel m s w → GR E m → AR m a fr → CR m a.rc fr.kind cs → (fr.todo = .code c :: k ∨ ∃ b, c = .loop b ∧ fr.todo = .inLoop b :: k) → Goes P m s w fr cs k a.rc e a' s'
  scope : ∀ c body a s e a' s', r (.scope c body a) s = some (.ex e a', s') → codeOk E c = true → codeOk E body = true → ∀ m w fr k cs, Rel m s w → GR E m → AR m a fr → CR m a.rc fr.kind cs →
    fr.todo = .code c :: .inScope body :: k → Goes P m s w fr cs k a.rc e a' s'
  call : ∀ f args rc s o rc' s', r (.call f args rc) s = some (.out o rc', s') → ∀ m w args', Rel m s w → GR E m → VRs m args args' →
    (callFunc f ⟨args'⟩).run P w = .ok (.enter f ⟨args'⟩) w ∧ ∀ kind cs, (kind = .normal ∨ kind = .deferred) → CR m rc kind cs → Ends P m s w (Frame.enter P f ⟨args'⟩ kind) cs rc o rc' s'
  round : ∀ l args s o rc' s', r (.round l args) s = some (.out o rc', s') → ∀ m w l' nn args', Rel m s w → GR E m → m l = some (l', nn) → VRs m args args' →
    ∃ f tmps asg body, (Instr.yield l' ⟨args'⟩).run P w = .ok (.round l' f tmps asg body) w ∧ Called P m s w (Frame.round l' f tmps asg body .normal) o s'
  unwind : ∀ fn a pan s o rc' s', r (.unwind fn a pan) s = some (.out o rc', s') → ∀ m w fr cs, Rel m s w → GR E m → ((∀ v, pan = some v → a.df ≠ []) → VRs m a.tm fr.tmps.toList) → DfRs m a.df fr.defers → fr.roundOf = none →
    PanR m pan fr → P.funcs[fr.fn]? = some fn → (fr.kind = .normal ∨ fr.kind = .deferred) → CR m a.rc fr.kind cs →
    Ends P m s w fr cs a.rc o rc' s'

section
variable {P : Program} {E : Env} {r : K}
theorem called_of {m : Mp} {s s' : St} {w : World} {fr : Frame} {o : Out} {rc' : Option Value} (hk : fr.kind = .normal) (h : ∀ cs, CR m none .normal cs → Ends P m s w fr cs none o rc' s') : Called P m s w fr o s' := by
  intro c cs
  have hcr : CR m none .normal (c :: cs) := by intro fr hf; simp [tryRecover, hf]
  obtain ⟨m', w', fr', cs', q1, q2, q3, q4, q5, q6⟩ := h (c :: cs) hcr
  have hcs : cs' = c :: cs := by
    rcases q6 with ⟨_, h⟩ | ⟨_, h, _⟩
    · exact h
    · exact absurd rfl h
  subst hcs
  obtain ⟨_, l2, fn, l3, l4⟩ := q5
  refine ⟨m', w', q2, q3, ?_⟩
  cases o with
  | ret v =>
    obtain ⟨l5, v', l6, l7⟩ := l4
    exact ⟨v', l7, q1.trans (.one (step_leave_returned ⟨l5, l2, q4.1.trans hk, fn, l3, l6⟩))⟩
  | panic v =>
    obtain ⟨v', l5, l6⟩ := l4
    exact ⟨v', l6, q1.trans (.one (step_leave_panicked ⟨l5, l2, fn, l3⟩))⟩
theorem wanted_rel {m : Mp} {tm : List Value} {fr : Frame} {ops : List Oper} {o : Oper} (h : VRs m tm fr.tmps.toList) : Region.wanted o (yielded ⟨ops⟩ fr.tmps) = wantedO ops tm o.guard := by
  obtain ⟨dst, op, ty, pos, af, g⟩ := o
  cases g with
  | none => rfl
  | some g =>
    obtain ⟨j, want⟩ := g
    simp only [Region.wanted, wantedO, yielded, nthOp_eq]
    have e1 : (⟨ops⟩ : Array Oper)[j]? = ops[j]? := by simp
    rw [e1]
    cases ho : ops[j]? with
    | none => simp [dstOf]
    | some q =>
      obtain ⟨qd, _, _, _, _, _⟩ := q
      cases qd with
      | none => simp [dstOf]
      | some d =>
        simp only [dstOf, Option.bind_some]
        have hv := h.lk d
        have e2 : fr.tmps[d]? = fr.tmps.toList[d]? := by simp
        rw [e2]
        have hlk := lk_eq tm d
        cases hd : fr.tmps.toList[d]? with
        | none =>
          have : tm[d]? = none := by
            have h1 := h.length
            have h2 : fr.tmps.toList.length = fr.tmps.size := Array.length_toList
            simp at hd ⊢; omega
          rw [hlk]
          simp [List.getD, this, undef]
        | some v =>
          have hv' : VR m (lk tm d) v := by simpa [List.getD, hd] using hv
          cases hl : lk tm d <;> rw [hl] at hv' <;> cases hv' <;> simp
          rename_i b
          cases b <;> cases want <;> rfl
theorem setT_rel {m : Mp} {tm : List Value} {ts : Array Value} {v v' : Value} (h : VRs m tm ts.toList) (hv : VR m v v') (d : Option Tmp) :
    VRs m (setT tm d v) (match d with | some d => ts.setIfInBounds d v' | none => ts).toList := by
  cases d with
  | none => exact h
  | some d => simp only [setT, su_eq, Array.toList_setIfInBounds]; exact h.set d hv
/-- what a frame finds behind an operation -/
def finF (fr : Frame) (rest : List Nat) (k : List Item) (ops : Array Oper) (d : Option Tmp) (v : Value) : Frame :=
  { fr with tmps := match d with | some d => fr.tmps.setIfInBounds d v | none => fr.tmps, todo := .inRegion ops rest :: k }
theorem finish_eq {fr : Frame} {ops : Array Oper} {i : Nat} {rest : List Nat} {k : List Item} {o : Oper} (h : fr.todo = .inRegion ops (i :: rest) :: k) (ho : ops[i]? = some o) (v : Value) : fr.finish v = finF fr rest k ops o.dst v := by
  obtain ⟨dst, op, ty, pos, af, g⟩ := o
  simp only [Frame.finish, h, ho, Option.bind_some, finF]
  cases dst <;> rfl
theorem AR.fin {m : Mp} {tm : List Value} {df df' : List Deferred} {ds : List Deferred} {rc rc' : Option Value} {rd : Option Nat} {fr : Frame} {rest : List Nat} {k : List Item} {ops : Array Oper} {d : Option Tmp} {v v' : Value} (h : AR m ⟨tm, df, rc, rd⟩ fr) (hv : VR m v v') (hd : DfRs m df' ds) :
    AR m ⟨setT tm d v, df', rc', rd⟩ { finF fr rest k ops d v' with defers := ds } :=
  ⟨setT_rel h.tm hv d, hd, h.rd, h.mode, h.kind⟩
theorem AR.fin' {m : Mp} {tm : List Value} {df : List Deferred} {rc rc' : Option Value} {rd : Option Nat} {fr : Frame} {rest : List Nat} {k : List Item} {ops : Array Oper} {d : Option Tmp} {v v' : Value} (h : AR m ⟨tm, df, rc, rd⟩ fr) (hv : VR m v v') :
    AR m ⟨setT tm d v, df, rc', rd⟩ (finF fr rest k ops d v') :=
  ⟨setT_rel h.tm hv d, h.df, h.rd, h.mode, h.kind⟩
/-- an operation that is wanted, and what comes of it -/
theorem op_goes (ok : Ok P E r) {ops : Array Oper} {i : Nat} {rest : List Nat} {K : List Item} {o : Oper} {kn : KN} {tm : List Value} {df : List Deferred} {rc : Option Value} {rd : Option Nat} {e : Ex} {a' : Ac} {s s1 s' : St} {n : N} {m : Mp} {w : World} {fr : Frame} {cs : List Frame}
    (ho : ops[i]? = some o) (htodo : fr.todo = .inRegion ops (i :: rest) :: K) (hw : Region.wanted o (yielded ops fr.tmps) = true)
    (ar : AR m ⟨tm, df, rc, rd⟩ fr) (rel : Rel m s w) (gr : GR E m) (cr : CR m rc fr.kind cs) (hop : OpR P m s w n s1 ((execOp fr.eval o).run P w)) (hdef : (∀ c, o.op ≠ .defer c) ∨ ∃ x, n = .defer x)
    (h : xN n r kn o.dst tm df rc rd s1 = some (.ex e a', s'))
    (hk : ∀ tm df rc s2, kn tm df rc rd s2 = some (.ex e a', s') → ∀ m w fr cs, Rel m s2 w → GR E m → AR m ⟨tm, df, rc, rd⟩ fr → CR m rc fr.kind cs → fr.todo = .inRegion ops rest :: K → Goes P m s2 w fr cs K rc e a' s') :
    Goes P m s w fr cs K rc e a' s' := by
  have hd : fr.roundOf = none ∨ ∀ c, o.op ≠ .defer c := by
    rcases hdef with hd | ⟨x, rfl⟩
    · exact .inr hd
    · have h' : (match rd with | none => kn (setT tm o.dst undef) (x :: df) rc rd s1 | some _ => none) = some (.ex e a', s') := h
      cases rd with
      | some _ => cases h'
      | none =>
        have := ar.rd
        cases hr : fr.roundOf with
        | none => exact .inl rfl
        | some l => rw [hr] at this; cases this
  have hg := fun P w => stG_op (P := P) (w := w) (cs := cs) ar.mode htodo ho hw hd
  have hfin := fun v => finish_eq (v := v) htodo ho
  -- behind one step, with another state
  have go : ∀ {m' : Mp} {s2 : St} {w' : World} {fr1 : Frame} {cs1 : List Frame} {rc1 : Option Value}, Steps P (lone fr cs w) (lone fr1 cs1 w') → Ext m s w m' s2 w' → fr1.fn = fr.fn → fr1.kind = fr.kind → fr1.roundOf = fr.roundOf → CsR rc rc1 cs cs1 →
      Goes P m' s2 w' fr1 cs1 K rc1 e a' s' → Goes P m s w fr cs K rc e a' s' := by
    intro m' s2 w' fr1 cs1 rc1 q1 q2 q3 q4 q5 q6 ⟨m2, w2, fr2, cs2, p1, p2, p3, p4, p5, p6⟩
    exact ⟨m2, w2, fr2, cs2, q1.trans p1, p2, q2.trans p3, ⟨p4.tm, p4.df, p4.rd, p4.fn.trans q3, p4.kind.trans q4, p4.rnd.trans q5⟩, p5, q6.trans p6⟩
  have raise : ∀ {m' : Mp} {s2 : St} {w' : World} {v v' : Value}, Steps P (lone fr cs w) (lone (fr.raise [⟨v', false, false⟩]) cs w') → Rel m' s2 w' → Ext m s w m' s2 w' → VR m' v v' → some (Res.ex (.panic v) ⟨tm, df, rc, rd⟩, s2) = some (.ex e a', s') → Goes P m s w fr cs K rc e a' s' := by
    intro m' s2 w' v v' q1 q2 q3 q4 q5
    injection q5 with q5; injection q5 with q5 q6; injection q5 with q5 q7
    subst q5; subst q6; subst q7
    have hr : fr.raise [⟨v', false, false⟩] = modeF fr (.panicking [⟨v', false, false⟩]) := by simp [Frame.raise, ar.mode, modeF]
    rw [hr] at q1
    exact ⟨m', w', _, cs, q1, q2, q3, ⟨fun _ => ar.tm.mono q3.mono, ar.df.mono q3.mono, ar.rd.mono q3.mono, rfl, rfl, rfl⟩, ⟨⟨_, _, _, htodo⟩, v', rfl, q4⟩, CsR.refl _ _⟩
  have out : ∀ {fr0 : Frame} {q : RS}, step P (lone fr cs w) = .next (lone fr0 (fr :: cs) w) → (∀ ou rc' s2, q = some (.out ou rc', s2) → Called P m s w fr0 ou s2) → xOut kn o.dst tm df rc rd q = some (.ex e a', s') → Goes P m s w fr cs K rc e a' s' := by
    intro fr0 q hst hcall hx
    unfold xOut at hx
    split at hx
    · rename_i ou rc' s2
      obtain ⟨m', w', p1, p2, p3⟩ := hcall _ _ _ rfl fr cs
      split at hx
      · rename_i v
        obtain ⟨v', p4, p5⟩ := p3
        refine go (.head hst p5) p2 ?_ ?_ ?_ (CsR.refl _ _) (hk _ _ _ _ hx _ _ _ _ p1 (gr.mono p2.mono) (by rw [hfin]; exact (ar.mono p2.mono).fin' p4) ?_ ?_)
        · rw [hfin]; rfl
        · rw [hfin]; rfl
        · rw [hfin]; rfl
        · rw [hfin]; exact cr.mono p2.mono
        · rw [hfin]; rfl
      · rename_i v
        obtain ⟨v', p4, p5⟩ := p3
        exact raise (.head hst p5) p1 p2 p4 hx
    · cases hx
  generalize hq : (execOp fr.eval o).run P w = q at hop
  cases hop with
  | v hv r2 x2 =>
    rename_i m2 w2 x x'
    have hst : step P (lone fr cs w) = .next (lone (fr.finish x') cs w2) := step_lone_go (by rw [hg]; simp [stepG.apply, hq])
    refine go (.one hst) x2 ?_ ?_ ?_ (CsR.refl _ _) (hk _ _ _ _ h _ _ _ _ r2 (gr.mono x2.mono) (by rw [hfin]; exact (ar.mono x2.mono).fin' hv) ?_ ?_)
    · rw [hfin]; rfl
    · rw [hfin]; rfl
    · rw [hfin]; rfl
    · rw [hfin]; exact cr.mono x2.mono
    · rw [hfin]; rfl
  | skip r2 x2 =>
    rename_i m2 w2
    have hst : step P (lone fr cs w) = .next (lone (fr.finish undef) cs w2) := step_lone_go (by rw [hg]; simp [stepG.apply, hq])
    refine go (.one hst) x2 ?_ ?_ ?_ (CsR.refl _ _) (hk _ _ _ _ h _ _ _ _ r2 (gr.mono x2.mono) (by rw [hfin]; exact (ar.mono x2.mono).fin' .undef) ?_ ?_)
    · rw [hfin]; rfl
    · rw [hfin]; rfl
    · rw [hfin]; rfl
    · rw [hfin]; exact cr.mono x2.mono
    · rw [hfin]; rfl
  | enter hargs =>
    rename_i f args args'
    cases hc : r (.call f args none) s with
    | none => rw [show xN (.enter f args) r kn o.dst tm df rc rd s = xOut kn o.dst tm df rc rd (r (.call f args none) s) from rfl, hc] at h; cases h
    | some q =>
      obtain ⟨res, s2⟩ := q
      cases res with
      | ex _ _ => rw [show xN (.enter f args) r kn o.dst tm df rc rd s = xOut kn o.dst tm df rc rd (r (.call f args none) s) from rfl, hc] at h; cases h
      | out ou rc' =>
        obtain ⟨c1, c2⟩ := ok.call f args none s ou rc' s2 hc m w args' rel gr hargs
        rw [c1] at hq
        have hst : step P (lone fr cs w) = .next (lone (Frame.enter P f ⟨args'⟩ .normal) (fr :: cs) w) := by
          refine step_lone_go ?_
          rw [hg]
          have hkind : (match fr.todo with | .call _ true _ _ :: _ => CallKind.wrapped | _ => CallKind.normal) = .normal := by rw [htodo]
          simp [stepG.apply, hq, htodo]
        refine out (q := r (.call f args none) s) hst ?_ h
        intro ou2 rc2 s3 he
        rw [hc] at he; injection he with he; injection he with he1 he2; injection he1 with he1 he3; subst he1; subst he2
        exact called_of rfl (fun cs hcr => c2 .normal cs (.inl rfl) hcr)
  | round hl hargs =>
    rename_i l l' nn args args'
    cases hc : r (.round l args) s with
    | none => rw [show xN (.round l args) r kn o.dst tm df rc rd s = xOut kn o.dst tm df rc rd (r (.round l args) s) from rfl, hc] at h; cases h
    | some q =>
      obtain ⟨res, s2⟩ := q
      cases res with
      | ex _ _ => rw [show xN (.round l args) r kn o.dst tm df rc rd s = xOut kn o.dst tm df rc rd (r (.round l args) s) from rfl, hc] at h; cases h
      | out ou rc' =>
        obtain ⟨f, ts, asg, body, c1, c2⟩ := ok.round l args s ou rc' s2 hc m w l' nn args' rel gr hl hargs
        rw [c1] at hq
        have hst : step P (lone fr cs w) = .next (lone (Frame.round l' f ts asg body .normal) (fr :: cs) w) := step_lone_go (by rw [hg]; simp [stepG.apply, hq])
        refine out (q := r (.round l args) s) hst ?_ h
        intro ou2 rc2 s3 he
        rw [hc] at he; injection he with he; injection he with he1 he2; injection he1 with he1 he3; subst he1; subst he2
        exact c2
  | defer hcap hargs =>
    rename_i g cap cap' args args'
    have h' : (match rd with | none => kn (setT tm o.dst undef) (⟨.fn (.func g) ⟨cap⟩, ⟨args⟩⟩ :: df) rc rd s | some _ => none) = some (.ex e a', s') := h
    cases rd with
    | some _ => cases h'
    | none =>
      have hst : step P (lone fr cs w) = .next (lone { finF fr rest K ops o.dst undef with defers := ⟨.fn (.func g) ⟨cap'⟩, ⟨args'⟩⟩ :: fr.defers } cs w) := by
        refine step_lone_go ?_
        rw [hg]
        have : ({ fr with defers := ⟨.fn (.func g) ⟨cap'⟩, ⟨args'⟩⟩ :: fr.defers } : Frame).finish undef = { finF fr rest K ops o.dst undef with defers := ⟨.fn (.func g) ⟨cap'⟩, ⟨args'⟩⟩ :: fr.defers } := finish_eq (fr := { fr with defers := ⟨.fn (.func g) ⟨cap'⟩, ⟨args'⟩⟩ :: fr.defers }) htodo ho undef
        simp only [stepG.apply, if_true, Sem.runT_eq, hq, GStep.bare_after]
        exact congrArg (fun fr => GStep.go { frame := fr, callers := cs, status := .running, dying := none } w) this
      exact go (.one hst) (Ext.refl m s w) rfl rfl rfl (CsR.refl _ _) (hk _ _ _ _ h' _ _ _ _ rel gr (ar.fin .undef (.cons (.fn hcap hargs) ar.df)) cr rfl)
  | recover =>
    have h' : (match rd with
      | some _ => none
      | none => match rc with
        | some v => kn (setT tm o.dst v) df none rd s
        | none => kn (setT tm o.dst .nilIface) df none rd s) = some (.ex e a', s') := h
    cases rd with
    | some _ => cases h'
    | none =>
      have hro : fr.roundOf = none := by
        have := ar.rd
        cases hr : fr.roundOf with
        | none => rfl
        | some l => rw [hr] at this; cases this
      cases rc with
      | some v =>
        obtain ⟨d1, c, rst, v', older, d2, d3, d4⟩ := cr
        subst d2
        have hst : step P (lone fr (c :: rst) w) = .next (lone (fr.finish v') (modeF c (.panicking (⟨v', true, false⟩ :: older)) :: rst) w) := by
          refine step_lone_go ?_
          rw [hg]
          simp [stepG.apply, hq, hro, tryRecover, d1, d3, modeF]
        have hcs : CsR (some v) none (c :: rst) (modeF c (.panicking (⟨v', true, false⟩ :: older)) :: rst) := .inr ⟨rfl, by simp, c, rst, v', older, rfl, d3, rfl⟩
        have hcr : CR m (some v) fr.kind (c :: rst) := ⟨d1, c, rst, v', older, rfl, d3, d4⟩
        refine go (.one hst) (Ext.refl m s w) ?_ ?_ ?_ hcs (hk _ _ _ _ h' _ _ _ _ rel gr (by rw [hfin]; exact ar.fin' d4) ?_ ?_)
        · rw [hfin]; rfl
        · rw [hfin]; rfl
        · rw [hfin]; rfl
        · rw [hfin]; exact hcr.next hcs
        · rw [hfin]; rfl
      | none =>
        have hst : step P (lone fr cs w) = .next (lone (fr.finish .nilIface) cs w) := by
          refine step_lone_go ?_
          rw [hg]
          have := cr fr rfl
          simp [stepG.apply, hq, hro, this]
        refine go (.one hst) (Ext.refl m s w) ?_ ?_ ?_ (CsR.refl _ _) (hk _ _ _ _ h' _ _ _ _ rel gr (by rw [hfin]; exact ar.fin' .nilIface) ?_ ?_)
        · rw [hfin]; rfl
        · rw [hfin]; rfl
        · rw [hfin]; rfl
        · rw [hfin]; exact cr
        · rw [hfin]; rfl
  | panic hv =>
    rename_i x x'
    have hst : step P (lone fr cs w) = .next (lone (fr.raise [⟨x', false, false⟩]) cs w) := step_lone_go (by rw [hg]; simp [stepG.apply, hq])
    exact raise (.one hst) rel (Ext.refl m s w) hv h
end
end Go.AM

namespace Go.AM
open Go
section
variable {P : Program} {E : Env} {r : K}
theorem opr_defer {op : Op} {E : Env} {s s' : St} {ev : Operand → Value} {n : N} (h : opr op E s ev = some (n, s')) : (∀ c, op ≠ .defer c) ∨ ∃ x, n = .defer x := by
  cases op with
  | defer c =>
    refine .inr ?_
    have h' : oDefer s ev c = some (n, s') := h
    unfold oDefer at h'
    obtain ⟨callee, ⟨args⟩, tys⟩ := c
    simp only at h'
    split at h'
    · split at h'
      · split at h'
        · injection h' with h'; injection h' with h1 h2; exact ⟨_, h1.symm⟩
        · cases h'
      · cases h'
    · cases h'
  | _ => exact .inl (by simp)
theorem opd_all {m : Mp} {tm : List Value} {fr : Frame} (hg : GR E m) (ht : VRs m tm fr.tmps.toList) {o : Oper} (h : ∀ x ∈ o.op.operands, opdOk E x = true) : ∀ x ∈ o.op.operands, VR m (evl tm x) (fr.eval x) :=
  fun x hx => opd_rel hg ht (h x hx)
theorem plain_ops (hE : EnvOK P E) (ok : Ok P E r) (ops : List Oper) (hops : opsOk E ops = true) {e : Ex} {a' : Ac} {s' : St} {rd : Option Nat} {K : List Item} : ∀ (l pre : List Oper), ops = pre ++ l → ∀ tm df rc s, xOps E r ops l tm df rc rd s = some (.ex e a', s') →
    ∀ m w fr cs, Rel m s w → GR E m → AR m ⟨tm, df, rc, rd⟩ fr → CR m rc fr.kind cs → fr.todo = .inRegion ⟨ops⟩ (List.range' pre.length l.length) :: K → Goes P m s w fr cs K rc e a' s'
  | [], pre, _, tm, df, rc, s, h, m, w, fr, cs, rel, gr, ar, cr, ht => by
    have h' : some (Res.ex .normal ⟨tm, df, rc, rd⟩, s) = some (.ex e a', s') := h
    injection h' with h'; injection h' with h1 h2; injection h1 with h1 h3
    subst h1; subst h2; subst h3
    have hst : step P (lone fr cs w) = .next (lone (todoF fr K) cs w) := st_regionEnd ar.mode ht
    exact ⟨m, w, _, cs, .one hst, rel, Ext.refl m s w, ⟨fun _ => ar.tm, ar.df, ar.rd, rfl, rfl, rfl⟩, ⟨ar.mode, rfl⟩, CsR.refl _ _⟩
  | o :: l, pre, hp, tm, df, rc, s, h, m, w, fr, cs, rel, gr, ar, cr, ht => by
    have ho : (⟨ops⟩ : Array Oper)[pre.length]? = some o := by rw [hp]; simp
    have hrange : List.range' pre.length (o :: l).length = pre.length :: List.range' (pre ++ [o]).length l.length := by simp [List.range'_succ]
    rw [hrange] at ht
    have hp2 : ops = (pre ++ [o]) ++ l := by rw [hp]; simp
    have ih : ∀ tm df rc s, xOps E r ops l tm df rc rd s = some (.ex e a', s') → ∀ m w fr cs, Rel m s w → GR E m → AR m ⟨tm, df, rc, rd⟩ fr → CR m rc fr.kind cs → fr.todo = .inRegion ⟨ops⟩ (List.range' (pre ++ [o]).length l.length) :: K → Goes P m s w fr cs K rc e a' s' :=
      fun tm df rc s => plain_ops hE ok ops hops l (pre ++ [o]) hp2 tm df rc s
    have h' : xO o E ops r (xOps E r ops l) tm df rc rd s = some (.ex e a', s') := h
    have hw := wanted_rel (ops := ops) (o := o) ar.tm
    have hmem : o ∈ ops := by rw [hp]; simp
    have h'' : xW (wantedO ops tm o.guard) o.op o.dst E r (xOps E r ops l) tm df rc rd s = some (.ex e a', s') := by
      obtain ⟨d, op, ty, pos, af, g⟩ := o
      exact h'
    cases hwo : wantedO ops tm o.guard with
    | false =>
      rw [hwo] at h'' hw
      have hst : step P (lone fr cs w) = .next (lone (fr.finish undef) cs w) := st_opSkip ar.mode ht (by rw [ho]; simpa using hw)
      have hfin := finish_eq (v := undef) ht ho
      refine Goes.of_steps (.one hst) (by rw [hfin]; rfl) (by rw [hfin]; rfl) (by rw [hfin]; rfl) ?_
      rw [hfin]
      exact ih _ _ _ _ h'' m w _ cs rel gr (ar.fin' .undef) cr rfl
    | true =>
      rw [hwo] at h'' hw
      have h3 : xR (opr o.op E s (evl tm)) r (xOps E r ops l) o.dst tm df rc rd = some (.ex e a', s') := h''
      cases hop : opr o.op E s (evl tm) with
      | none => rw [hop] at h3; cases h3
      | some q =>
        obtain ⟨n, s1⟩ := q
        rw [hop] at h3
        have hrun := oper_run (P := P) hE rel o (opd_all gr ar.tm (opsOk_mem hops o hmem)) hop
        exact op_goes ok ho ht hw ar rel gr cr hrun (opr_defer hop) h3 (fun tm df rc s2 hk => ih tm df rc s2 hk)
/-! ## code -/
theorem seq_goes (ok : Ok P E r) {x y : Code} {a : Ac} {s : St} {e : Ex} {a' : Ac} {s' : St} (hx : codeOk E x = true) (hy : codeOk E y = true) (h : xSeq r y (r (.code x a) s) = some (.ex e a', s'))
    {m : Mp} {w : World} {fr : Frame} {k : List Item} {cs : List Frame} {it : Item} (hit : it = .code y ∨ ∃ z, y = .loop z ∧ it = .inLoop z) (rel : Rel m s w) (gr : GR E m) (ar : AR m a fr) (cr : CR m a.rc fr.kind cs) (ht : fr.todo = .code x :: it :: k) : Goes P m s w fr cs k a.rc e a' s' := by
  unfold xSeq at h
  split at h
  · rename_i a1 s1 hq
    have g := ok.code x a s .normal a1 s1 hq hx m w fr (it :: k) cs rel gr ar cr (.inl ht)
    refine Goes.next gr ar.kind cr g (fun m w fr cs rel gr ar cr ht => ok.code y a1 s1 e a' s' h hy m w fr k cs rel gr ar cr ?_)
    rcases hit with rfl | ⟨z, rfl, rfl⟩
    · exact .inl ht
    · exact .inr ⟨z, rfl, ht⟩
  · rename_i hne
    have g := ok.code x a s e a' s' h hx m w fr (it :: k) cs rel gr ar cr (.inl ht)
    obtain ⟨m', w', fr', cs', q1, q2, q3, q4, q5, q6⟩ := g
    refine ⟨m', w', fr', cs', q1, q2, q3, q4, ?_, q6⟩
    have hit2 : (∀ id, exitTo id (it :: k) = exitTo id k) ∧ ∀ l, gotoIn l (it :: k) = gotoIn l k := by
      rcases hit with rfl | ⟨z, rfl, rfl⟩ <;> exact ⟨fun _ => rfl, fun _ => rfl⟩
    cases e with
    | normal => exact (hne a' s' h).elim
    | exit id => obtain ⟨b1, k', b2, b3⟩ := q5; exact ⟨b1, k', b2, b3.trans (hit2.1 id)⟩
    | goto l => obtain ⟨b1, k', b2, b3⟩ := q5; exact ⟨b1, k', b2, b3.trans (hit2.2 l)⟩
    | ret => exact q5
    | panic v => exact q5
theorem and_match {a b : Bool} (h : (match a with | true => b | false => false) = true) : a = true ∧ b = true := by
  cases a <;> cases b <;> simp_all
theorem findLabel_ok : ∀ {c : Code} {l : Nat} {c' : Code}, codeOk E c = true → findLabel c l = some c' → codeOk E c' = true
  | .seq x y, l, c', h, hf => by
    have h' : (match codeOk E x with | true => codeOk E y | false => false) = true := h
    obtain ⟨h1, h2⟩ := and_match h'
    simp only [findLabel] at hf
    split at hf
    · rename_i rest hr
      injection hf with hf; subst hf
      have := findLabel_ok h1 hr
      show (match codeOk E rest with | true => codeOk E y | false => false) = true
      rw [this]; exact h2
    · exact findLabel_ok h2 hf
  | .label l', l, c', h, hf => by
    simp only [findLabel] at hf
    split at hf
    · injection hf with hf; subst hf; rfl
    · cases hf
  | .skip, _, _, _, hf => by simp [findLabel] at hf
  | .region _ _ _, _, _, _, hf => by simp [findLabel] at hf
  | .cond _ _ _, _, _, _, hf => by simp [findLabel] at hf
  | .block _ _, _, _, _, hf => by simp [findLabel] at hf
  | .loop _, _, _, _, hf => by simp [findLabel] at hf
  | .rangeFunc _ _ _ _, _, _, _, hf => by simp [findLabel] at hf
  | .exit _, _, _, _, hf => by simp [findLabel] at hf
  | .scope _, _, _, _, hf => by simp [findLabel] at hf
  | .goto _, _, _, _, hf => by simp [findLabel] at hf
  | .ret, _, _, _, hf => by simp [findLabel] at hf
  | .refuse _, _, _, _, hf => by simp [findLabel] at hf
theorem scope_goes (ok : Ok P E r) {c body : Code} {a : Ac} {s : St} {e : Ex} {a' : Ac} {s' : St} (hc : codeOk E c = true) (hb : codeOk E body = true) (h : xScope r body (r (.code c a) s) = some (.ex e a', s'))
    {m : Mp} {w : World} {fr : Frame} {k : List Item} {cs : List Frame} (rel : Rel m s w) (gr : GR E m) (ar : AR m a fr) (cr : CR m a.rc fr.kind cs) (ht : fr.todo = .code c :: .inScope body :: k) : Goes P m s w fr cs k a.rc e a' s' := by
  have out : ∀ {e a' s'}, r (.code c a) s = some (.ex e a', s') → (∀ l, e ≠ .goto l) → Goes P m s w fr cs k a.rc e a' s' := by
    intro e a' s' h hne
    obtain ⟨m', w', fr', cs', q1, q2, q3, q4, q5, q6⟩ := ok.code c a s e a' s' h hc m w fr (.inScope body :: k) cs rel gr ar cr (.inl ht)
    cases e with
    | normal =>
      have hst : step P (lone fr' cs' w') = .next (lone (todoF fr' k) cs' w') := st_inScope q5.1 q5.2
      exact ⟨m', w', todoF fr' k, cs', q1.trans (.one hst), q2, q3, ⟨q4.tm, q4.df, q4.rd, q4.fn, q4.kind, q4.rnd⟩, ⟨q5.1, rfl⟩, q6⟩
    | exit id => obtain ⟨b1, k', b2, b3⟩ := q5; exact ⟨m', w', fr', cs', q1, q2, q3, q4, ⟨b1, k', b2, b3⟩, q6⟩
    | goto l => exact absurd rfl (hne l)
    | ret => exact ⟨m', w', fr', cs', q1, q2, q3, q4, q5, q6⟩
    | panic v => exact ⟨m', w', fr', cs', q1, q2, q3, q4, q5, q6⟩
  unfold xScope at h
  split at h
  · rename_i l a1 s1 hq
    obtain ⟨m', w', fr', cs', q1, q2, q3, q4, ⟨b1, k', b2, b3⟩, q6⟩ := ok.code c a s (.goto l) a1 s1 hq hc m w fr (.inScope body :: k) cs rel gr ar cr (.inl ht)
    have hgo : gotoIn l (.inScope body :: k) = (match findLabel body l with | some rest => some (.code rest :: .inScope body :: k) | none => gotoIn l k) := rfl
    split at h
    · rename_i rest hf
      rw [hf] at hgo
      have hst : step P (lone fr' cs' w') = .next (lone (todoF fr' (.code rest :: .inScope body :: k)) cs' w') := st_goto b1 b2 (b3.trans hgo)
      have hcr : CR m' a1.rc (todoF fr' (.code rest :: .inScope body :: k)).kind cs' := by
        show CR m' a1.rc fr'.kind cs'
        rw [q4.kind]; exact (cr.mono q3.mono).next q6
      obtain ⟨m2, w2, fr2, cs2, p1, p2, p3, p4, p5, p6⟩ := ok.scope rest body a1 s1 e a' s' h (findLabel_ok hb hf) hb m' w' (todoF fr' (.code rest :: .inScope body :: k)) k cs' q2 (gr.mono q3.mono)
        ⟨q4.tm (by intro v h; cases h), q4.df, q4.rd, b1, by show fr'.kind = _ ∨ fr'.kind = _; rw [q4.kind]; exact ar.kind⟩ hcr rfl
      exact ⟨m2, w2, fr2, cs2, (q1.trans (.one hst)).trans p1, p2, q3.trans p3, ⟨p4.tm, p4.df, p4.rd, p4.fn.trans q4.fn, p4.kind.trans q4.kind, p4.rnd.trans q4.rnd⟩, p5, q6.trans p6⟩
    · rename_i hf
      rw [hf] at hgo
      injection h with h; injection h with h1 h2; injection h1 with h1 h3
      subst h1; subst h2; subst h3
      exact ⟨m', w', fr', cs', q1, q2, q3, q4, ⟨b1, k', b2, b3.trans hgo⟩, q6⟩
  · rename_i hne
    refine out h ?_
    rintro l rfl
    exact hne l a' s' h
theorem block_goes (ok : Ok P E r) {id : Nat} {c : Code} {a : Ac} {s : St} {e : Ex} {a' : Ac} {s' : St} (hc : codeOk E c = true) (h : xBlock id (r (.code c a) s) = some (.ex e a', s'))
    {m : Mp} {w : World} {fr : Frame} {k : List Item} {cs : List Frame} (rel : Rel m s w) (gr : GR E m) (ar : AR m a fr) (cr : CR m a.rc fr.kind cs) (ht : fr.todo = .code c :: .inBlock id :: k) : Goes P m s w fr cs k a.rc e a' s' := by
  unfold xBlock at h
  split at h
  · rename_i i a1 s1 hq
    obtain ⟨m', w', fr', cs', q1, q2, q3, q4, ⟨b1, k', b2, b3⟩, q6⟩ := ok.code c a s (.exit i) a1 s1 hq hc m w fr (.inBlock id :: k) cs rel gr ar cr (.inl ht)
    have hex : exitTo i (.inBlock id :: k) = if id == i then some k else exitTo i k := rfl
    cases hb : Nat.beq i id with
    | true =>
      rw [hb] at h
      injection h with h; injection h with h1 h2; injection h1 with h1 h3
      subst h1; subst h2; subst h3
      rw [Nat.beq_eq] at hb
      subst hb
      rw [if_pos (by simp)] at hex
      have hst : step P (lone fr' cs' w') = .next (lone (todoF fr' k) cs' w') := st_exit b1 b2 (b3.trans hex)
      exact ⟨m', w', todoF fr' k, cs', q1.trans (.one hst), q2, q3, ⟨fun _ => q4.tm (by intro v h; cases h), q4.df, q4.rd, q4.fn, q4.kind, q4.rnd⟩, ⟨b1, rfl⟩, q6⟩
    | false =>
      rw [hb] at h
      injection h with h; injection h with h1 h2; injection h1 with h1 h3
      subst h1; subst h2; subst h3
      have hne : ¬ id = i := by rintro rfl; simp at hb
      rw [if_neg (by simpa using hne)] at hex
      exact ⟨m', w', fr', cs', q1, q2, q3, q4, ⟨b1, k', b2, b3.trans hex⟩, q6⟩
  · rename_i hne
    obtain ⟨m', w', fr', cs', q1, q2, q3, q4, q5, q6⟩ := ok.code c a s e a' s' h hc m w fr (.inBlock id :: k) cs rel gr ar cr (.inl ht)
    cases e with
    | normal =>
      have hst : step P (lone fr' cs' w') = .next (lone (todoF fr' k) cs' w') := st_inBlock q5.1 q5.2
      exact ⟨m', w', todoF fr' k, cs', q1.trans (.one hst), q2, q3, ⟨q4.tm, q4.df, q4.rd, q4.fn, q4.kind, q4.rnd⟩, ⟨q5.1, rfl⟩, q6⟩
    | exit i => exact (hne i a' s' h).elim
    | goto l => obtain ⟨b1, k', b2, b3⟩ := q5; exact ⟨m', w', fr', cs', q1, q2, q3, q4, ⟨b1, k', b2, b3⟩, q6⟩
    | ret => exact ⟨m', w', fr', cs', q1, q2, q3, q4, q5, q6⟩
    | panic v => exact ⟨m', w', fr', cs', q1, q2, q3, q4, q5, q6⟩
end
end Go.AM

namespace Go.AM
open Go
section
variable {P : Program} {E : Env} {r : K}
def resOne (tmps : Array Value) (r : ResultVar) : Sem Value := match r with
  | .tmp t => pure (tmps.getD t undef)
  | .cell a t => do loadVar t (← asAddr (tmps.getD a undef))
theorem results_eq (fn : Func) (tmps : Array Value) : results fn tmps = (do
    let vs ← fn.results.mapM (resOne tmps)
    pure (if h : vs.size = 1 then vs[0] else .tuple vs)) := by
  unfold results
  congr 1
noncomputable def resStep (E : Env) (s : St) (tm : List Value) (x : ResultVar) (vs : List Value) : Option (List Value) :=
  match x with
  | .tmp t => some (lk tm t :: vs)
  | .cell x t => match oLoad E s t (lk tm x) with
    | some (.v v, _) => some (v :: vs)
    | _ => none
theorem resV_cons (E : Env) (s : St) (tm : List Value) (x : ResultVar) (l : List ResultVar) : resV E s tm (x :: l) = match resV E s tm l with
    | none => none
    | some vs => resStep E s tm x vs := by
  cases x <;> rfl
theorem results_run (hE : EnvOK P E) {m : Mp} {s : St} {w : World} {tm : List Value} {fr : Frame} {fn : Func} (rel : Rel m s w) (ht : VRs m tm fr.tmps.toList) {vs : List Value} (h : resV E s tm fn.results.toList = some vs) :
    ∃ v', (results fn fr.tmps).run P w = .ok v' w ∧ VR m (tupV vs) v' := by
  have key : ∀ (l : List ResultVar) (vs : List Value), resV E s tm l = some vs → ∃ vs', (l.mapM (resOne fr.tmps)).run P w = .ok vs' w ∧ VRs m vs vs' := by
    intro l
    have hget : ∀ t, VR m (lk tm t) (fr.tmps.getD t undef) := by
      intro t
      have := ht.lk t
      have e : fr.tmps.getD t undef = fr.tmps.toList.getD t Go.undef := by
        simp [Array.getD_eq_getD_getElem?, List.getD]
      rw [e]; exact this
    induction l with
    | nil => intro vs h; injection h with h; subst h; exact ⟨[], by simp, .nil⟩
    | cons x l ih =>
      intro vs h
      rw [resV_cons] at h
      cases hr : resV E s tm l with
      | none => rw [hr] at h; cases h
      | some us =>
        rw [hr] at h
        have h' : resStep E s tm x us = some vs := h
        obtain ⟨us', q1, q2⟩ := ih us hr
        cases x with
        | tmp t =>
          injection h' with h'; subst h'
          refine ⟨fr.tmps.getD t undef :: us', ?_, .cons (hget t) q2⟩
          simp only [List.mapM_cons, resOne, Sem.run_bind, Sem.run_pure, Result.andThen_ok, q1]
        | cell x t =>
          simp only [resStep] at h'
          split at h'
          · rename_i v s2 hl
            injection h' with h'; subst h'
            have hx := hget x
            unfold oLoad at hl
            split at hl
            · rename_i k off hk
              rw [hk] at hx
              obtain ⟨b, nn, e1, e2⟩ := hx.ptr_inv
              cases htt : T.get E.tys t with
              | none => rw [htt] at hl; cases hl
              | some ti =>
                rw [htt] at hl
                simp only at hl
                cases hld : loadR s k off ti.size with
                | none => rw [hld] at hl; cases hl
                | some zs =>
                  rw [hld] at hl
                  simp only at hl
                  cases hw : wrapV ti.k zs with
                  | none => rw [hw] at hl; cases hl
                  | some z =>
                    rw [hw] at hl; injection hl with hl; injection hl with h1 h2; injection h1 with h1; subst h1
                    obtain ⟨v', p1, p2⟩ := load_var (P := P) hE rel htt e2 hld hw
                    refine ⟨v' :: us', ?_, .cons p2 q2⟩
                    simp only [List.mapM_cons, resOne, Sem.run_bind, e1, asAddr, Sem.run_pure, Result.andThen_ok, p1, q1]
            · cases hl
          · cases h'
  obtain ⟨vs', q1, q2⟩ := key _ _ h
  have hm : (fn.results.mapM (resOne fr.tmps)).run P w = .ok ⟨vs'⟩ w := by
    rw [Array.mapM_eq_mapM_toList]
    simp only [Sem.run_map, q1, Result.andThen_ok]
  refine ⟨(if h : (⟨vs'⟩ : Array Value).size = 1 then (⟨vs'⟩ : Array Value)[0] else .tuple ⟨vs'⟩), ?_, ?_⟩
  · rw [results_eq]
    simp only [Sem.run_bind, hm, Result.andThen_ok, Sem.run_pure]
  · cases q2 with
    | nil => exact .tuple .nil
    | cons a b => cases b with
      | nil => exact a
      | cons b c =>
        rw [dif_neg (by simp)]
        exact .tuple (.cons a (.cons b c))
/-! ## calls -/
theorem body_ends (ok : Ok P E r) {fn : Func} {body : Code} (hcode : codeOk E body = true) {a : Ac} {s : St} {o : Out} {rc' : Option Value} {s' : St} (h : xBody r fn (r (.code body a) s) = some (.out o rc', s'))
    {m : Mp} {w : World} {fr : Frame} {cs : List Frame} (hfn : P.funcs[fr.fn]? = some fn) (hro : fr.roundOf = none) (rel : Rel m s w) (gr : GR E m) (ar : AR m a fr) (cr : CR m a.rc fr.kind cs) (ht : fr.todo = [.code body]) : Ends P m s w fr cs a.rc o rc' s' := by
  unfold xBody at h
  split at h
  · rename_i e a1 s1 hq
    obtain ⟨m1, w1, fr1, cs1, q1, q2, q3, q4, q5, q6⟩ := ok.code body a s e a1 s1 hq hcode m w fr [] cs rel gr ar cr (.inl ht)
    have hk1 : fr1.kind = .normal ∨ fr1.kind = .deferred := by rw [q4.kind]; exact ar.kind
    have hc1 : CR m1 a1.rc fr1.kind cs1 := by rw [q4.kind]; exact (cr.mono q3.mono).next q6
    have fin : ∀ {fr2 : Frame} {pan : Option Value}, Steps P (lone fr1 cs1 w1) (lone fr2 cs1 w1) → fr2.fn = fr1.fn → fr2.kind = fr1.kind → fr2.roundOf = fr1.roundOf → fr2.defers = fr1.defers → fr2.tmps = fr1.tmps →
        ((∀ v, pan = some v → a1.df ≠ []) → VRs m1 a1.tm fr1.tmps.toList) → PanR m1 pan fr2 →
        r (.unwind fn a1 pan) s1 = some (.out o rc', s') → Ends P m s w fr cs a.rc o rc' s' := by
      intro fr2 pan g1 g2 g3 g4 g5 g6 g7 g8 g9
      obtain ⟨m2, w2, fr3, cs2, p1, p2, p3, p4, p5, p6⟩ := ok.unwind fn a1 pan s1 o rc' s' g9 m1 w1 fr2 cs1 q2 (gr.mono q3.mono) (by rw [g6]; exact g7) (by rw [g5]; exact q4.df) (by rw [g4, q4.rnd]; exact hro) g8 (by rw [g2, q4.fn]; exact hfn) (by rw [g3]; exact hk1) (by rw [g3]; exact hc1)
      exact ⟨m2, w2, fr3, cs2, (q1.trans g1).trans p1, p2, q3.trans p3, ⟨p4.1.trans (g3.trans q4.kind), p4.2.trans (g2.trans q4.fn)⟩, p5, q6.trans p6⟩
    have hro1 : fr1.roundOf = none := by rw [q4.rnd]; exact hro
    cases e with
    | normal =>
      have hst : step P (lone fr1 cs1 w1) = .next (lone (modeF fr1 .returning) cs1 w1) := st_end q5.1 hro1 q5.2
      exact fin (pan := none) (.one hst) rfl rfl rfl rfl rfl (fun _ => q4.tm (by intro v h; cases h)) (show FrameMode.returning = _ from rfl) h
    | ret =>
      obtain ⟨b1, k', b2⟩ := q5
      have hst : step P (lone fr1 cs1 w1) = .next (lone (modeF fr1 .returning) cs1 w1) := st_ret b1 hro1 b2
      exact fin (pan := none) (.one hst) rfl rfl rfl rfl rfl (fun _ => q4.tm (by intro v h; cases h)) (show FrameMode.returning = _ from rfl) h
    | panic v =>
      obtain ⟨_, v', b1, b2⟩ := q5
      exact fin (pan := some v) (Steps.refl P _) rfl rfl rfl rfl rfl (fun hd => q4.tm (by intro u hu; exact hd v rfl)) ⟨v', b1, b2⟩ h
    | exit id => cases h
    | goto l => cases h
  · cases h
theorem call_run (hE : EnvOK P E) {f : FuncId} {fn : Func} {body : Code} (hf : T.get E.fns f = some fn) (hb : fn.body = some body) (args : Array Value) (w : World) : (callFunc f args).run P w = .ok (.enter f args) w := by
  obtain ⟨h1, h2⟩ := hE.fns f fn hf
  have hp : (program).run P w = .ok P w := rfl
  simp only [callFunc, Sem.run_bind, hp, Result.andThen_ok, h1, h2, hb, Option.isNone_some, Bool.false_eq_true, if_false, Sem.run_pure]
theorem call_ok (hE : EnvOK P E) (ok : Ok P E r) {f : FuncId} {args : List Value} {rc : Option Value} {s : St} {o : Out} {rc' : Option Value} {s' : St} (h : xCall E r f args rc s = some (.out o rc', s')) {m : Mp} {w : World} {args' : List Value} (rel : Rel m s w) (gr : GR E m) (ha : VRs m args args') :
    (callFunc f ⟨args'⟩).run P w = .ok (.enter f ⟨args'⟩) w ∧ ∀ kind cs, (kind = .normal ∨ kind = .deferred) → CR m rc kind cs → Ends P m s w (Frame.enter P f ⟨args'⟩ kind) cs rc o rc' s' := by
  unfold xCall at h
  rw [hE.prm f] at h
  simp only at h
  unfold xCall2 at h
  split at h
  · cases h
  · rename_i fn hf
    split at h
    · cases h
    · rename_i body hb
      refine ⟨call_run hE hf hb _ w, fun kind cs hk cr => ?_⟩
      obtain ⟨h1, h2⟩ := hE.fns f fn hf
      refine body_ends ok (hE.code f fn body hf hb) h (by exact h1) rfl rel gr ⟨?_, .nil, .no, rfl, hk⟩ cr (by simp [Frame.enter, h1, hb])
      have hl := ha.length
      rw [catV_eq, undefs_eq, lenV_eq]
      have : (Frame.enter P f ⟨args'⟩ kind).tmps.toList = args' ++ List.replicate (fn.ntmps - args.length) undef := by
        simp [Frame.enter, h1, hl]
      rw [this]
      exact ha.append (VRs.replicate .undef _)
/-! ## deferred calls -/
theorem unwind_ok (hE : EnvOK P E) (ok : Ok P E r) {fn : Func} {a : Ac} {pan : Option Value} {s : St} {o : Out} {rc' : Option Value} {s' : St} (h : xUnwind E r fn a pan s = some (.out o rc', s')) {m : Mp} {w : World} {fr : Frame} {cs : List Frame}
    (rel : Rel m s w) (gr : GR E m) (ht : (∀ v, pan = some v → a.df ≠ []) → VRs m a.tm fr.tmps.toList) (hd : DfRs m a.df fr.defers) (hro : fr.roundOf = none)
    (hm : PanR m pan fr) (hfn : P.funcs[fr.fn]? = some fn) (hk : fr.kind = .normal ∨ fr.kind = .deferred) (cr : CR m a.rc fr.kind cs) : Ends P m s w fr cs a.rc o rc' s' := by
  obtain ⟨tm, df, rc, rd⟩ := a
  have hdying : stepG P true { frame := fr, callers := cs, status := .running, dying := none } w = unwind P true fr cs none w := by
    cases pan with
    | none => simp only [PanR] at hm; simp [stepG, hm]
    | some v => obtain ⟨v', hm, _⟩ := hm; simp [stepG, hm]
  simp only at hd ht cr
  generalize hde : fr.defers = ds0 at hd
  cases hd with
  | nil =>
    unfold xUnwind at h
    simp only at h
    cases pan with
    | some v =>
      injection h with h; injection h with h1 h2; injection h1 with h1 h3
      subst h1; subst h2; subst h3
      exact ⟨m, w, fr, cs, Steps.refl P _, rel, Ext.refl m s w, ⟨rfl, rfl⟩, ⟨hro, hde, fn, hfn, hm⟩, CsR.refl _ _⟩
    | none =>
      simp only at h
      split at h
      · rename_i vs hv
        injection h with h; injection h with h1 h2; injection h1 with h1 h3
        subst h1; subst h2; subst h3
        obtain ⟨v', q1, q2⟩ := results_run (P := P) hE rel (ht (by simp)) hv
        exact ⟨m, w, fr, cs, Steps.refl P _, rel, Ext.refl m s w, ⟨rfl, rfl⟩, ⟨hro, hde, fn, hfn, hm, v', q1, q2⟩, CsR.refl _ _⟩
      · cases h
  | cons hd1 hd2 =>
    rename_i ds ds'
    have htm : VRs m tm fr.tmps.toList := ht (by simp)
    cases hd1 with
    | coll hb =>
      rename_i k b n
      unfold xUnwind at h
      simp only at h
      split at h
      · rename_i hg
        obtain ⟨b', n', o', g1, g2, g3⟩ := rel.ob k _ hg
        rw [hb] at g1; injection g1 with g1; injection g1 with g1 g1'; subst g1; subst g1'
        cases g3 with
        | defd _ _ =>
        have g2 : w.heap[b]? = some (.deferred (some [])) := g2
        obtain ⟨r', x'⟩ := rel.put (o := .defd true) (o' := .deferred none) hg (by simp [isRo]) hb (.defd true n)
        have htk : (Instr.takeDeferred b).run P w = .ok [] (putW w b (.deferred none)) := by
          simp [Instr.takeDeferred, getObj, setObj, Sem.run, g2, putW]
        have hst : step P (lone fr cs w) = .next (lone { fr with defers := ds' } cs (putW w b (.deferred none))) := by
          refine step_lone_go ?_
          rw [hdying]
          simp [unwind, hde, htk]
        obtain ⟨m2, w2, fr2, cs2, p1, p2, p3, p4, p5, p6⟩ := ok.unwind fn ⟨tm, ds, rc, rd⟩ pan _ o rc' s' h m _ { fr with defers := ds' } cs r' gr (fun _ => htm) hd2 hro hm hfn hk cr
        exact ⟨m2, w2, fr2, cs2, .head hst p1, p2, x'.trans p3, p4, p5, p6⟩
      · cases h
    | fn hcap hargs =>
      rename_i g cap cap' args args'
      unfold xUnwind at h
      simp only at h
      unfold xUnw2 at h
      split at h
      · rename_i v0 rc2 s2 hq
        obtain ⟨c1, c2⟩ := ok.call g (catV args cap) pan s (.ret v0) rc2 s2 hq m w (args' ++ cap') rel gr (by rw [catV_eq]; exact hargs.append hcap)
        have hcr : CR m pan .deferred ({ fr with defers := ds' } :: cs) := by
          cases pan with
          | none =>
            intro f hf
            simp only [PanR] at hm
            simp [tryRecover, hf, hm]
          | some v =>
            obtain ⟨v', hm1, hm2⟩ := hm
            exact ⟨rfl, _, cs, v', [], rfl, hm1, hm2⟩
        obtain ⟨m1, w1, fr3, cs3, p1, p2, p3, p4, p5, p6⟩ := c2 .deferred ({ fr with defers := ds' } :: cs) (.inr rfl) hcr
        obtain ⟨l1, l2, fn3, l3, l4, v', l5, l6⟩ := p5
        have hkind : fr3.kind = .deferred := p4.1
        have hst : step P (lone fr cs w) = .next (lone (Frame.enter P g ⟨args' ++ cap'⟩ .deferred) ({ fr with defers := ds' } :: cs) w) := by
          refine step_lone_go ?_
          rw [hdying]
          have e0 : (⟨args'⟩ : Array Value) ++ ⟨cap'⟩ = ⟨args' ++ cap'⟩ := by apply Array.ext'; simp
          have hinv : (invoke (.fn (.func g) ⟨cap'⟩) ⟨args'⟩).run P w = .ok (.enter g ⟨args' ++ cap'⟩) w := by
            simp only [invoke, e0]; exact c1
          simp [unwind, hde, callDeferred, hinv]
        -- back in the frame
        have fin : ∀ fr4 : Frame, step P (lone fr3 cs3 w1) = .next (lone fr4 cs w1) → fr4.fn = fr.fn → fr4.kind = fr.kind → fr4.roundOf = fr.roundOf → fr4.defers = ds' → fr4.tmps = fr.tmps →
            PanR m1 rc2 fr4 → Ends P m s w fr cs rc o rc' s' := by
          intro fr4 g1 g2 g3 g4 g5 g6 g7
          obtain ⟨m2, w2, fr5, cs5, t1, t2, t3, t4, t5, t6⟩ := ok.unwind fn ⟨tm, ds, rc, rd⟩ rc2 s2 o rc' s' h m1 w1 fr4 cs p2 (gr.mono p3.mono) (by rw [g6]; exact fun _ => htm.mono p3.mono) (by rw [g5]; exact hd2.mono p3.mono) (by rw [g4]; exact hro) g7 (by rw [g2]; exact hfn) (by rw [g3]; exact hk) (by rw [g3]; exact cr.mono p3.mono)
          exact ⟨m2, w2, fr5, cs5, .head hst (p1.trans (.head g1 t1)), t2, p3.trans t3, ⟨t4.1.trans g3, t4.2.trans g2⟩, t5, t6⟩
        rcases p6 with ⟨e1, e2⟩ | ⟨e1, e2, c, rest, v2, older, e3, e4, e5⟩
        · subst e1; subst e2
          refine fin { fr with defers := ds' } ?_ rfl rfl rfl rfl rfl ?_
          · refine step_lone_go ?_
            cases rc2 with
            | none =>
              simp only [PanR] at hm
              simp [stepG, unwind, doReturn, l4, l2, l3, l5, hkind, hm]
            | some v =>
              obtain ⟨v', hm1, _⟩ := hm
              simp [stepG, unwind, doReturn, l4, l2, l3, l5, hkind, hm1]
          · cases rc2 with
            | none => exact hm
            | some v => obtain ⟨v', hm1, hm2⟩ := hm; exact ⟨v', hm1, hm2.mono p3.mono⟩
        · subst e1
          injection e3 with e3 e3'
          subst e3; subst e3'; subst e5
          have hold : older = [] := by
            cases pan with
            | none => exact absurd rfl e2
            | some v =>
              obtain ⟨v', hm1, _⟩ := hm
              have : FrameMode.panicking [⟨v', false, false⟩] = FrameMode.panicking (⟨v2, false, false⟩ :: older) := by rw [← hm1]; exact e4
              injection this with this; injection this with _ this; exact this.symm
          subst hold
          refine fin (modeF { fr with defers := ds' } .returning) ?_ rfl rfl rfl rfl rfl rfl
          refine step_lone_go ?_
          simp [stepG, unwind, doReturn, l4, l2, l3, l5, hkind, modeF]
      · cases h
end
end Go.AM

namespace Go.AM
open Go
section
variable {P : Program} {E : Env} {r : K}
theorem loopAt {m : Mp} {s : St} {w : World} (rel : Rel m s w) {k b n : Nat} {q : Lp} (hm : m k = some (b, n)) (h : T.get s.heap k = some (.loop q)) : ∃ q', w.heap[b]? = some (.loop q') ∧ LR m q q' := by
  obtain ⟨b', n', o', h1, h2, h3⟩ := rel.ob k _ h
  rw [hm] at h1; injection h1 with h1; injection h1 with h1 h1'; subst h1; subst h1'
  cases h3 with
  | loop _ hl => exact ⟨_, h2, hl⟩
theorem run_getLp {w : World} {b : Nat} {q : Loop} (h : w.heap[b]? = some (.loop q)) : (Instr.getLoop b).run P w = .ok q w := by
  simp [Instr.getLoop, getObj, Sem.run, h]
theorem run_setLp {w : World} {b : Nat} {q : Loop} (o : Obj) (h : w.heap[b]? = some (.loop q)) : (setObj b o).run P w = .ok () (putW w b o) := by simp [setObj, Sem.run, h, putW]
theorem zipSet_rel {m : Mp} : ∀ (ps : List Tmp) {vs vs' : List Value} {tm : List Value} {ts : Array Value}, VRs m vs vs' → VRs m tm ts.toList → VRs m (zipSet ps vs tm) (((ps.zip vs').foldl (fun tmps (x : Tmp × Value) => tmps.setIfInBounds x.1 x.2) ts).toList)
  | [], vs, vs', tm, ts, _, ht => by simpa [zipSet] using ht
  | p :: ps, _, _, tm, ts, .nil, ht => by
    show VRs m tm _
    simpa using ht
  | p :: ps, _, _, tm, ts, .cons (x := v) (y := v') (xs := vs) (ys := vs') hv hs, ht => by
    show VRs m (zipSet ps vs (su tm v p)) _
    simp only [List.zip_cons_cons, List.foldl_cons]
    exact zipSet_rel ps hs (by simp only [su_eq, Array.toList_setIfInBounds]; exact ht.set p hv)
theorem loop_put {m : Mp} {s : St} {w : World} (rel : Rel m s w) {k b n : Nat} {q q1 : Lp} {q' : Loop} (hm : m k = some (b, n)) (h : T.get s.heap k = some (.loop q)) (hl : LR m q1 q') :
    Rel m (s.put k (some (.loop q1))) (putW w b (.loop q')) ∧ Ext m s w m (s.put k (some (.loop q1))) (putW w b (.loop q')) :=
  rel.put h (by simp [isRo]) hm (.loop n hl)
/-- a round of a loop over a function -/
theorem round_ok (ok : Ok P E r) {l : Nat} {args : List Value} {s : St} {o : Out} {rc' : Option Value} {s' : St} (h : xRound E r l args s = some (.out o rc', s')) {m : Mp} {w : World} {l' nn : Nat} {args' : List Value} (rel : Rel m s w) (gr : GR E m) (hl : m l = some (l', nn)) (ha : VRs m args args') :
    ∃ f tmps asg body, (Instr.yield l' ⟨args'⟩).run P w = .ok (.round l' f tmps asg body) w ∧ Called P m s w (Frame.round l' f tmps asg body .normal) o s' := by
  unfold xRound at h
  split at h
  · rename_i q hq
    obtain ⟨q', g1, g2⟩ := loopAt rel hl hq
    split at h
    · rename_i hlen hcode
      rw [Nat.beq_eq, lenV_eq] at hlen
      have hcode2 : (match codeOk E q.assign with | true => codeOk E q.body | false => false) = true := hcode
      obtain ⟨hc1, hc2⟩ := and_match hcode2
      have hpar : q'.params.size = q.params.length := by rw [← g2.params]; simp
      have hy : (Instr.yield l' ⟨args'⟩).run P w = .ok (.round l' q'.fn ((q'.params.zip ⟨args'⟩).foldl (fun tmps (x : Tmp × Value) => tmps.setIfInBounds x.1 x.2) q'.tmps) q'.assign q'.body) w := by
        have hsz : ¬ (⟨args'⟩ : Array Value).size ≠ q'.params.size := by
          have := ha.length
          simp [hpar]; omega
        simp only [Instr.yield, Sem.run_bind, run_getLp g1, Result.andThen_ok]
        rw [if_neg hsz]
        rfl
      refine ⟨_, _, _, _, hy, ?_⟩
      intro c cs
      have htm : VRs m (zipSet q.params args q.tmps) ((q'.params.zip ⟨args'⟩).foldl (fun tmps (x : Tmp × Value) => tmps.setIfInBounds x.1 x.2) q'.tmps).toList := by
        have := zipSet_rel (m := m) q.params ha g2.tmps
        have e : (q'.params.zip ⟨args'⟩).foldl (fun tmps (x : Tmp × Value) => tmps.setIfInBounds x.1 x.2) q'.tmps = (q.params.zip args').foldl (fun tmps (x : Tmp × Value) => tmps.setIfInBounds x.1 x.2) q'.tmps := by
          rw [← g2.params, ← Array.foldl_toList, Array.toList_zip]
        rw [e]; exact this
      let fr0 : Frame := Frame.round l' q'.fn ((q'.params.zip ⟨args'⟩).foldl (fun tmps (x : Tmp × Value) => tmps.setIfInBounds x.1 x.2) q'.tmps) q'.assign q'.body .normal
      have ar0 : AR m ⟨zipSet q.params args q.tmps, [], none, some l⟩ fr0 := ⟨htm, .nil, .yes hl, rfl, .inl rfl⟩
      have cr0 : ∀ m, CR m none CallKind.normal (c :: cs) := by intro m f hf; simp [tryRecover, hf]
      unfold xRound2 at h
      split at h
      · rename_i a1 s1 hrun
        obtain ⟨m1, w1, fr1, cs1, p1, p2, p3, p4, p5, p6⟩ := ok.code q.assign _ s .normal a1 s1 hrun hc1 m w fr0 [.beginRound, .code q'.body] (c :: cs) rel gr ar0 (cr0 m) (.inl (by rw [← g2.assign]; rfl))
        have hcs1 : cs1 = c :: cs := by
          rcases p6 with ⟨_, h⟩ | ⟨_, h, _⟩
          · exact h
          · exact absurd rfl h
        have hrc1 : a1.rc = none := by
          rcases p6 with ⟨h, _⟩ | ⟨h, _, _⟩ <;> exact h
        subst hcs1
        split at h
        · rename_i f t p ag b pe df hq1
          obtain ⟨q1', u1, u2⟩ := loopAt p2 (p3.mono _ _ hl) hq1
          have hst1 : q1'.state = .ready := u2.state
          have hro1 : fr1.roundOf = some l' := p4.rnd
          have hkd1 : fr1.kind = .normal := p4.kind
          -- the round begins
          have hLR : LR m1 ⟨f, t, p, ag, b, .busy, pe, df⟩ { q1' with state := .busy } := ⟨u2.tmps, u2.params, u2.assign, u2.body, rfl, u2.pending, u2.defers⟩
          obtain ⟨r2, x2⟩ := loop_put p2 (p3.mono _ _ hl) hq1 hLR
          have hbegin : (Instr.beginRound l').run P w1 = .ok () (putW w1 l' (.loop { q1' with state := .busy })) := by
            simp only [Instr.beginRound, Sem.run_bind, run_getLp u1, Result.andThen_ok, run_setLp _ u1, hst1]
            rfl
          have hst : step P (lone fr1 (c :: cs) w1) = .next (lone (todoF fr1 [.code q'.body]) (c :: cs) (putW w1 l' (.loop { q1' with state := .busy }))) := by
            refine step_lone_go ?_
            have hb2 : (do fr1.roundOf.elim (stuck "beginRound: no round") Instr.beginRound; pure .skip : Sem Next).run P w1 = .ok .skip (putW w1 l' (.loop { q1' with state := .busy })) := by
              rw [hro1]
              simp only [Option.elim, Sem.run_bind, hbegin, Result.andThen_ok, Sem.run_pure]
            have hex : stepG P true { frame := fr1, callers := c :: cs, status := .running, dying := none } w1 = stepG.apply P true fr1 (c :: cs) none (do fr1.roundOf.elim (stuck "beginRound: no round") Instr.beginRound; pure .skip) w1 := by
              simp only [stepG, stepG.exec, p5.1, p5.2]
            rw [hex]
            generalize (do fr1.roundOf.elim (stuck "beginRound: no round") Instr.beginRound; pure .skip : Sem Next) = sm at hb2 ⊢
            simp [stepG.apply, hb2, Frame.finish, p5.2, todoF]
          have ar1 : AR m1 a1 (todoF fr1 [.code q'.body]) := ⟨p4.tm (by intro v h; cases h), p4.df, p4.rd, p5.1, .inl hkd1⟩
          have cr1 : CR m1 a1.rc (todoF fr1 [.code q'.body]).kind (c :: cs) := by
            rw [hrc1]
            show CR m1 none fr1.kind (c :: cs)
            rw [hkd1]; exact cr0 m1
          unfold xRound3 at h
          split at h
          · rename_i e a2 s2 hrun2
            split at h
            · cases h
            · rename_i hdf
              obtain ⟨m2, w2, fr2, cs2, t1, t2, t3, t4, t5, t6⟩ := ok.code q.body a1 _ e a2 s2 hrun2 hc2 m1 _ (todoF fr1 [.code q'.body]) [] (c :: cs) r2 (gr.mono p3.mono) ar1 cr1 (.inl (by rw [← g2.body]; rfl))
              have hcs2 : cs2 = c :: cs := by
                rcases t6 with ⟨_, h⟩ | ⟨_, h, _⟩
                · exact h
                · exact absurd hrc1 h
              subst hcs2
              have hsteps : Steps P (lone fr0 (c :: cs) w) (lone fr2 (c :: cs) w2) := p1.trans (.head hst t1)
              have hext : Ext m s w m2 s2 w2 := (p3.trans x2).trans t3
              have hro2 : fr2.roundOf = some l' := t4.rnd.trans hro1
              have hkd2 : fr2.kind = .normal := t4.kind.trans hkd1
              have hdf2 : fr2.defers = [] := by
                have := t4.df
                rw [hdf] at this
                cases hd : fr2.defers with
                | nil => rfl
                | cons x y => rw [hd] at this; cases this
              -- the end of the round
              have fin : ∀ (j : Option Code), (∀ w' q2', w2.heap[l']? = some (.loop q2') → (Instr.endRound l' j).run P w2 = .ok (.bool j.isNone) w' → step P (lone fr2 (c :: cs) w2) = .next (lone (c.finish (.bool j.isNone)) cs w')) →
                  xFin l j s2 = some (.out o rc', s') → ∃ m' w', Rel m' s' w' ∧ Ext m s w m' s' w' ∧ FinR P m' o fr0 c cs w w' := by
                intro j hj hx
                unfold xFin at hx
                split at hx
                · rename_i f2 t2' p2' ag2 b2 st2 pe2 df2 hq2
                  injection hx with hx; injection hx with h1 h2; injection h1 with h1 h3
                  subst h1; subst h2
                  have hl2 := t3.mono _ _ (x2.mono _ _ (p3.mono _ _ hl))
                  obtain ⟨q2', v1, v2⟩ := loopAt t2 hl2 hq2
                  have hLR2 : LR m2 ⟨f2, t2', p2', ag2, b2, endSt j, j, df2⟩ { q2' with state := if j.isNone then .ready else .done, pending := j } :=
                    ⟨v2.tmps, v2.params, v2.assign, v2.body, by cases j <;> rfl, rfl, v2.defers⟩
                  obtain ⟨r4, x4⟩ := loop_put t2 hl2 hq2 hLR2
                  have hend : (Instr.endRound l' j).run P w2 = .ok (.bool j.isNone) (putW w2 l' (.loop { q2' with state := if j.isNone then .ready else .done, pending := j })) := by
                    simp only [Instr.endRound, Sem.run_bind, run_getLp v1, Result.andThen_ok, run_setLp _ v1, Sem.run_pure]
                  refine ⟨m2, _, r4, hext.trans x4, .bool j.isNone, ?_, hsteps.trans (.one (hj _ q2' v1 hend))⟩
                  cases j <;> exact .bool _
                · cases hx
              cases e with
              | normal =>
                refine fin none (fun w' q2' _ he => step_lone_go ?_) h
                simp [stepG, stepG.exec, t5.1, t5.2, hro2, he, doReturn, hkd2]
              | ret =>
                obtain ⟨b1, k', b2⟩ := t5
                refine fin (some .ret) (fun w' q2' _ he => step_lone_go ?_) h
                simp [stepG, stepG.exec, b1, b2, hro2, he, doReturn, hkd2]
              | exit i =>
                obtain ⟨b1, k', b2, b3⟩ := t5
                have b3' : exitTo i k' = none := b3
                refine fin (some (.exit i)) (fun w' q2' _ he => step_lone_go ?_) h
                simp [stepG, stepG.exec, b1, b2, b3', hro2, he, doReturn, hkd2]
              | goto i =>
                obtain ⟨b1, k', b2, b3⟩ := t5
                have b3' : gotoIn i k' = none := b3
                refine fin (some (.goto i)) (fun w' q2' _ he => step_lone_go ?_) h
                simp [stepG, stepG.exec, b1, b2, b3', hro2, he, doReturn, hkd2]
              | panic v =>
                injection h with h; injection h with h1 h2; injection h1 with h1 h3
                subst h1; subst h2
                obtain ⟨⟨ops, ll, k', htd⟩, v', b1, b2⟩ := t5
                refine ⟨m2, w2, t2, hext, v', b2, hsteps.trans (.one (step_lone_go ?_))⟩
                have hcat : fr2.catches P = false := by
                  unfold Frame.catches
                  rw [htd]
                  cases P.funcs[fr2.fn]? <;> rfl
                simp [stepG, unwind, b1, hdf2, hcat]
          · cases h
        · cases h
      · cases h
    · cases h
  · cases h
end
end Go.AM

namespace Go.AM
open Go
section
variable {P : Program} {E : Env} {r : K}
/-- behind the loop over a function has been entered: the call, and the way back -/
theorem range2_ok (ok : Ok P E r) {f : Value} {fv : Value} {ps : List Tmp} {asg body : Code} {a : Ac} {s : St} {dr : Nat} {fid : FuncId} {e : Ex} {a' : Ac} {s' : St}
    (h : xRange2 E r f ps asg body a s dr fid = some (.ex e a', s')) {m : Mp} {w : World} {fr : Frame} {k : List Item} {cs : List Frame} {q' : Loop} (rel : Rel m s w) (gr : GR E m) (ar : AR m a fr) (cr : CR m a.rc fr.kind cs)
    (hf : VR m f fv) (hq : ∀ m', (∀ k p, m k = some p → m' k = some p) → LR m' ⟨fid, a.tm, ps, asg, body, .ready, none, dr⟩ q')
    {m0 : Mp} {s0 : St} {w0 : World} {fr0 : Frame} (hstep : ∀ nx args, (do let d ← Deferred.ofValue fv #[.func (.yield w.heap.size) #[] #[]]; invoke d.target d.args : Sem Next).run P (pushW w (.loop q')) = .ok (.enter nx args) (pushW w (.loop q')) →
      step P (lone fr0 cs w0) = .next (lone (Frame.enter P nx args .normal) ({ fr with todo := .inRangeFunc w.heap.size :: k } :: cs) (pushW w (.loop q'))))
    (hfn : fr.fn = fr0.fn) (hkd : fr.kind = fr0.kind) (hrn : fr.roundOf = fr0.roundOf) (hext0 : Ext m0 s0 w0 m s w) : Goes P m0 s0 w0 fr0 cs k a.rc e a' s' := by
  unfold xRange2 at h
  split at h
  · rename_i fn first cap
    split at h
    · rename_i g
      obtain ⟨hp, nx⟩ := s
      simp only at h
      have hnone : m nx = none := rel.low _ (Nat.le_refl _)
      obtain ⟨r1, x1⟩ := rel.new (o := .loop ⟨fid, a.tm, ps, asg, body, .ready, none, dr⟩) (o' := .loop q') (n := 0) (.loop 0 (hq _ (setM_mono hnone)))
      have hmono := setM_mono (b := w.heap.size) (n := 0) hnone
      obtain ⟨g1, f1, c1, rfl, hg, hff, hcc⟩ := func_inv hf
      cases hg
      unfold xEnd at h
      split at h
      · rename_i v0 rc0 s2 hcall
        have hargs : VRs (setM m nx w.heap.size 0) (catV first (.func (.yield nx) #[] #[] :: cap)) (f1 ++ .func (.yield w.heap.size) #[] #[] :: c1) := by
          rw [catV_eq]
          exact (hff.mono hmono).append (.cons (.func (.yield (setM_self _ _ _)) .nil .nil) (hcc.mono hmono))
        obtain ⟨d1, d2⟩ := ok.call g _ none _ (.ret v0) rc0 s2 hcall _ _ _ r1 (gr.mono hmono) hargs
        have hsm : (do let d ← Deferred.ofValue (.func (.func g) ⟨f1⟩ ⟨c1⟩) #[.func (.yield w.heap.size) #[] #[]]; invoke d.target d.args : Sem Next).run P (pushW w (.loop q')) = .ok (.enter g ⟨f1 ++ .func (.yield w.heap.size) #[] #[] :: c1⟩) (pushW w (.loop q')) := by
          simp only [Deferred.ofValue, Sem.run_bind, Sem.run_pure, Result.andThen_ok, invoke]
          rw [← d1]
          congr 2
          apply Array.ext'; simp
        have hst := hstep _ _ hsm
        have hcalled := called_of (P := P) (fr := Frame.enter P g ⟨f1 ++ .func (.yield w.heap.size) #[] #[] :: c1⟩ .normal) rfl (fun cs hcr => d2 .normal cs (.inl rfl) hcr)
        obtain ⟨m2, w2, t1, t2, v', t3, t4⟩ := hcalled { fr with todo := .inRangeFunc w.heap.size :: k } cs
        have hfin : ({ fr with todo := .inRangeFunc w.heap.size :: k } : Frame).finish v' = { fr with todo := .endRangeFunc w.heap.size :: k } := rfl
        rw [hfin] at t4
        split at h
        · rename_i f2 tt2 p2 ag2 b2 st2 pe2 df2 hq2
          have hl2 : m2 nx = some (w.heap.size, 0) := t2.mono _ _ (setM_self _ _ _)
          obtain ⟨q2, u1, u2⟩ := loopAt t1 hl2 hq2
          have hall : Ext m0 s0 w0 m2 s2 w2 := (hext0.trans x1).trans t2
          have hmono2 : ∀ k p, m k = some p → m2 k = some p := fun k p h => t2.mono _ _ (hmono _ _ h)
          have hsteps : Steps P (lone fr0 cs w0) (lone { fr with todo := .endRangeFunc w.heap.size :: k } cs w2) := .head hst t4
          -- the end of the loop
          have hend : st2 ≠ .busy → (Instr.endLoop w.heap.size).run P w2 = .ok pe2 (putW w2 w.heap.size (.loop { q2 with state := .exhausted })) := by
            intro hne
            have hqs : q2.state = st2 := u2.state
            have : (q2.state == LoopState.busy) = false := by rw [hqs]; cases st2 <;> first | rfl | exact absurd rfl hne
            simp only [Instr.endLoop, Sem.run_bind, run_getLp u1, Result.andThen_ok, this, Bool.false_eq_true, if_false, run_setLp _ u1, Sem.run_pure]
            have hp : q2.pending = pe2 := u2.pending
            rw [hp]
          have hLR : LR m2 ⟨f2, tt2, p2, ag2, b2, .exhausted, pe2, df2⟩ { q2 with state := .exhausted } := ⟨u2.tmps, u2.params, u2.assign, u2.body, rfl, u2.pending, u2.defers⟩
          obtain ⟨r4, x4⟩ := loop_put t1 hl2 hq2 hLR
          have hst2 : st2 ≠ .busy → step P (lone { fr with todo := .endRangeFunc w.heap.size :: k } cs w2) = .next (lone (todoF fr ((pe2.map Item.code).toList ++ k)) cs (putW w2 w.heap.size (.loop { q2 with state := .exhausted }))) := by
            intro hne
            refine step_lone_go ?_
            simp [stepG, stepG.exec, ar.mode, hend hne, todoF]
          have main : st2 ≠ .busy → (match pe2 with
              | none => some (Res.ex .normal a, s2.put nx (some (.loop ⟨f2, tt2, p2, ag2, b2, .exhausted, pe2, df2⟩)))
              | some c => match codeOk E c with
                | true => r (.code c a) (s2.put nx (some (.loop ⟨f2, tt2, p2, ag2, b2, .exhausted, pe2, df2⟩)))
                | false => none) = some (.ex e a', s') → Goes P m0 s0 w0 fr0 cs k a.rc e a' s' := by
            intro hne hx
            have hs2 := hst2 hne
            cases pe2 with
            | none =>
              injection hx with hx; injection hx with h1 h2; injection h1 with h1 h3
              subst h1; subst h2; subst h3
              exact ⟨m2, _, todoF fr k, cs, hsteps.trans (.one hs2), r4, hall.trans x4, ⟨fun _ => ar.tm.mono hmono2, ar.df.mono hmono2, ar.rd.mono hmono2, hfn, hkd, hrn⟩, ⟨ar.mode, rfl⟩, CsR.refl _ _⟩
            | some c =>
              simp only at hx
              split at hx
              · rename_i hco
                have ar2 : AR m2 a (todoF fr (.code c :: k)) := ⟨ar.tm.mono hmono2, ar.df.mono hmono2, ar.rd.mono hmono2, ar.mode, ar.kind⟩
                obtain ⟨m5, w5, fr5, cs5, z1, z2, z3, z4, z5, z6⟩ := ok.code c a _ e a' s' hx hco m2 _ (todoF fr (.code c :: k)) k cs r4 (gr.mono hmono2) ar2 (cr.mono hmono2) (.inl rfl)
                exact ⟨m5, w5, fr5, cs5, (hsteps.trans (.one hs2)).trans z1, z2, (hall.trans x4).trans z3, ⟨z4.tm, z4.df, z4.rd, z4.fn.trans hfn, z4.kind.trans hkd, z4.rnd.trans hrn⟩, z5, z6⟩
              · cases hx
          cases st2 with
          | busy => cases h
          | ready => exact main (by simp) h
          | done => exact main (by simp) h
          | exhausted => exact main (by simp) h
        · cases h
      · cases h
    · cases h
  · cases h
theorem range_ok (ok : Ok P E r) {f : Operand} {ps : Array Tmp} {asg body : Code} {a : Ac} {s : St} {e : Ex} {a' : Ac} {s' : St} (hfo : opdOk E f = true)
    (h : xRange E r f ps.toList asg body a s = some (.ex e a', s')) {m : Mp} {w : World} {fr : Frame} {k : List Item} {cs : List Frame} (rel : Rel m s w) (gr : GR E m) (ar : AR m a fr) (cr : CR m a.rc fr.kind cs)
    (ht : fr.todo = .code (.rangeFunc f ps asg body) :: k) : Goes P m s w fr cs k a.rc e a' s' := by
  obtain ⟨tm, df, rc, rd⟩ := a
  have hf : VR m (evl tm f) (fr.eval f) := opd_rel gr ar.tm hfo
  have hev : ∀ (fr1 : Frame), fr1.tmps = fr.tmps → fr1.eval f = fr.eval f := by
    intro fr1 hh
    cases f <;> simp [Frame.eval, hh]
  have hres : ∀ (fr1 : Frame) (l : Nat), fr1.tmps = fr.tmps → (do let d ← resolve fr1.eval { callee := .value f, args := #[.const (.func (.yield l) #[] #[])], argTypes := #[] } 0; invoke d.target d.args : Sem Next) = (do let d ← Deferred.ofValue (fr.eval f) #[.func (.yield l) #[] #[]]; invoke d.target d.args) := by
    intro fr1 l hh
    have hmap : (#[Operand.const (.func (.yield l) #[] #[])] : Array Operand).map fr1.eval = #[.func (.yield l) #[] #[]] := by simp [Frame.eval]
    simp only [resolve, hev fr1 hh, hmap]
  unfold xRange at h
  simp only at h
  split at h
  · rename_i l
    split at h
    · rename_i q hq
      have hrd := ar.rd
      generalize hro : fr.roundOf = ro at hrd
      cases hrd
      rename_i l' nn hm
      obtain ⟨q', u1, u2⟩ := loopAt rel hm hq
      obtain ⟨nd, hnd⟩ := u2.defers
      refine range2_ok (q' := { state := .ready, pending := none, fn := fr.fn, tmps := fr.tmps, params := ps, assign := asg, body, defers := q'.defers }) (fr := fr) ok h rel gr ar cr hf (fun m' hmono => ⟨ar.tm.mono hmono, rfl, rfl, rfl, rfl, rfl, nd, hmono _ _ hnd⟩) ?_ rfl rfl rfl (Ext.refl m s w)
      intro nx args hrun
      refine step_lone_go ?_
      have hent : (Instr.enterLoop fr.fn fr.tmps ps asg body fr.roundOf).run P w = .ok (w.heap.size, []) (pushW w (.loop { state := .ready, pending := none, fn := fr.fn, tmps := fr.tmps, params := ps, assign := asg, body, defers := q'.defers })) := by
        rw [hro]
        simp only [Instr.enterLoop, Sem.run_bind, run_getLp u1, Result.andThen_ok, Sem.run_pure, run_newObj]
        rfl
      rw [← hres { fr with todo := .inRangeFunc w.heap.size :: k } w.heap.size rfl] at hrun
      have hex : (stepG P true { frame := fr, callers := cs, status := .running, dying := none } w).bare = (stepG.apply P true { fr with todo := .inRangeFunc w.heap.size :: k } cs none (do let d ← resolve ({ fr with todo := .inRangeFunc w.heap.size :: k } : Frame).eval { callee := .value f, args := #[.const (.func (.yield w.heap.size) #[] #[])], argTypes := #[] } 0; invoke d.target d.args) (pushW w (.loop { state := .ready, pending := none, fn := fr.fn, tmps := fr.tmps, params := ps, assign := asg, body, defers := q'.defers }))).bare := by
        simp only [stepG, stepG.exec, ar.mode, ht, Sem.runT_eq, hent, GStep.bare_after, List.nil_append]
      rw [hex]
      generalize (do let d ← resolve ({ fr with todo := .inRangeFunc w.heap.size :: k } : Frame).eval { callee := .value f, args := #[.const (.func (.yield w.heap.size) #[] #[])], argTypes := #[] } 0; invoke d.target d.args : Sem Next) = sm at hrun ⊢
      simp [stepG.apply, hrun]
    · cases h
  · have hrd := ar.rd
    generalize hro : fr.roundOf = ro at hrd
    cases hrd
    obtain ⟨hp, nx0⟩ := s
    simp only at h
    obtain ⟨r1, x1⟩ := rel.new (o := .defd false) (o' := .deferred (some [])) (n := 0) (.defd false 0)
    have hnone : m nx0 = none := rel.low _ (Nat.le_refl _)
    have hmono := setM_mono (b := w.heap.size) (n := 0) hnone
    have ar1 : AR (setM m nx0 w.heap.size 0) ⟨tm, ⟨.collected nx0, #[]⟩ :: df, rc, none⟩ { fr with defers := ⟨.collected w.heap.size, #[]⟩ :: fr.defers } :=
      ⟨ar.tm.mono hmono, .cons (.coll (setM_self _ _ _)) (ar.df.mono hmono), by show OptR _ none fr.roundOf; rw [hro]; exact .no, ar.mode, ar.kind⟩
    have hsz : (pushW w (.deferred (some []))).heap.size = w.heap.size + 1 := by simp [pushW]
    refine range2_ok (q' := { state := .ready, pending := none, fn := fr.fn, tmps := fr.tmps, params := ps, assign := asg, body, defers := w.heap.size }) (fr := { fr with defers := ⟨.collected w.heap.size, #[]⟩ :: fr.defers }) ok h r1 (gr.mono hmono) ar1 (cr.mono hmono) (hf.mono hmono)
      (fun m' hm' => ⟨(ar.tm.mono hmono).mono hm', rfl, rfl, rfl, rfl, rfl, 0, hm' _ _ (setM_self _ _ _)⟩) ?_ rfl rfl rfl x1
    intro nx args hrun
    refine step_lone_go ?_
    have hent : (Instr.enterLoop fr.fn fr.tmps ps asg body fr.roundOf).run P w = .ok ((pushW w (.deferred (some []))).heap.size, [⟨.collected w.heap.size, #[]⟩]) (pushW (pushW w (.deferred (some []))) (.loop { state := .ready, pending := none, fn := fr.fn, tmps := fr.tmps, params := ps, assign := asg, body, defers := w.heap.size })) := by
      rw [hro]
      simp only [Instr.enterLoop, Sem.run_bind, Result.andThen_ok, Sem.run_pure, run_newObj]
      rfl
    let fr2 : Frame := { fr with todo := .inRangeFunc (pushW w (.deferred (some []))).heap.size :: k, defers := ⟨.collected w.heap.size, #[]⟩ :: fr.defers }
    rw [← hres fr2 (pushW w (.deferred (some []))).heap.size rfl] at hrun
    have hex : (stepG P true { frame := fr, callers := cs, status := .running, dying := none } w).bare = (stepG.apply P true fr2 cs none (do let d ← resolve fr2.eval { callee := .value f, args := #[.const (.func (.yield (pushW w (.deferred (some []))).heap.size) #[] #[])], argTypes := #[] } 0; invoke d.target d.args) (pushW (pushW w (.deferred (some []))) (.loop { state := .ready, pending := none, fn := fr.fn, tmps := fr.tmps, params := ps, assign := asg, body, defers := w.heap.size }))).bare := by
      simp only [fr2, stepG, stepG.exec, ar.mode, ht, Sem.runT_eq, hent, GStep.bare_after, List.cons_append, List.nil_append]
    rw [hex]
    generalize (do let d ← resolve fr2.eval { callee := .value f, args := #[.const (.func (.yield (pushW w (.deferred (some []))).heap.size) #[] #[])], argTypes := #[] } 0; invoke d.target d.args : Sem Next) = sm at hrun ⊢
    have htd : fr2.todo = .inRangeFunc (pushW w (.deferred (some []))).heap.size :: k := rfl
    simp [stepG.apply, hrun, htd]
    rfl
end
end Go.AM

namespace Go.AM
open Go
/-- what a model's order of a region keeps: no operation twice, none but those of the region, each behind what binds it -/
structure Sched (ops : Array Oper) (L : List Nat) : Prop where
  nodup : L.Nodup
  mem : ∀ i ∈ L, i < ops.size
  edge : ∀ pre i suf, L = pre ++ i :: suf → ∀ o, ops[i]? = some o → ∀ e ∈ o.after.toList, bindE e = true → e.on ∈ pre
theorem binds_any (e : Edge) : Region.binds .any e = bindE e := by
  obtain ⟨on, g⟩ := e
  cases g <;> rfl
theorem Sched.snoc {ops : Array Oper} {L : List Nat} (h : Sched ops L) {i : Nat} (hi : i < ops.size) (hn : i ∉ L) (he : ∀ o, ops[i]? = some o → ∀ e ∈ o.after.toList, bindE e = true → e.on ∈ L) : Sched ops (L ++ [i]) where
  nodup := by
    rw [List.nodup_append]
    refine ⟨h.nodup, by simp, ?_⟩
    intro a ha b hb
    simp at hb; subst hb
    rintro rfl; exact hn ha
  mem := by
    intro j hj
    rcases List.mem_append.1 hj with hj | hj
    · exact h.mem j hj
    · simp at hj; subst hj; exact hi
  edge := by
    intro pre j suf hL o ho e hem hb
    rcases List.eq_nil_or_concat suf with rfl | ⟨suf', x, rfl⟩
    · have := List.append_inj' hL rfl
      obtain ⟨h1, h2⟩ := this
      injection h2 with h2
      subst h1; subst h2
      exact he o ho e hem hb
    · have hL2 : L ++ [i] = (pre ++ j :: suf') ++ [x] := by rw [hL]; simp
      have := List.append_inj' hL2 rfl
      obtain ⟨h1, _⟩ := this
      exact h.edge pre j suf' h1 o ho e hem hb
theorem go_sched (ops : Array Oper) : ∀ (fuel t : Nat) (listed : Array Bool) (acc : List Nat), listed.size = ops.size → (∀ i, i < ops.size → (listed.getD i false = true ↔ i ∈ acc)) → (∀ i ∈ acc, i < ops.size) → Sched ops acc.reverse →
    Sched ops (Region.linearise.go .any ops fuel t listed acc)
  | 0, t, listed, acc, _, _, _, h => by simpa [Region.linearise.go] using h
  | fuel + 1, t, listed, acc, hs, hl, hm, h => by
    unfold Region.linearise.go
    simp only
    split
    · rename_i i hi
      have hmem := List.mem_of_getElem? hi
      rw [List.mem_filter, List.mem_range] at hmem
      obtain ⟨h1, h2⟩ := hmem
      simp only [Bool.and_eq_true, Bool.not_eq_true'] at h2
      obtain ⟨h3, h4⟩ := h2
      have hlt : i < listed.size := by rw [hs]; exact h1
      have hni : i ∉ acc := by
        intro hin
        have := (hl i h1).2 hin
        rw [Array.getD_eq_getD_getElem?, Array.getElem?_eq_getElem hlt] at this h3
        simp at this h3
        rw [this] at h3; cases h3
      refine go_sched ops fuel _ _ (i :: acc) (by simpa using hs) ?_ ?_ ?_
      · intro j hj
        have hjl : j < listed.size := by rw [hs]; exact hj
        have := hl j hj
        rw [Array.getD_eq_getD_getElem?] at this ⊢
        by_cases hji : i = j
        · subst hji; simp [hlt]
        · rw [Array.getElem?_setIfInBounds_ne hji, this]
          simp [Ne.symm hji]
      · intro j hj
        rcases List.mem_cons.1 hj with rfl | hj
        · exact h1
        · exact hm j hj
      · rw [List.reverse_cons]
        refine h.snoc h1 (by simpa using hni) ?_
        intro o ho e hem hb
        rw [ho] at h4
        simp only [Option.map_some, Option.getD_some, Array.all_eq_true'] at h4
        have h5 := h4 e (by simpa using hem)
        rw [binds_any, hb] at h5
        simp only [Bool.not_true, Bool.false_or] at h5
        rw [List.mem_reverse]
        by_cases hon : e.on < ops.size
        · exact (hl _ hon).1 h5
        · rw [Array.getD_eq_getD_getElem?, Array.getElem?_eq_none (by omega)] at h5
          simp at h5
    · exact h
theorem schedule_sched (ops : Array Oper) (t : Nat) : Sched ops (Region.schedule true ops t) := by
  unfold Region.schedule Region.linearise
  simp only [Bool.true_or, if_true]
  refine go_sched ops _ _ _ [] (by simp) ?_ (by simp) ⟨by simp, by simp, ?_⟩
  · intro i hi
    rw [Array.getD_eq_getD_getElem?]
    simp [hi]
  · intro pre i suf hL
    simp at hL
/-- there is an order that keeps what binds: then the model's order leaves nothing out -/
theorem first_out {σ : List Nat} {acc : List Nat} (h : ∃ i ∈ σ, i ∉ acc) : ∃ pre i suf, σ = pre ++ i :: suf ∧ i ∉ acc ∧ ∀ j ∈ pre, j ∈ acc := by
  induction σ with
  | nil => obtain ⟨i, hi, _⟩ := h; simp at hi
  | cons x σ ih =>
    by_cases hx : x ∈ acc
    · obtain ⟨i, hi, hn⟩ := h
      rcases List.mem_cons.1 hi with rfl | hi
      · exact absurd hx hn
      · obtain ⟨pre, j, suf, e1, e2, e3⟩ := ih ⟨i, hi, hn⟩
        exact ⟨x :: pre, j, suf, by rw [e1]; rfl, e2, by
          intro k hk
          rcases List.mem_cons.1 hk with rfl | hk
          · exact hx
          · exact e3 k hk⟩
    · exact ⟨[], x, σ, rfl, hx, by simp⟩
theorem nodup_len : ∀ (l acc : List Nat), l.Nodup → (∀ x ∈ l, x ∈ acc) → l.length ≤ acc.length
  | [], _, _, _ => by simp
  | x :: l, acc, hn, h => by
    have hx := h x (by simp)
    have h1 := nodup_len l (acc.erase x) (List.nodup_cons.1 hn).2 (fun y hy => (List.mem_erase_of_ne (by rintro rfl; exact (List.nodup_cons.1 hn).1 hy)).2 (h y (by simp [hy])))
    rw [List.length_erase_of_mem hx] at h1
    have h2 := List.length_pos_of_mem hx
    simp; omega
theorem some_out {acc : List Nat} {n : Nat} (hl : acc.length < n) : ∃ i, i < n ∧ i ∉ acc := by
  false_or_by_contra
  rename_i hc
  have hsub : ∀ i ∈ List.range n, i ∈ acc := by
    intro i hi
    rw [List.mem_range] at hi
    false_or_by_contra
    rename_i h
    exact hc ⟨i, hi, h⟩
  have := nodup_len _ _ List.nodup_range hsub
  rw [List.length_range] at this
  omega
theorem go_full (ops : Array Oper) {σ : List Nat} (hσ : Sched ops σ) (hall : ∀ i, i < ops.size → i ∈ σ) : ∀ (fuel t : Nat) (listed : Array Bool) (acc : List Nat), listed.size = ops.size → (∀ i, i < ops.size → (listed.getD i false = true ↔ i ∈ acc)) → (∀ i ∈ acc, i < ops.size) → acc.Nodup →
    acc.length + fuel = ops.size → (Region.linearise.go .any ops fuel t listed acc).length = ops.size
  | 0, t, listed, acc, _, _, _, _, h => by simpa [Region.linearise.go] using h
  | fuel + 1, t, listed, acc, hs, hl, hm, hn, h => by
    obtain ⟨i0, h1, h2⟩ := some_out (acc := acc) (n := ops.size) (by omega)
    obtain ⟨pre, i, suf, e1, e2, e3⟩ := first_out (σ := σ) (acc := acc) ⟨i0, hall _ h1, h2⟩
    have hi : i < ops.size := hσ.mem i (by rw [e1]; simp)
    have hnot : ∀ j, j < ops.size → j ∉ acc → listed.getD j true = false := by
      intro j hj hja
      have hjl : j < listed.size := by rw [hs]; exact hj
      have := hl j hj
      rw [Array.getD_eq_getD_getElem?, Array.getElem?_eq_getElem hjl] at this ⊢
      simp at this ⊢
      cases hv : listed[j] with
      | false => rfl
      | true => exact absurd (this.1 hv) hja
    unfold Region.linearise.go
    simp only
    have hrdy : i ∈ (List.range ops.size).filter fun i => !listed.getD i true && ((ops[i]?).map (·.after.all fun e => !Region.binds .any e || listed.getD e.on false)).getD false := by
      rw [List.mem_filter, List.mem_range]
      refine ⟨hi, ?_⟩
      rw [hnot i hi e2]
      have ho : ops[i]? = some ops[i] := Array.getElem?_eq_getElem hi
      simp only [ho, Option.map_some, Option.getD_some, Bool.not_false, Bool.true_and, Array.all_eq_true']
      intro e he
      rw [binds_any]
      cases hb : bindE e with
      | false => rfl
      | true =>
        have := hσ.edge pre i suf e1 _ ho e (by simpa using he) hb
        have hin := e3 _ this
        simp only [Bool.not_true, Bool.false_or]
        exact (hl _ (hm _ hin)).2 hin
    split
    · rename_i i' hi'
      have hmem := List.mem_of_getElem? hi'
      rw [List.mem_filter, List.mem_range] at hmem
      obtain ⟨h3, h4⟩ := hmem
      simp only [Bool.and_eq_true, Bool.not_eq_true'] at h4
      have hlt : i' < listed.size := by rw [hs]; exact h3
      have hni : i' ∉ acc := by
        intro hin
        have h5 := (hl i' h3).2 hin
        have h6 := h4.1
        rw [Array.getD_eq_getD_getElem?, Array.getElem?_eq_getElem hlt] at h5 h6
        simp at h5 h6
        rw [h5] at h6; cases h6
      refine go_full ops hσ hall fuel _ _ (i' :: acc) (by simpa using hs) ?_ ?_ (List.nodup_cons.2 ⟨hni, hn⟩) (by simp; omega)
      · intro j hj
        have hjl : j < listed.size := by rw [hs]; exact hj
        have := hl j hj
        rw [Array.getD_eq_getD_getElem?] at this ⊢
        by_cases hji : i' = j
        · subst hji; simp [hlt]
        · rw [Array.getElem?_setIfInBounds_ne hji, this]
          simp [Ne.symm hji]
      · intro j hj
        rcases List.mem_cons.1 hj with rfl | hj
        · exact h3
        · exact hm j hj
    · rename_i hnone
      have hpos := List.length_pos_of_mem hrdy
      rw [List.getElem?_eq_none_iff] at hnone
      have := Nat.mod_lt t hpos
      omega
theorem schedule_full (ops : Array Oper) {σ : List Nat} (hσ : Sched ops σ) (hall : ∀ i, i < ops.size → i ∈ σ) (t : Nat) : (Region.schedule true ops t).length = ops.size := by
  unfold Region.schedule Region.linearise
  simp only [Bool.true_or, if_true]
  refine go_full ops hσ hall _ _ _ [] (by simp) ?_ (by simp) (by simp) (by simp)
  intro i hi
  rw [Array.getD_eq_getD_getElem?]
  simp [hi]
end Go.AM

namespace Go.AM
open Go
/-- a region whose order is drawn: the answer of AM stands for every order -/
def DrawnOK (P : Program) (E : Env) : Prop :=
  ∀ r, Ok P E r → ∀ id (ops : Array Oper) a s e a' s', xDrawn E r ops.toList a s = some (.ex e a', s') → opsOk E ops.toList = true → ∀ m w fr k cs, Rel m s w → GR E m → AR m a fr → CR m a.rc fr.kind cs →
    fr.todo = .code (.region id ops true) :: k → Goes P m s w fr cs k a.rc e a' s'
section
variable {P : Program} {E : Env} {r : K}
theorem Goes.one {m : Mp} {s : St} {w : World} {fr : Frame} {cs : List Frame} {k k1 : List Item} {rc : Option Value} {e : Ex} {a' : Ac} {s' : St} (h : step P (lone fr cs w) = .next (lone (todoF fr k1) cs w))
    (g : Goes P m s w (todoF fr k1) cs k rc e a' s') : Goes P m s w fr cs k rc e a' s' := Goes.of_steps (.one h) rfl rfl rfl g
theorem code_ok (hE : EnvOK P E) (hd : DrawnOK P E) (ok : Ok P E r) {c : Code} {a : Ac} {s : St} {e : Ex} {a' : Ac} {s' : St} (h : xCode c E r a s = some (.ex e a', s')) (hc : codeOk E c = true) {m : Mp} {w : World} {fr : Frame} {k : List Item} {cs : List Frame}
    (rel : Rel m s w) (gr : GR E m) (ar : AR m a fr) (cr : CR m a.rc fr.kind cs) (ht : fr.todo = .code c :: k ∨ ∃ b, c = .loop b ∧ fr.todo = .inLoop b :: k) : Goes P m s w fr cs k a.rc e a' s' := by
  have here : ∀ {e0 : Ex} {fr1 : Frame}, some (Res.ex e0 a, s) = some (.ex e a', s') → Steps P (lone fr cs w) (lone fr1 cs w) → fr1.tmps = fr.tmps → fr1.defers = fr.defers → fr1.fn = fr.fn → fr1.kind = fr.kind → fr1.roundOf = fr.roundOf → ExR m e0 k fr1 → Goes P m s w fr cs k a.rc e a' s' := by
    intro e0 fr1 h1 h2 h3 h4 h5 h6 h7 h8
    injection h1 with h1; injection h1 with g1 g2; injection g1 with g1 g3
    subst g1; subst g2; subst g3
    exact ⟨m, w, fr1, cs, h2, rel, Ext.refl m s w, ⟨fun _ => by rw [h3]; exact ar.tm, by rw [h4]; exact ar.df, by rw [h7]; exact ar.rd, h5, h6, h7⟩, h8, CsR.refl _ _⟩
  have arT : ∀ k1, AR m a (todoF fr k1) := fun k1 => ⟨ar.tm, ar.df, ar.rd, ar.mode, ar.kind⟩
  cases c with
  | loop b =>
    have hst : step P (lone fr cs w) = .next (lone (todoF fr (.code b :: .inLoop b :: k)) cs w) := by
      rcases ht with ht | ⟨b', hb, ht⟩
      · exact st_loop ar.mode ht
      · injection hb with hb; subst hb; exact st_inLoop ar.mode ht
    exact Goes.one hst (seq_goes ok (x := b) (y := .loop b) (show codeOk E b = true from hc) hc h (.inr ⟨b, rfl, rfl⟩) rel gr (arT _) cr rfl)
  | skip =>
    have ht : fr.todo = .code .skip :: k := ht.elim id (fun ⟨_, h, _⟩ => by cases h)
    exact here h (.one (st_skip ar.mode ht)) rfl rfl rfl rfl rfl ⟨ar.mode, rfl⟩
  | label l =>
    have ht : fr.todo = .code (.label l) :: k := ht.elim id (fun ⟨_, h, _⟩ => by cases h)
    exact here h (.one (st_label ar.mode ht)) rfl rfl rfl rfl rfl ⟨ar.mode, rfl⟩
  | ret =>
    have ht : fr.todo = .code .ret :: k := ht.elim id (fun ⟨_, h, _⟩ => by cases h)
    exact here h (Steps.refl P _) rfl rfl rfl rfl rfl ⟨ar.mode, k, ht⟩
  | exit i =>
    have ht : fr.todo = .code (.exit i) :: k := ht.elim id (fun ⟨_, h, _⟩ => by cases h)
    exact here h (Steps.refl P _) rfl rfl rfl rfl rfl ⟨ar.mode, k, ht, rfl⟩
  | goto l =>
    have ht : fr.todo = .code (.goto l) :: k := ht.elim id (fun ⟨_, h, _⟩ => by cases h)
    exact here h (Steps.refl P _) rfl rfl rfl rfl rfl ⟨ar.mode, k, ht, rfl⟩
  | seq x y =>
    have ht : fr.todo = .code (.seq x y) :: k := ht.elim id (fun ⟨_, h, _⟩ => by cases h)
    have hc2 : (match codeOk E x with | true => codeOk E y | false => false) = true := hc
    obtain ⟨h1, h2⟩ := and_match hc2
    exact Goes.one (st_seq ar.mode ht) (seq_goes ok h1 h2 h (.inl rfl) rel gr (arT _) cr rfl)
  | cond c x y =>
    have ht : fr.todo = .code (.cond c x y) :: k := ht.elim id (fun ⟨_, h, _⟩ => by cases h)
    have hc2 : (match opdOk E c with | true => (match codeOk E x with | true => codeOk E y | false => false) | false => false) = true := hc
    obtain ⟨h0, hc3⟩ := and_match hc2
    obtain ⟨h1, h2⟩ := and_match hc3
    have hv := opd_rel gr ar.tm h0
    have h' : xCond r x y a s (evl a.tm c) = some (.ex e a', s') := h
    unfold xCond at h'
    split at h'
    · rename_i b hb
      rw [hb] at hv
      have hb2 : fr.eval c = .bool b := by cases hv' : fr.eval c <;> rw [hv'] at hv <;> cases hv; rfl
      have hst := st_cond (P := P) (cs := cs) (w := w) ar.mode ht hb2
      cases b with
      | true => exact Goes.one hst (ok.code x a s e a' s' h' h1 m w _ k cs rel gr (arT _) cr (.inl rfl))
      | false => exact Goes.one hst (ok.code y a s e a' s' h' h2 m w _ k cs rel gr (arT _) cr (.inl rfl))
    · cases h'
  | block i b =>
    have ht : fr.todo = .code (.block i b) :: k := ht.elim id (fun ⟨_, h, _⟩ => by cases h)
    exact Goes.one (st_block ar.mode ht) (block_goes ok (show codeOk E b = true from hc) h rel gr (arT _) cr rfl)
  | scope b =>
    have ht : fr.todo = .code (.scope b) :: k := ht.elim id (fun ⟨_, h, _⟩ => by cases h)
    exact Goes.one (st_scope ar.mode ht) (ok.scope b b a s e a' s' h (show codeOk E b = true from hc) (show codeOk E b = true from hc) m w _ k cs rel gr (arT _) cr rfl)
  | region id ops draw =>
    have ht : fr.todo = .code (.region id ops draw) :: k := ht.elim (fun h => h) (fun ⟨_, h, _⟩ => by cases h)
    cases draw with
    | true => exact hd r ok id ops a s e a' s' h hc m w fr k cs rel gr ar cr ht
    | false =>
      obtain ⟨tm, df, rc, rd⟩ := a
      have h' : xOps E r ops.toList ops.toList tm df rc rd s = some (.ex e a', s') := h
      refine Goes.one (st_region ar.mode ht) (plain_ops hE ok ops.toList hc ops.toList [] rfl tm df rc s h' m w _ cs rel gr (arT _) cr ?_)
      show Item.inRegion ops (List.range ops.size) :: k = _
      rw [List.range_eq_range']
      simp
  | rangeFunc f ps asg body =>
    have ht : fr.todo = .code (.rangeFunc f ps asg body) :: k := ht.elim id (fun ⟨_, h, _⟩ => by cases h)
    have hc2 : (match opdOk E f with | true => (match codeOk E asg with | true => codeOk E body | false => false) | false => false) = true := hc
    exact range_ok ok (and_match hc2).1 h rel gr ar cr ht
  | refuse w => cases h
theorem run_ok (hE : EnvOK P E) (hd : DrawnOK P E) : ∀ n, Ok P E (run E n)
  | 0 => by
    constructor
    · intro c a s e a' s' h; cases h
    · intro c body a s e a' s' h; cases h
    · intro f args rc s o rc' s' h; cases h
    · intro l args s o rc' s' h; cases h
    · intro fn a pan s o rc' s' h; cases h
  | n + 1 => by
    have ok := run_ok hE hd n
    constructor
    · intro c a s e a' s' h hc m w fr k cs rel gr ar cr ht
      exact code_ok hE hd ok h hc rel gr ar cr ht
    · intro c body a s e a' s' h hc hb m w fr k cs rel gr ar cr ht
      exact scope_goes ok hc hb h rel gr ar cr ht
    · intro f args rc s o rc' s' h m w args' rel gr ha
      exact call_ok hE ok h rel gr ha
    · intro l args s o rc' s' h m w l' nn args' rel gr hl ha
      exact round_ok ok h rel gr hl ha
    · intro fn a pan s o rc' s' h m w fr cs rel gr ht hdf hro hm hfn hk cr
      exact unwind_ok hE ok h rel gr ht hdf hro hm hfn hk cr
/-- what AM answers to a call, the model answers -/
theorem run_calls (hE : EnvOK P E) (hd : DrawnOK P E) {n : Nat} {f : FuncId} {args args' : List Value} {s s' : St} {v : Value} {rc' : Option Value} (h : run E n (.call f args none) s = some (.out (.ret v) rc', s')) {m : Mp} {w : World} (rel : Rel m s w) (gr : GR E m) (ha : VRs m args args') :
    Calls P f ⟨args'⟩ w fun e w' => ∃ m' v', e = .returned v' ∧ VR m' v v' ∧ Rel m' s' w' ∧ Ext m s w m' s' w' := by
  intro cs
  obtain ⟨_, h2⟩ := (run_ok hE hd n).call f args none s (.ret v) rc' s' h m w args' rel gr ha
  obtain ⟨m', w', fr', cs', q1, q2, q3, q4, q5, q6⟩ := h2 .normal cs (.inl rfl) (by intro fr hf; simp [tryRecover, hf])
  have hcs : cs' = cs := by
    rcases q6 with ⟨_, h⟩ | ⟨_, h, _⟩
    · exact h
    · exact absurd rfl h
  subst hcs
  obtain ⟨_, l2, fn, l3, l4, v', l5, l6⟩ := q5
  exact ⟨.returned v', w', fr', ⟨m', v', rfl, l6, q2, q3⟩, q1, q4.2, l4, l2, q4.1, fn, l3, l5⟩
end
end Go.AM
