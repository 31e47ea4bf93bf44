/- Rules for texts in AM, with fuel enough. -/
import Derived.Test.YtnlbfblcjnpoaaaGreatDoorAmG
namespace Go.AM
open Go
/-! ## more fuel, the same answer -/
def Le (r r' : K) : Prop := ∀ t s q, r t s = some q → r' t s = some q
section
variable {E : Env} {r r' : K}
def LeN (k k' : KN) : Prop := ∀ tm df rc rd s q, k tm df rc rd s = some q → k' tm df rc rd s = some q
theorem xOut_le {k k' : KN} (hk : LeN k k') {d : Option Tmp} {tm : List Value} {df : List Deferred} {rc : Option Value} {rd : Option Nat} {a a' : RS} (ha : ∀ q, a = some q → a' = some q) {q : Res × St} (h : xOut k d tm df rc rd a = some q) : xOut k' d tm df rc rd a' = some q := by
  cases a with
  | none => cases h
  | some x =>
    rw [ha x rfl]
    obtain ⟨res, s⟩ := x
    cases res with
    | ex _ _ => cases h
    | out o rc' =>
      cases o with
      | ret v => exact hk _ _ _ _ _ _ h
      | panic v => exact h
theorem xN_le (hr : Le r r') {k k' : KN} (hk : LeN k k') (n : N) {d : Option Tmp} {tm : List Value} {df : List Deferred} {rc : Option Value} {rd : Option Nat} {s : St} {q : Res × St} (h : xN n r k d tm df rc rd s = some q) : xN n r' k' d tm df rc rd s = some q := by
  cases n with
  | v x => exact hk _ _ _ _ _ _ h
  | enter f args => exact xOut_le hk (fun q hq => hr _ _ _ hq) h
  | round l args => exact xOut_le hk (fun q hq => hr _ _ _ hq) h
  | defer x =>
    cases rd with
    | none => exact hk _ _ _ _ _ _ h
    | some _ => cases h
  | recover =>
    cases rd with
    | some _ => cases h
    | none => cases rc with
      | some v => exact hk _ _ _ _ _ _ h
      | none => exact hk _ _ _ _ _ _ h
  | panic v => exact h
theorem xOps_le (hr : Le r r') (ops : List Oper) : ∀ l, LeN (xOps E r ops l) (xOps E r' ops l)
  | [] => fun _ _ _ _ _ _ h => h
  | o :: l => by
    intro tm df rc rd s q h
    have ih := xOps_le hr ops l
    obtain ⟨dst, op, ty, pos, af, g⟩ := o
    have h1 : xW (wantedO ops tm g) op dst E r (xOps E r ops l) tm df rc rd s = some q := h
    show xW (wantedO ops tm g) op dst E r' (xOps E r' ops l) tm df rc rd s = some q
    cases hw : wantedO ops tm g with
    | false => rw [hw] at h1; exact ih _ _ _ _ _ _ h1
    | true =>
      rw [hw] at h1
      have h2 : xR (opr op E s (evl tm)) r (xOps E r ops l) dst tm df rc rd = some q := h1
      show xR (opr op E s (evl tm)) r' (xOps E r' ops l) dst tm df rc rd = some q
      cases ho : opr op E s (evl tm) with
      | none => rw [ho] at h2; cases h2
      | some x => rw [ho] at h2; exact xN_le hr ih x.1 h2
def LeD (k k' : KD) : Prop := ∀ tm s lg left q, k tm s lg left = some q → k' tm s lg left = some q
theorem dOut_le {D : Dw} {i : Nat} {z : St} {lg : List Lg} {k k' : KD} (hk : LeD k k') {d : Option Tmp} {tm : List Value} {left : List Nat} {a a' : RS} (ha : ∀ q, a = some q → a' = some q) {q : Res × St} (h : dOut D i z lg k d tm left a = some q) : dOut D i z lg k' d tm left a' = some q := by
  cases a with
  | none => cases h
  | some x =>
    rw [ha x rfl]
    obtain ⟨res, s⟩ := x
    cases res with
    | ex _ _ => cases h
    | out o rc' =>
      cases o with
      | ret v => exact hk _ _ _ _ _ h
      | panic v => exact h
theorem dOps_le (hr : Le r r') (D : Dw) : ∀ l, LeD (dOps D r l) (dOps D r' l)
  | [] => fun _ _ _ _ _ h => h
  | i :: l => by
    intro tm s lg left q h
    have ih := dOps_le hr D l
    have hk : LeD (fun tm s lg _ => dOps D r l tm s lg l) (fun tm s lg _ => dOps D r' l tm s lg l) := fun tm s lg _ q h => ih _ _ _ _ _ h
    have h1 : dO D r (nthOp D.ops i) i (fun tm s lg _ => dOps D r l tm s lg l) tm s lg l = some q := h
    show dO D r' (nthOp D.ops i) i (fun tm s lg _ => dOps D r' l tm s lg l) tm s lg l = some q
    cases ho : nthOp D.ops i with
    | none => rw [ho] at h1; cases h1
    | some o =>
      obtain ⟨dst, op, ty, pos, af, g⟩ := o
      rw [ho] at h1
      simp only [dO] at h1 ⊢
      unfold dW at h1 ⊢
      split at h1
      · rename_i hw
        (try rw [hw])
        try simp only
        unfold dR at h1 ⊢
        split at h1
        · cases h1
        · rename_i n s1 hop
          (try rw [hop])
          try simp only
          cases n with
          | v v =>
            simp only at h1 ⊢
            unfold dV at h1 ⊢
            split at h1
            · cases h1
            · rename_i lg1 hl
              (try rw [hl])
              try simp only
              cases hcl : nthC D.cl i <;> rw [hcl] at h1 <;> exact ih _ _ _ _ _ h1
          | enter f args =>
            simp only at h1 ⊢
            split at h1
            · rename_i hc; (try rw [hc]); exact dOut_le hk (fun q hq => hr _ _ _ hq) h1
            · cases h1
          | round l args =>
            simp only at h1 ⊢
            split at h1
            · rename_i hc; (try rw [hc]); exact dOut_le hk (fun q hq => hr _ _ _ hq) h1
            · cases h1
          | defer x => cases h1
          | recover => cases h1
          | panic v => cases h1
      · rename_i hw
        (try rw [hw])
        exact ih _ _ _ _ _ h1
theorem match_le {α : Type} {a a' : Option α} (ha : ∀ q, a = some q → a' = some q) {x : α} (h : a = some x) : a' = some x := ha x h
theorem xSeq_le (hr : Le r r') {y : Code} {a a' : RS} (ha : ∀ q, a = some q → a' = some q) {q : Res × St} (h : xSeq r y a = some q) : xSeq r' y a' = some q := by
  cases a with
  | none => cases h
  | some x =>
    rw [ha x rfl]
    obtain ⟨res, s⟩ := x
    cases res with
    | ex e a => cases e <;> first | exact hr _ _ _ h | exact h
    | out o rc => exact h
theorem xScope_le (hr : Le r r') {b : Code} {a a' : RS} (ha : ∀ q, a = some q → a' = some q) {q : Res × St} (h : xScope r b a = some q) : xScope r' b a' = some q := by
  cases a with
  | none => cases h
  | some x =>
    rw [ha x rfl]
    obtain ⟨res, s⟩ := x
    cases res with
    | ex e a =>
      cases e <;> try exact h
      rename_i l
      unfold xScope at h ⊢
      try simp only at h ⊢
      split at h
      · rename_i rest hf; (try rw [hf]); exact hr _ _ _ h
      · rename_i hf; (try rw [hf]); exact h
    | out o rc => exact h
theorem xBlock_le {id : Nat} {a a' : RS} (ha : ∀ q, a = some q → a' = some q) {q : Res × St} (h : xBlock id a = some q) : xBlock id a' = some q := by
  cases a with
  | none => cases h
  | some x => rw [ha x rfl]; exact h
theorem xEnd_le (hr : Le r r') {a : Ac} {l : Nat} {b b' : RS} (hb : ∀ q, b = some q → b' = some q) {q : Res × St} (h : xEnd E r a l b = some q) : xEnd E r' a l b' = some q := by
  cases b with
  | none => cases h
  | some x =>
    rw [hb x rfl]
    unfold xEnd at h ⊢
    split at h
    · rename_i v rc s
      try simp only
      split at h
      · rename_i f t p ag bb st pe df hg
        (try rw [hg])
        try simp only
        cases st <;> (try simp only at h ⊢) <;> first
          | cases h
          | (cases pe with
             | none => exact h
             | some c =>
               try simp only at h ⊢
               split at h
               · rename_i hc; (try rw [hc]); exact hr _ _ _ h
               · cases h)
      · cases h
    · cases h
theorem xRange2_le (hr : Le r r') {f : Value} {ps : List Tmp} {asg body : Code} {a : Ac} {s : St} {dr : Nat} {fid : FuncId} {q : Res × St} (h : xRange2 E r f ps asg body a s dr fid = some q) : xRange2 E r' f ps asg body a s dr fid = some q := by
  unfold xRange2 at h ⊢
  split at h
  · split at h
    · exact xEnd_le hr (fun q hq => hr _ _ _ hq) h
    · cases h
  · cases h
theorem xRange_le (hr : Le r r') {f : Operand} {ps : List Tmp} {asg body : Code} {a : Ac} {s : St} {q : Res × St} (h : xRange E r f ps asg body a s = some q) : xRange E r' f ps asg body a s = some q := by
  obtain ⟨tm, df, rc, rd⟩ := a
  cases rd with
  | some l =>
    unfold xRange at h ⊢
    try simp only at h ⊢
    split at h
    · rename_i qq hg; (try rw [hg]); exact xRange2_le hr h
    · cases h
  | none =>
    obtain ⟨hp, k⟩ := s
    have h' : xRange2 E r (evl tm f) ps asg body ⟨tm, ⟨.collected k, #[]⟩ :: df, rc, none⟩ (St.new ⟨hp, k⟩ (.defd false)) k 0 = some q := h
    exact xRange2_le hr h'
theorem xCode_le (hr : Le r r') (c : Code) {a : Ac} {s : St} {q : Res × St} (h : xCode c E r a s = some q) : xCode c E r' a s = some q := by
  cases c with
  | seq x y => exact xSeq_le hr (fun q hq => hr _ _ _ hq) h
  | cond c x y =>
    have h' : xCond r x y a s (evl a.tm c) = some q := h
    show xCond r' x y a s (evl a.tm c) = some q
    unfold xCond at h' ⊢
    split at h'
    · rename_i b hb
      cases b <;> exact hr _ _ _ h'
    · cases h'
  | block id b => exact xBlock_le (fun q hq => hr _ _ _ hq) h
  | loop b => exact xSeq_le hr (fun q hq => hr _ _ _ hq) h
  | scope b => exact hr _ _ _ h
  | region id ops d =>
    cases d with
    | false =>
      obtain ⟨tm, df, rc, rd⟩ := a
      exact xOps_le hr ops.toList ops.toList _ _ _ _ _ _ h
    | true =>
      obtain ⟨tm, df, rc, rd⟩ := a
      have h' : (match okD E ops.toList (orderD E ops.toList), (⟨tm, df, rc, rd⟩ : Ac) with
        | true, ⟨tm, df, rc, rd⟩ => dOps ⟨E, ops.toList, ancs ops.toList [], cls E ops.toList, df, rc, rd⟩ r (orderD E ops.toList) tm s [] []
        | false, _ => none) = some q := h
      show (match okD E ops.toList (orderD E ops.toList), (⟨tm, df, rc, rd⟩ : Ac) with
        | true, ⟨tm, df, rc, rd⟩ => dOps ⟨E, ops.toList, ancs ops.toList [], cls E ops.toList, df, rc, rd⟩ r' (orderD E ops.toList) tm s [] []
        | false, _ => none) = some q
      cases hok : okD E ops.toList (orderD E ops.toList) with
      | false => rw [hok] at h'; cases h'
      | true => rw [hok] at h'; exact dOps_le hr _ _ _ _ _ _ _ h'
  | rangeFunc f ps asg body => exact xRange_le hr h
  | _ => exact h
theorem xBody_le (hr : Le r r') {fn : Func} {a a' : RS} (ha : ∀ q, a = some q → a' = some q) {q : Res × St} (h : xBody r fn a = some q) : xBody r' fn a' = some q := by
  cases a with
  | none => cases h
  | some x =>
    rw [ha x rfl]
    obtain ⟨res, s⟩ := x
    cases res with
    | ex e a => cases e <;> first | exact hr _ _ _ h | cases h
    | out o rc => cases h
theorem xCall2_le (hr : Le r r') {f : FuncId} {args : List Value} {rc : Option Value} {s : St} {q : Res × St} (h : xCall2 E r f args rc s = some q) : xCall2 E r' f args rc s = some q := by
  unfold xCall2 at h ⊢
  split at h
  · cases h
  · rename_i fn hf
    (try rw [hf])
    try simp only
    split at h
    · cases h
    · rename_i body hb
      (try rw [hb])
      exact xBody_le hr (fun q hq => hr _ _ _ hq) h
theorem xCall_le (hr : Le r r') {f : FuncId} {args : List Value} {rc : Option Value} {s : St} {q : Res × St} (h : xCall E r f args rc s = some q) : xCall E r' f args rc s = some q := by
  unfold xCall at h ⊢
  split at h
  · rename_i hp; (try rw [hp]); exact xCall2_le hr h
  · rename_i g hp
    (try rw [hp])
    try simp only
    split at h
    · rename_i v s' hg; (try rw [hg]); exact h
    · rename_i hg; (try rw [hg]); exact xCall2_le hr h
theorem xUnwind_le (hr : Le r r') {fn : Func} {a : Ac} {pan : Option Value} {s : St} {q : Res × St} (h : xUnwind E r fn a pan s = some q) : xUnwind E r' fn a pan s = some q := by
  obtain ⟨tm, df, rc, rd⟩ := a
  cases df with
  | nil => exact h
  | cons d ds =>
    obtain ⟨t, ⟨args⟩⟩ := d
    unfold xUnwind at h ⊢
    try simp only at h ⊢
    cases t with
    | collected b =>
      try simp only at h ⊢
      split at h
      · rename_i hg; (try rw [hg]); exact hr _ _ _ h
      · cases h
    | fn g cap =>
      obtain ⟨cap⟩ := cap
      try simp only at h ⊢
      cases g with
      | func g =>
        try simp only at h ⊢
        unfold xUnw2 at h ⊢
        split at h
        · rename_i v rc' s' hc
          rw [hr _ _ _ hc]; exact hr _ _ _ h
        · cases h
      | _ => cases h
    | _ => cases h
theorem xRound_le (hr : Le r r') {l : Nat} {args : List Value} {s : St} {q : Res × St} (h : xRound E r l args s = some q) : xRound E r' l args s = some q := by
  unfold xRound at h ⊢
  split at h
  · rename_i p hg
    (try rw [hg])
    try simp only
    split at h
    · rename_i h1 h2
      (try rw [h1, h2])
      try simp only
      unfold xRound2 at h ⊢
      split at h
      · rename_i a s' hc
        rw [hr _ _ _ hc]
        try simp only
        split at h
        · rename_i hg2
          (try rw [hg2])
          try simp only
          unfold xRound3 at h ⊢
          split at h
          · rename_i e a2 s2 hc2
            rw [hr _ _ _ hc2]; exact h
          · cases h
        · cases h
      · cases h
    · cases h
  · cases h
theorem F_le (hr : Le r r') (t : Task) {s : St} {q : Res × St} (h : F t E r s = some q) : F t E r' s = some q := by
  cases t with
  | code c a => exact xCode_le hr c h
  | scope c body a => exact xScope_le hr (fun q hq => hr _ _ _ hq) h
  | call f args rc => exact xCall_le hr h
  | round l args => exact xRound_le hr h
  | unwind fn a pan => exact xUnwind_le hr h
theorem run_succ (E : Env) (n : Nat) (t : Task) (s : St) : run E (n + 1) t s = F t E (run E n) s := rfl
theorem run_le (E : Env) : ∀ n, Le (run E n) (run E (n + 1))
  | 0 => fun t s q h => by cases h
  | n + 1 => fun t s q h => F_le (run_le E n) t h
theorem run_mono {n m : Nat} (hnm : n ≤ m) {t : Task} {s : St} {q : Res × St} (h : run E n t s = some q) : run E m t s = some q := by
  induction hnm with
  | refl => exact h
  | step _ ih => exact run_le E _ _ _ _ ih
end
end Go.AM

namespace Go.AM
open Go
/-! ## a call, a text: what comes of it, with fuel enough -/
def Ev (E : Env) (t : Task) (s : St) (q : Res × St) : Prop := ∃ n, run E n t s = some q
/-- a row of operations that ends -/
def Ops (E : Env) (ops l : List Oper) (tm : List Value) (s : St) (tm' : List Value) (s' : St) : Prop :=
  ∃ N, ∀ n, N ≤ n → ∀ df rc rd, xOps E (run E n) ops l tm df rc rd s = some (.ex .normal ⟨tm', df, rc, rd⟩, s')
section
variable {E : Env} {s s1 s2 : St} {a a1 : Ac} {q : Res × St}
theorem Ev.of_F {t : Task} (h : ∃ n, F t E (run E n) s = some q) : Ev E t s q := let ⟨n, h⟩ := h; ⟨n + 1, h⟩
theorem ev_skip : Ev E (.code .skip a) s (.ex .normal a, s) := ⟨1, rfl⟩
theorem ev_ret : Ev E (.code .ret a) s (.ex .ret a, s) := ⟨1, rfl⟩
theorem ev_exit {i : Nat} : Ev E (.code (.exit i) a) s (.ex (.exit i) a, s) := ⟨1, rfl⟩
theorem ev_seq {x y : Code} (h1 : Ev E (.code x a) s (.ex .normal a1, s1)) (h2 : Ev E (.code y a1) s1 q) : Ev E (.code (.seq x y) a) s q := by
  obtain ⟨n, h1⟩ := h1
  obtain ⟨m, h2⟩ := h2
  refine ⟨max n m + 1, ?_⟩
  show xSeq (run E (max n m)) y (run E (max n m) (.code x a) s) = some q
  rw [run_mono (Nat.le_max_left n m) h1]
  exact run_mono (Nat.le_max_right n m) h2
theorem ev_seq_x {x y : Code} {e : Ex} (he : e ≠ .normal) (h1 : Ev E (.code x a) s (.ex e a1, s1)) : Ev E (.code (.seq x y) a) s (.ex e a1, s1) := by
  obtain ⟨n, h1⟩ := h1
  refine ⟨n + 1, ?_⟩
  show xSeq (run E n) y (run E n (.code x a) s) = _
  rw [h1]
  cases e <;> first | rfl | exact absurd rfl he
theorem ev_true {c : Operand} {x y : Code} (hc : evl a.tm c = .bool true) (h : Ev E (.code x a) s q) : Ev E (.code (.cond c x y) a) s q := by
  obtain ⟨n, h⟩ := h
  refine ⟨n + 1, ?_⟩
  show xCond (run E n) x y a s (evl a.tm c) = _
  rw [hc]; exact h
theorem ev_false {c : Operand} {x y : Code} (hc : evl a.tm c = .bool false) (h : Ev E (.code y a) s q) : Ev E (.code (.cond c x y) a) s q := by
  obtain ⟨n, h⟩ := h
  refine ⟨n + 1, ?_⟩
  show xCond (run E n) x y a s (evl a.tm c) = _
  rw [hc]; exact h
/-- behind a block -/
def blk (id : Nat) (e : Ex) : Ex := match e with | .exit i => (match Nat.beq i id with | true => .normal | false => .exit i) | e => e
theorem ev_block {id : Nat} {b : Code} {e : Ex} (h : Ev E (.code b a) s (.ex e a1, s1)) : Ev E (.code (.block id b) a) s (.ex (blk id e) a1, s1) := by
  obtain ⟨n, h⟩ := h
  refine ⟨n + 1, ?_⟩
  show xBlock id (run E n (.code b a) s) = _
  rw [h]
  cases e <;> rfl
theorem ev_loop {b : Code} (h1 : Ev E (.code b a) s (.ex .normal a1, s1)) (h2 : Ev E (.code (.loop b) a1) s1 q) : Ev E (.code (.loop b) a) s q := by
  obtain ⟨n, h1⟩ := h1
  obtain ⟨m, h2⟩ := h2
  refine ⟨max n m + 1, ?_⟩
  show xSeq (run E (max n m)) (.loop b) (run E (max n m) (.code b a) s) = some q
  rw [run_mono (Nat.le_max_left n m) h1]
  exact run_mono (Nat.le_max_right n m) h2
theorem ev_loop_x {b : Code} {e : Ex} (he : e ≠ .normal) (h1 : Ev E (.code b a) s (.ex e a1, s1)) : Ev E (.code (.loop b) a) s (.ex e a1, s1) := by
  obtain ⟨n, h1⟩ := h1
  refine ⟨n + 1, ?_⟩
  show xSeq (run E n) (.loop b) (run E n (.code b a) s) = _
  rw [h1]
  cases e <;> first | rfl | exact absurd rfl he
theorem ev_region {id : Nat} {ops : Array Oper} {tm tm' : List Value} {df : List Deferred} {rc : Option Value} {rd : Option Nat} (h : Ops E ops.toList ops.toList tm s tm' s1) :
    Ev E (.code (.region id ops false) ⟨tm, df, rc, rd⟩) s (.ex .normal ⟨tm', df, rc, rd⟩, s1) := by
  obtain ⟨N, h⟩ := h
  exact ⟨N + 1, h N (Nat.le_refl _) df rc rd⟩
theorem ops_nil {ops : List Oper} {tm : List Value} : Ops E ops [] tm s tm s := ⟨0, fun _ _ _ _ _ => rfl⟩
theorem ops_v {ops l : List Oper} {d : Option Tmp} {op : Op} {ty : TypeId} {pos : String} {af : Array Edge} {g : Option (Nat × Bool)} {tm tm' : List Value} {v : Value}
    (hw : wantedO ops tm g = true) (ho : opr op E s (evl tm) = some (.v v, s1)) (h : Ops E ops l (setT tm d v) s1 tm' s2) : Ops E ops (⟨d, op, ty, pos, af, g⟩ :: l) tm s tm' s2 := by
  obtain ⟨N, h⟩ := h
  refine ⟨N, fun n hn df rc rd => ?_⟩
  show xW (wantedO ops tm g) op d E (run E n) (xOps E (run E n) ops l) tm df rc rd s = _
  rw [hw]
  show xR (opr op E s (evl tm)) (run E n) (xOps E (run E n) ops l) d tm df rc rd = _
  rw [ho]
  exact h n hn df rc rd
theorem ops_skip {ops l : List Oper} {d : Option Tmp} {op : Op} {ty : TypeId} {pos : String} {af : Array Edge} {g : Option (Nat × Bool)} {tm tm' : List Value}
    (hw : wantedO ops tm g = false) (h : Ops E ops l (setT tm d undef) s tm' s2) : Ops E ops (⟨d, op, ty, pos, af, g⟩ :: l) tm s tm' s2 := by
  obtain ⟨N, h⟩ := h
  refine ⟨N, fun n hn df rc rd => ?_⟩
  show xW (wantedO ops tm g) op d E (run E n) (xOps E (run E n) ops l) tm df rc rd s = _
  rw [hw]
  exact h n hn df rc rd
theorem ops_call {ops l : List Oper} {d : Option Tmp} {op : Op} {ty : TypeId} {pos : String} {af : Array Edge} {g : Option (Nat × Bool)} {tm tm' : List Value} {f : FuncId} {args : List Value} {v : Value} {rc' : Option Value} {s3 : St}
    (hw : wantedO ops tm g = true) (ho : opr op E s (evl tm) = some (.enter f args, s1)) (hc : Ev E (.call f args none) s1 (.out (.ret v) rc', s3)) (h : Ops E ops l (setT tm d v) s3 tm' s2) : Ops E ops (⟨d, op, ty, pos, af, g⟩ :: l) tm s tm' s2 := by
  obtain ⟨N, h⟩ := h
  obtain ⟨k, hc⟩ := hc
  refine ⟨max N k, fun n hn df rc rd => ?_⟩
  show xW (wantedO ops tm g) op d E (run E n) (xOps E (run E n) ops l) tm df rc rd s = _
  rw [hw]
  show xR (opr op E s (evl tm)) (run E n) (xOps E (run E n) ops l) d tm df rc rd = _
  rw [ho]
  show xOut (xOps E (run E n) ops l) d tm df rc rd (run E n (.call f args none) s1) = _
  rw [run_mono (Nat.le_trans (Nat.le_max_right N k) hn) hc]
  exact h n (Nat.le_trans (Nat.le_max_left N k) hn) df rc rd
/-- a call that returns, with no deferred calls -/
theorem ev_call {f : FuncId} {fn : Func} {body : Code} {args vs : List Value} {e : Ex} (hp : T.get E.prm f = none) (hf : T.get E.fns f = some fn) (hb : fn.body = some body)
    (h : Ev E (.code body ⟨catV args (undefs (Nat.sub fn.ntmps (lenV args))), [], none, none⟩) s (.ex e a1, s1)) (he : e = .normal ∨ e = .ret) (hd : a1.df = []) (hr : resV E s1 a1.tm fn.results.toList = some vs) :
    Ev E (.call f args none) s (.out (.ret (tupV vs)) a1.rc, s1) := by
  obtain ⟨n, h⟩ := h
  obtain ⟨tm, df, rc, rd⟩ := a1
  have hd' : df = [] := hd
  subst hd'
  refine ⟨n + 2, ?_⟩
  show xCall E (run E (n + 1)) f args none s = _
  unfold xCall
  rw [hp]
  simp only
  unfold xCall2
  rw [hf]
  simp only
  rw [hb]
  simp only
  rw [run_mono (Nat.le_succ n) h]
  have hu : run E (n + 1) (.unwind fn ⟨tm, [], rc, rd⟩ none) s1 = some (.out (.ret (tupV vs)) rc, s1) := by
    show (match resV E s1 tm fn.results.toList with | some vs => some (Res.out (.ret (tupV vs)) rc, s1) | none => none) = _
    rw [show resV E s1 tm fn.results.toList = some vs from hr]
  rcases he with rfl | rfl
  · exact hu
  · exact hu
end
/-- a part of a text -/
def nav : Code → List Nat → Code
  | c, [] => c
  | .seq a b, i :: p => match i with | 0 => nav a p | _ + 1 => nav b p
  | .cond _ a b, i :: p => match i with | 0 => nav a p | _ + 1 => nav b p
  | .block _ b, _ :: p => nav b p
  | .loop b, _ :: p => nav b p
  | .scope b, _ :: p => nav b p
  | c, _ :: _ => c
def bodyOf (f : Func) : Code := f.body.getD .skip
theorem tab_lk (tm : List Value) : tm = (List.range tm.length).map (lk tm) := by
  apply List.ext_getElem
  · simp
  · intro i h1 h2
    simp [lk_eq, h1]
/-! ### numbers -/
theorem wrap_nat {n : Nat} (h : n < 9223372036854775808) : wrapF .i64 (.ofNat n) = .ofNat n := by
  rw [wrapF_eq]; exact wrap_small .i64 n h
theorem blt_true {a b : Nat} (h : a < b) : Nat.blt a b = true := Nat.blt_eq.mpr h
theorem blt_false {a b : Nat} (h : ¬ a < b) : Nat.blt a b = false := by
  cases hb : Nat.blt a b with
  | false => rfl
  | true => exact absurd (Nat.blt_eq.mp hb) h
theorem ble_true {a b : Nat} (h : a ≤ b) : Nat.ble a b = true := Nat.ble_eq.mpr h
theorem beq_false' {a b : Nat} (h : a ≠ b) : Nat.beq a b = false := by
  cases hb : Nat.beq a b with
  | false => rfl
  | true => exact absurd (Nat.beq_eq.mp hb) h
end Go.AM

namespace Go.AM
open Go
/-! ## what is asked of where a text arrives -/
def Wp (E : Env) (c : Code) (tm : List Value) (s : St) (Q : Ex → List Value → St → Prop) : Prop :=
  ∃ e tm' s', Ev E (.code c ⟨tm, [], none, none⟩) s (.ex e ⟨tm', [], none, none⟩, s') ∧ Q e tm' s'
def WpO (E : Env) (ops l : List Oper) (tm : List Value) (s : St) (Q : List Value → St → Prop) : Prop := ∃ tm' s', Ops E ops l tm s tm' s' ∧ Q tm' s'
def Call (E : Env) (f : FuncId) (args : List Value) (s : St) (P : Value → St → Prop) : Prop := ∃ v s', Ev E (.call f args none) s (.out (.ret v) none, s') ∧ P v s'
section
variable {E : Env} {s s1 : St} {tm : List Value} {Q : Ex → List Value → St → Prop}
theorem Wp.mono {c : Code} {Q' : Ex → List Value → St → Prop} (h : Wp E c tm s Q) (hq : ∀ e tm s, Q e tm s → Q' e tm s) : Wp E c tm s Q' :=
  let ⟨e, tm', s', h1, h2⟩ := h; ⟨e, tm', s', h1, hq _ _ _ h2⟩
theorem Call.mono {f : FuncId} {args : List Value} {P P' : Value → St → Prop} (h : Call E f args s P) (hp : ∀ v s', P v s' → P' v s') : Call E f args s P' :=
  let ⟨v, s', h1, h2⟩ := h; ⟨v, s', h1, hp _ _ h2⟩
theorem wp_skip (h : Q .normal tm s) : Wp E .skip tm s Q := ⟨_, _, _, ev_skip, h⟩
theorem wp_ret (h : Q .ret tm s) : Wp E .ret tm s Q := ⟨_, _, _, ev_ret, h⟩
theorem wp_exit {i : Nat} (h : Q (.exit i) tm s) : Wp E (.exit i) tm s Q := ⟨_, _, _, ev_exit, h⟩
theorem wp_seq {x y : Code} (h : Wp E x tm s (fun e tm1 s1 => match e with | .normal => Wp E y tm1 s1 Q | e => Q e tm1 s1)) : Wp E (.seq x y) tm s Q := by
  obtain ⟨e, tm1, s1, h1, h2⟩ := h
  cases e with
  | normal =>
    obtain ⟨e2, tm2, s2, h3, h4⟩ := h2
    exact ⟨e2, tm2, s2, ev_seq h1 h3, h4⟩
  | exit i => exact ⟨_, _, _, ev_seq_x (by simp) h1, h2⟩
  | goto i => exact ⟨_, _, _, ev_seq_x (by simp) h1, h2⟩
  | ret => exact ⟨_, _, _, ev_seq_x (by simp) h1, h2⟩
  | panic v => exact ⟨_, _, _, ev_seq_x (by simp) h1, h2⟩
theorem wp_cond {c : Operand} {x y : Code} {b : Bool} (hc : evl tm c = .bool b) (h1 : b = true → Wp E x tm s Q) (h2 : b = false → Wp E y tm s Q) : Wp E (.cond c x y) tm s Q := by
  cases b with
  | true => obtain ⟨e, tm', s', g1, g2⟩ := h1 rfl; exact ⟨e, tm', s', ev_true hc g1, g2⟩
  | false => obtain ⟨e, tm', s', g1, g2⟩ := h2 rfl; exact ⟨e, tm', s', ev_false hc g1, g2⟩
theorem wp_block {id : Nat} {b : Code} (h : Wp E b tm s (fun e tm' s' => Q (blk id e) tm' s')) : Wp E (.block id b) tm s Q := by
  obtain ⟨e, tm', s', h1, h2⟩ := h
  exact ⟨_, tm', s', ev_block h1, h2⟩
/-- a loop: what holds at its head, of a measure that falls -/
theorem wp_loop {b : Code} (I : Nat → List Value → St → Prop) (k : Nat) (h0 : I k tm s)
    (hs : ∀ k tm s, I k tm s → Wp E b tm s (fun e tm' s' => match e with | .normal => ∃ j, j < k ∧ I j tm' s' | e => Q e tm' s')) : Wp E (.loop b) tm s Q := by
  induction k using Nat.strongRecOn generalizing tm s with
  | ind k ih =>
    obtain ⟨e, tm1, s1, h1, h2⟩ := hs k tm s h0
    cases e with
    | normal =>
      obtain ⟨j, hj, hI⟩ := h2
      obtain ⟨e2, tm2, s2, h3, h4⟩ := ih j hj hI
      exact ⟨e2, tm2, s2, ev_loop h1 h3, h4⟩
    | exit i => exact ⟨_, _, _, ev_loop_x (by simp) h1, h2⟩
    | goto i => exact ⟨_, _, _, ev_loop_x (by simp) h1, h2⟩
    | ret => exact ⟨_, _, _, ev_loop_x (by simp) h1, h2⟩
    | panic v => exact ⟨_, _, _, ev_loop_x (by simp) h1, h2⟩
theorem wp_region {id : Nat} {ops : Array Oper} (h : WpO E ops.toList ops.toList tm s (fun tm s => Q .normal tm s)) : Wp E (.region id ops false) tm s Q := by
  obtain ⟨tm', s', h1, h2⟩ := h
  exact ⟨_, tm', s', ev_region h1, h2⟩
theorem wpo_nil {ops : List Oper} {R : List Value → St → Prop} (h : R tm s) : WpO E ops [] tm s R := ⟨_, _, ops_nil, h⟩
theorem wpo_v {ops l : List Oper} {d : Option Tmp} {op : Op} {ty : TypeId} {pos : String} {af : Array Edge} {g : Option (Nat × Bool)} {v : Value} {R : List Value → St → Prop}
    (hw : wantedO ops tm g = true) (ho : opr op E s (evl tm) = some (.v v, s1)) (h : WpO E ops l (setT tm d v) s1 R) : WpO E ops (⟨d, op, ty, pos, af, g⟩ :: l) tm s R := by
  obtain ⟨tm', s', h1, h2⟩ := h
  exact ⟨tm', s', ops_v hw ho h1, h2⟩
theorem wpo_skip {ops l : List Oper} {d : Option Tmp} {op : Op} {ty : TypeId} {pos : String} {af : Array Edge} {g : Option (Nat × Bool)} {R : List Value → St → Prop}
    (hw : wantedO ops tm g = false) (h : WpO E ops l (setT tm d undef) s R) : WpO E ops (⟨d, op, ty, pos, af, g⟩ :: l) tm s R := by
  obtain ⟨tm', s', h1, h2⟩ := h
  exact ⟨tm', s', ops_skip hw h1, h2⟩
theorem wpo_call {ops l : List Oper} {d : Option Tmp} {op : Op} {ty : TypeId} {pos : String} {af : Array Edge} {g : Option (Nat × Bool)} {f : FuncId} {args : List Value} {R : List Value → St → Prop}
    (hw : wantedO ops tm g = true) (ho : opr op E s (evl tm) = some (.enter f args, s1)) (h : Call E f args s1 (fun v s2 => WpO E ops l (setT tm d v) s2 R)) : WpO E ops (⟨d, op, ty, pos, af, g⟩ :: l) tm s R := by
  obtain ⟨v, s2, hc, tm', s', h1, h2⟩ := h
  exact ⟨tm', s', ops_call hw ho hc h1, h2⟩
theorem call_of {f : FuncId} {fn : Func} {body : Code} {args : List Value} {P : Value → St → Prop} (hp : T.get E.prm f = none) (hf : T.get E.fns f = some fn) (hb : fn.body = some body)
    (h : Wp E body (catV args (undefs (Nat.sub fn.ntmps (lenV args)))) s (fun e tm s' => (e = .normal ∨ e = .ret) ∧ ∃ vs, resV E s' tm fn.results.toList = some vs ∧ P (tupV vs) s')) : Call E f args s P := by
  obtain ⟨e, tm', s', h1, h2, vs, h3, h4⟩ := h
  exact ⟨tupV vs, s', ev_call hp hf hb h1 h2 rfl h3, h4⟩
end
end Go.AM
namespace Go.AM
open Go
/-! ### operations whose answer hangs on a fact -/
theorem o_b {s : St} {x r : Bool} (h : x = r) : some (N.v (Value.bool x), s) = some (N.v (Value.bool r), s) := by rw [h]
theorem str_index {E : Env} {s : St} {t : TypeId} {l : List UInt8} {i : Nat} {k : IntKind} {c : UInt8} (hk : tkOf E t = .str) (h : l[i]? = some c) :
    oIndex E s t (.string ⟨⟨l⟩⟩) (.int k (.ofNat i)) = some (.v (.int .u8 (.ofNat c.toNat)), s) := by
  have hi : i < l.length := (List.getElem?_eq_some_iff.1 h).1
  unfold oIndex
  rw [hk]
  simp only [below, lenB_eq, blt_true hi, nthB_eq, h]
end Go.AM
namespace Go.AM
open Go
theorem wrapN {k : IntKind} {x : Int} (n : Nat) (e : x = Int.ofNat n) (h : n < topOf k) : wrapF k x = Int.ofNat n := by rw [e, wrapF_eq]; exact wrap_small k n h
theorem int_congr {k : IntKind} {a b : Int} (h : a = b) : Value.int k a = Value.int k b := by rw [h]
end Go.AM
namespace Go.AM
open Go
theorem load_cell {E : Env} {s : St} {t b off : Nat} {v : Value} {xs : List Value} {k : CK} {e : TypeId} {x : TI} (ht : T.get E.tys t = some x) (hsz : x.size = 1) (hw : wrapV x.k [v] = some v) (hb : T.get s.heap b = some (.cells xs k e)) (hx : xs[off]? = some v) :
    oLoad E s t (.pointer (some ⟨b, off, none⟩)) = some (.v v, s) := by
  have hoff : off < xs.length := (List.getElem?_eq_some_iff.1 hx).1
  have hl : loadR s b off x.size = some [v] := by
    unfold loadR
    rw [hb, hsz]
    show takeV (dropV xs off) 1 = _
    rw [dropV_eq, takeV_of (by simp; omega)]
    have : (xs.drop off)[0]? = some v := by simpa using hx
    cases hd : xs.drop off with
    | nil => rw [hd] at this; simp at this
    | cons a r => rw [hd] at this; simp at this; simp [this]
  show (match T.get E.tys t with
    | some ti => match loadR s b off ti.size with
      | some vs => match wrapV ti.k vs with | some v => some (N.v v, s) | none => none
      | none => none
    | none => none) = _
  rw [ht]
  simp only [hl, hw]
theorem store_cell {E : Env} {s : St} {t b off : Nat} {v : Value} {xs : List Value} {k : CK} {e : TypeId} {x : TI} (ht : T.get E.tys t = some x) (hsz : x.size = 1) (hf : flat v = some [v]) (hb : T.get s.heap b = some (.cells xs k e)) (hk : k ≠ .ro) (hoff : off < xs.length) :
    oStore E s t (.pointer (some ⟨b, off, none⟩)) v = some (.v undef, s.put b (some (.cells (xs.set off v) k e))) := by
  have hs : spliceV xs [v] off = some (xs.set off v) := by
    have h0 : ∀ (xs : List Value) (off : Nat), off < xs.length → spliceV xs [v] off = some (xs.set off v) := by
      intro xs
      induction xs with
      | nil => intro off h; simp at h
      | cons a r ih =>
        intro off h
        cases off with
        | zero =>
          show overV (a :: r) [v] = some (v :: r)
          show (Option.rec (motive := fun _ => Option (List Value)) none (fun t => some (v :: t)) (overV r [])) = _
          cases r <;> rfl
        | succ off =>
          show (Option.rec (motive := fun _ => Option (List Value)) none (fun t => some (a :: t)) (spliceV r [v] off)) = _
          rw [ih off (by simpa using h)]; rfl
    exact h0 xs off hoff
  have hst : storeR s b off [v] = some (s.put b (some (.cells (xs.set off v) k e))) := by
    unfold storeR
    rw [hb]
    cases k <;> first | exact absurd rfl hk | simp only [hs]
  show (match T.get E.tys t with
    | some ti => match flat v with
      | none => none
      | some vs => match Nat.beq (lenV vs) ti.size with
        | true => match storeR s b off vs with
          | some s => some (N.v undef, s)
          | none => none
        | false => none
    | none => none) = _
  rw [ht, hf]
  simp only [hsz, hst]
  rfl
theorem idx_slice {E : Env} {s : St} {t e esz eb b o i len cap : Nat} {sp : Option Nat} {k : IntKind} (hk : tkOf E t = .slice e esz eb) (hi : i < len) :
    oIndexAddr E s t (.slice (some ⟨b, o, sp⟩) len cap) (.int k (.ofNat i)) = some (.v (.pointer (some ⟨b, o + i * esz, none⟩)), s) := by
  unfold oIndexAddr
  rw [hk]
  simp only [below, blt_true hi]
  rfl
theorem cellsB_get (l : List UInt8) : ∀ i : Nat, (cellsB l)[i]? = l[i]?.map (fun c : UInt8 => Value.int .u8 (.ofNat c.toNat)) := by
  induction l with
  | nil => intro i; rfl
  | cons x l ih =>
    intro i
    show (Value.int .u8 (.ofNat x.toNat) :: cellsB l)[i]? = _
    cases i with
    | zero => rfl
    | succ i => simpa using ih i
theorem new_get (s : St) (o : Ob) (k : Nat) : T.get (s.new o).heap k = if k = s.next then some o else T.get s.heap k := T.get_set _ _ _ _
theorem put_get (s : St) (b : Nat) (o : Option Ob) (k : Nat) : T.get (s.put b o).heap k = if k = b then o else T.get s.heap k := T.get_set _ _ _ _
end Go.AM
namespace Go.AM
open Go
theorem o_i {s : St} {k : IntKind} {x y : Int} (h : x = y) : some (N.v (Value.int k x), s) = some (N.v (Value.int k y), s) := by rw [h]
theorem o_v {s : St} {x y : Value} (h : x = y) : some (N.v x, s) = some (N.v y, s) := by rw [h]
theorem add_i {a b : Nat} (h : a + b < 9223372036854775808) : wrapF .i64 (iadd (Int.ofNat a) (Int.ofNat b)) = Int.ofNat (a + b) := by
  rw [iadd_eq]; exact wrapN _ rfl h
theorem sub_i {a b : Nat} (h : b ≤ a) (h' : a < 9223372036854775808) : wrapF .i64 (isub (Int.ofNat a) (Int.ofNat b)) = Int.ofNat (a - b) := by
  rw [isub_eq]; exact wrapN _ (by simp only [Int.ofNat_eq_natCast]; omega) (by simp only [topOf]; omega)
theorem str_slice {E : Env} {s : St} {t : TypeId} {l : List UInt8} {i j : Nat} {k k' : IntKind} (hk : tkOf E t = .str) (h1 : i ≤ j) (h2 : j ≤ l.length) :
    oSlice E s t (.string ⟨⟨l⟩⟩) (some (.int k (.ofNat i))) (some (.int k' (.ofNat j))) none = some (.v (.string ⟨⟨(l.take j).drop i⟩⟩), s) := by
  unfold oSlice
  rw [hk]
  simp only [hiOf, upTo, lenB_eq, ble_true h2, loOf, ble_true h1, dropB_eq, takeB_eq]
theorem str_from {E : Env} {s : St} {t : TypeId} {l : List UInt8} {i : Nat} {k : IntKind} (hk : tkOf E t = .str) (h1 : i ≤ l.length) :
    oSlice E s t (.string ⟨⟨l⟩⟩) (some (.int k (.ofNat i))) none none = some (.v (.string ⟨⟨l.drop i⟩⟩), s) := by
  unfold oSlice
  rw [hk]
  simp only [hiOf, upTo, lenB_eq, ble_true (Nat.le_refl _), loOf, ble_true h1, dropB_eq, takeB_eq, List.take_length]
theorem str_to {E : Env} {s : St} {t : TypeId} {l : List UInt8} {j : Nat} {k : IntKind} (hk : tkOf E t = .str) (h1 : j ≤ l.length) :
    oSlice E s t (.string ⟨⟨l⟩⟩) none (some (.int k (.ofNat j))) none = some (.v (.string ⟨⟨l.take j⟩⟩), s) := by
  unfold oSlice
  rw [hk]
  simp only [hiOf, upTo, lenB_eq, ble_true h1, loOf, dropB_eq, takeB_eq, List.drop_zero]
theorem str_add {a b : List UInt8} (h : a.length + b.length < 9223372036854775808) : strop .add ⟨⟨a⟩⟩ ⟨⟨b⟩⟩ = some (.string ⟨⟨a ++ b⟩⟩) := by
  simp only [strop, lenB_eq, catB_eq]
  rw [show Nat.blt (Nat.add a.length b.length) 9223372036854775808 = true from blt_true h]
theorem valO_some {s : St} {r : Option Value} {v : Value} (h : r = some v) : valO s r = some (.v v, s) := by rw [h]; rfl
theorem fits_ok {n b : Nat} (h : n * (b + 1) < 1099511627776) : fits n b = true := blt_true h
/-- an append to nothing -/
theorem app_nil {E : Env} {s : St} {e eb k0 c : Nat} {v : Value} {ck : CK} {e0 : TypeId} {sp : Option Nat} (hb : T.get s.heap k0 = some (.cells [v] ck e0)) (hf : 1 * (eb + 1) < 1099511627776) :
    bAppend E s e 1 eb none 0 0 false (.slice (some ⟨k0, 0, sp⟩) 1 c) = some (.v (.slice (some ⟨s.next, 0, some 1⟩) 1 1), s.new (.cells [v] .rw e)) := by
  have hl : loadR s k0 0 (Nat.mul 1 1) = some [v] := by unfold loadR; rw [hb]; rfl
  show (match Nat.beq 1 0 with
    | true => none
    | false => match loadR s k0 0 (Nat.mul 1 1) with
      | some vs => retV (appendTo s 1 eb e none 0 0 vs 1)
      | none => none) = _
  rw [hl]
  show retV (appendTo s 1 eb e none 0 0 [v] 1) = _
  unfold appendTo
  rw [show Nat.add 0 1 = 1 from rfl, fits_ok hf]
  obtain ⟨h, k⟩ := s
  rfl
/-- an append to an array that is full -/
theorem app_kill {E : Env} {s : St} {e eb k0 c b n : Nat} {xs : List Value} {v : Value} {ck ck0 : CK} {e0 : TypeId} {sp : Option Nat} (hb : T.get s.heap k0 = some (.cells [v] ck0 e0)) (hx : T.get s.heap b = some (.cells xs ck e)) (hck : ck ≠ .ro) (hn : xs.length = n) (hf : (n + 1) * (eb + 1) < 1099511627776) :
    bAppend E s e 1 eb (some ⟨b, 0, some 1⟩) n n false (.slice (some ⟨k0, 0, sp⟩) 1 c) = some (.v (.slice (some ⟨s.next, 0, some 1⟩) (n + 1) (n + 1)), (s.put b none).new (.cells (xs ++ [v]) ck e)) := by
  have hl : loadR s k0 0 (Nat.mul 1 1) = some [v] := by unfold loadR; rw [hb]; rfl
  show (match Nat.beq 1 0 with
    | true => none
    | false => match loadR s k0 0 (Nat.mul 1 1) with
      | some vs => retV (appendTo s 1 eb e (some ⟨b, 0, some 1⟩) n n vs 1)
      | none => none) = _
  rw [hl]
  show retV (appendTo s 1 eb e (some ⟨b, 0, some 1⟩) n n [v] 1) = _
  unfold appendTo
  rw [show Nat.add n 1 = n + 1 from rfl, fits_ok hf]
  have hle : Nat.ble (n + 1) n = false := by
    cases hc : Nat.ble (n + 1) n with
    | false => rfl
    | true => have := Nat.ble_eq.mp hc; omega
  simp only [hle]
  unfold appendKill
  rw [hx]
  have ht : takeV xs (Nat.mul n 1) = some xs := by rw [takeV_of (by rw [hn]; exact Nat.le_of_eq (Nat.mul_one n))]; rw [show Nat.mul n 1 = xs.length by rw [hn]; exact Nat.mul_one n, List.take_length]
  obtain ⟨h, k⟩ := s
  cases ck <;> first | exact absurd rfl hck | (simp only [Nat.beq_refl, ht, catV_eq]; rfl)
end Go.AM
namespace Go.AM
open Go
theorem sl_to {E : Env} {s : St} {t e esz eb b o len cap j : Nat} {k : IntKind} (hk : tkOf E t = .slice e esz eb) (h : j ≤ cap) :
    oSlice E s t (.slice (some ⟨b, o, none⟩) len cap) none (some (.int k (.ofNat j))) none = some (.v (.slice (some ⟨b, o, none⟩) j cap), s) := by
  unfold oSlice
  rw [hk]
  simp only [sliceAny, slicePlain, hiOf, upTo, ble_true h, sliceIn, loOf, piece]
  have e1 : Nat.add o (Nat.mul 0 esz) = o := by show o + 0 * esz = o; omega
  have e2 : Nat.beq 0 0 = true := rfl
  rw [e2]
  cases Nat.beq 0 cap <;> simp only [e1] <;> rfl
theorem sl_from {E : Env} {s : St} {t e esz eb b o len cap i : Nat} {k : IntKind} (hk : tkOf E t = .slice e esz eb) (h : i ≤ len) (h2 : len ≤ cap) (h3 : i < cap) :
    oSlice E s t (.slice (some ⟨b, o, none⟩) len cap) (some (.int k (.ofNat i))) none none = some (.v (.slice (some ⟨b, o + i * esz, none⟩) (len - i) (cap - i)), s) := by
  unfold oSlice
  rw [hk]
  simp only [sliceAny, slicePlain, hiOf, ble_true h2, sliceIn, loOf, upTo, ble_true h, piece, beq_false' (show i ≠ cap by omega)]
  rfl
end Go.AM
namespace Go.AM
open Go
theorem overV_of : ∀ {l vs : List Value}, vs.length ≤ l.length → overV l vs = some (vs ++ l.drop vs.length)
  | l, [], _ => by cases l <;> rfl
  | [], _ :: _, h => by simp at h
  | x :: l, v :: vs, h => by
    show (Option.rec (motive := fun _ => Option (List Value)) none (fun t => some (v :: t)) (overV l vs)) = _
    rw [overV_of (by simpa using h)]; rfl
theorem spliceV_of : ∀ {l vs : List Value} {n : Nat}, n + vs.length ≤ l.length → spliceV l vs n = some (l.take n ++ vs ++ l.drop (n + vs.length))
  | [], vs, 0, h => by
    show overV [] vs = _
    rw [overV_of (by simpa using h)]; simp
  | [], vs, n + 1, h => by simp at h
  | x :: l, vs, 0, h => by
    show overV (x :: l) vs = _
    rw [overV_of (by simpa using h)]; simp
  | x :: l, vs, n + 1, h => by
    show (Option.rec (motive := fun _ => Option (List Value)) none (fun t => some (x :: t)) (spliceV l vs n)) = _
    rw [spliceV_of (l := l) (by simp at h; omega)]
    simp [Nat.add_right_comm n 1]
theorem clear_ok {E : Env} {s : St} {e b o n : Nat} {xs z : List Value} {k : CK} {e' : TypeId} {sp : Option Nat} (hb : T.get s.heap b = some (.cells xs k e')) (hk : k ≠ .ro) (hz : zeroOf E e = some z) (hzl : z.length = 1) (hn : 0 < n) (ho : o + n ≤ xs.length) :
    bClear E s e 1 (some ⟨b, o, sp⟩) n = some (.v (.tuple #[]), s.put b (some (.cells (xs.take o ++ rep z n ++ xs.drop (o + n)) k e'))) := by
  obtain ⟨m, rfl⟩ : ∃ m, n = m + 1 := ⟨n - 1, by omega⟩
  have hl : (rep z (m + 1)).length = m + 1 := by rw [length_rep, hzl]; omega
  have hsp : spliceV xs (rep z (m + 1)) o = some (xs.take o ++ rep z (m + 1) ++ xs.drop (o + (m + 1))) := by
    rw [spliceV_of (by rw [hl]; omega), hl]
  have hst : storeR s b o (rep z (m + 1)) = some (s.put b (some (.cells (xs.take o ++ rep z (m + 1) ++ xs.drop (o + (m + 1))) k e'))) := by
    unfold storeR
    rw [hb]
    cases k <;> first | exact absurd rfl hk | simp only [hsp]
  show (match zeroOf E e with
    | some z => match Nat.beq (lenV z) 1 with
      | true => match storeR s b o (rep z (m + 1)) with
        | some s => some (N.v (.tuple #[]), s)
        | none => none
      | false => none
    | none => none) = _
  rw [hz]
  simp only [lenV_eq, hzl, hst]
end Go.AM
