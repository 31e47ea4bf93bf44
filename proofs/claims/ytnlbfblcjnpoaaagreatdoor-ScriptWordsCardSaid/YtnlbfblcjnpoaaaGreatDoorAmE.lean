/- AM, regions whose order is drawn: the operations one by one. -/
import Derived.Test.YtnlbfblcjnpoaaaGreatDoorAmD
namespace Go.AM
open Go
/-- an operation that looks at no memory -/
def PureH (h : H) (E : Env) (ev : Operand → Value) : Prop := ∃ r : Option Value, ∀ s, h E s ev = match r with | some v => some (.v v, s) | none => none
section
variable {E : Env} {ev : Operand → Value}
theorem pure_move (x : Operand) : PureH (hMove x) E ev := ⟨some (ev x), fun _ => rfl⟩
theorem pure_pick (a b c : Operand) : PureH (hPick a b c) E ev := by
  unfold PureH hPick oPick
  cases ev a <;> first | exact ⟨none, fun _ => rfl⟩ | exact ⟨some _, fun _ => rfl⟩
theorem pure_build (t : TypeId) (ps : Array (Nat × Operand)) : PureH (hBuild t ps) E ev := by
  unfold PureH hBuild oBuild
  cases buildV E t (mapP ev ps.toList) with
  | none => exact ⟨none, fun _ => rfl⟩
  | some cs => exact ⟨some (.agg ⟨cs⟩), fun _ => rfl⟩
theorem pure_bin (op : BinOp) (t : TypeId) (x y : Operand) : PureH (hBin op t x y) E ev := ⟨binop E op t (isC x || isC y) (ev x) (ev y), fun _ => rfl⟩
theorem pure_un (op : UnOp) (x : Operand) : PureH (hUn op x) E ev := ⟨unop op (ev x), fun _ => rfl⟩
theorem pure_nil (x : Operand) : PureH (hNil x) E ev := by
  unfold PureH hNil oNil
  split
  · exact ⟨some _, fun _ => rfl⟩
  · split
    · exact ⟨some _, fun _ => rfl⟩
    · exact ⟨some _, fun _ => rfl⟩
    · exact ⟨none, fun _ => rfl⟩
  · exact ⟨some _, fun _ => rfl⟩
  · exact ⟨none, fun _ => rfl⟩
theorem pure_iface (t : TypeId) (x : Operand) : PureH (hIface t x) E ev := by
  unfold PureH hIface oIface
  cases tkOf E t <;> first | exact ⟨none, fun _ => rfl⟩ | exact ⟨some _, fun _ => rfl⟩
theorem pure_func (fn : Fn) (a b : Array Operand) : PureH (hFunc fn a b) E ev := by
  unfold PureH hFunc
  split
  · exact ⟨some _, fun _ => rfl⟩
  · exact ⟨some _, fun _ => rfl⟩
  · exact ⟨none, fun _ => rfl⟩
theorem pure_extract (x : Operand) (i : Nat) : PureH (hExtract x i) E ev := by
  unfold PureH hExtract oExtract
  split
  · rename_i vs _
    cases nthV vs i with
    | none => exact ⟨none, fun _ => rfl⟩
    | some v => exact ⟨some v, fun _ => rfl⟩
  · exact ⟨none, fun _ => rfl⟩
theorem pure_slice (t : TypeId) (x : Operand) (a b c : Option Operand) : PureH (hSlice t x a b c) E ev := by
  unfold PureH hSlice oSlice
  split
  · split
    · split
      · exact ⟨some _, fun _ => rfl⟩
      · exact ⟨none, fun _ => rfl⟩
    · exact ⟨none, fun _ => rfl⟩
  · split
    · split
      · exact ⟨some _, fun _ => rfl⟩
      · exact ⟨none, fun _ => rfl⟩
    · exact ⟨none, fun _ => rfl⟩
  · split
    · split
      · exact ⟨none, fun _ => rfl⟩
      · split
        · exact ⟨none, fun _ => rfl⟩
        · exact ⟨some _, fun _ => rfl⟩
    · exact ⟨none, fun _ => rfl⟩
  · exact ⟨none, fun _ => rfl⟩
theorem pure_fieldAddr (t : TypeId) (x : Operand) (f : Nat) : PureH (hFieldAddr t x f) E ev := by
  unfold PureH hFieldAddr oFieldAddr
  split
  · split
    · split
      · split
        · exact ⟨some _, fun _ => rfl⟩
        · exact ⟨none, fun _ => rfl⟩
      · exact ⟨none, fun _ => rfl⟩
    · exact ⟨none, fun _ => rfl⟩
  · exact ⟨none, fun _ => rfl⟩
theorem pure_field (t : TypeId) (x : Operand) (f : Nat) : PureH (hField t x f) E ev := by
  unfold PureH hField oField
  split
  · split
    · split
      · split
        · split
          · exact ⟨some _, fun _ => rfl⟩
          · exact ⟨none, fun _ => rfl⟩
        · exact ⟨none, fun _ => rfl⟩
      · exact ⟨none, fun _ => rfl⟩
    · exact ⟨none, fun _ => rfl⟩
  · exact ⟨none, fun _ => rfl⟩
theorem pure_indexAddr (t : TypeId) (x i : Operand) : PureH (hIndexAddr t x i) E ev := by
  unfold PureH hIndexAddr oIndexAddr
  split
  · split
    · split
      · exact ⟨some _, fun _ => rfl⟩
      · exact ⟨none, fun _ => rfl⟩
    · exact ⟨none, fun _ => rfl⟩
  · split
    · split
      · exact ⟨some _, fun _ => rfl⟩
      · exact ⟨none, fun _ => rfl⟩
    · exact ⟨none, fun _ => rfl⟩
  · exact ⟨none, fun _ => rfl⟩
theorem pure_index (t : TypeId) (x i : Operand) : PureH (hIndex t x i) E ev := by
  unfold PureH hIndex oIndex
  split
  · split
    · split
      · split
        · split
          · exact ⟨some _, fun _ => rfl⟩
          · exact ⟨none, fun _ => rfl⟩
        · exact ⟨none, fun _ => rfl⟩
      · exact ⟨none, fun _ => rfl⟩
    · exact ⟨none, fun _ => rfl⟩
  · split
    · split
      · split
        · exact ⟨some _, fun _ => rfl⟩
        · exact ⟨none, fun _ => rfl⟩
      · exact ⟨none, fun _ => rfl⟩
    · exact ⟨none, fun _ => rfl⟩
  · exact ⟨none, fun _ => rfl⟩
theorem pure_assert (x : Operand) (t : TypeId) (ok : Bool) : PureH (hAssert x t ok) E ev := by
  have main : ∀ k, ∃ r : Option Value, ∀ s, oAssertK E s (ev x) t ok k = match r with | some v => some (.v v, s) | none => none := by
    intro k
    unfold oAssertK
    split
    · split
      · split
        · exact ⟨some _, fun _ => rfl⟩
        · exact ⟨none, fun _ => rfl⟩
      · exact ⟨none, fun _ => rfl⟩
    · split
      · exact ⟨none, fun _ => rfl⟩
      · split
        · exact ⟨none, fun _ => rfl⟩
        · split
          · split
            · exact ⟨some _, fun _ => rfl⟩
            · exact ⟨some _, fun _ => rfl⟩
          · exact ⟨some _, fun _ => rfl⟩
          · exact ⟨none, fun _ => rfl⟩
  unfold PureH hAssert oAssert
  split
  · exact ⟨none, fun _ => rfl⟩
  · exact ⟨none, fun _ => rfl⟩
  · exact main _
theorem pure_convInt (d t : TypeId) (x : Operand) {k : IntKind} (hk : tkOf E t = .int k) : PureH (hConv d t x) E ev := by
  unfold PureH hConv oConv
  rw [hk]
  split
  · exact ⟨none, fun _ => rfl⟩
  · simp only [cInt]
    split
    · exact ⟨some _, fun _ => rfl⟩
    · exact ⟨none, fun _ => rfl⟩
theorem pure_call (c : Call) (hc : isAct (clC E c) = false) (hr : isRead (clC E c) = false) (hm : isMake (clC E c) = false) : PureH (hCall c) E ev := by
  obtain ⟨callee, ⟨args⟩, ⟨tys⟩⟩ := c
  cases callee with
  | builtin b =>
    cases b with
    | len =>
      unfold PureH hCall callO
      simp only [builtinV]
      split
      · rename_i t ts x _
        unfold bLen
        split
        · exact ⟨some _, fun _ => rfl⟩
        · split
          · exact ⟨some _, fun _ => rfl⟩
          · exact ⟨none, fun _ => rfl⟩
        · split
          · exact ⟨some _, fun _ => rfl⟩
          · exact ⟨none, fun _ => rfl⟩
        · rename_i hk
          simp only [clC, clB, hk, isAct] at hc
          cases hc
        · exact ⟨none, fun _ => rfl⟩
      · exact ⟨none, fun _ => rfl⟩
    | cap =>
      unfold PureH hCall callO
      simp only [builtinV]
      split
      · unfold bCap
        split
        · split
          · exact ⟨some _, fun _ => rfl⟩
          · exact ⟨some _, fun _ => rfl⟩
          · exact ⟨none, fun _ => rfl⟩
        · exact ⟨none, fun _ => rfl⟩
      · exact ⟨none, fun _ => rfl⟩
    | max =>
      unfold PureH hCall callO
      simp only [builtinV, bMax]
      split
      · split
        · exact ⟨some _, fun _ => rfl⟩
        · exact ⟨none, fun _ => rfl⟩
      · exact ⟨none, fun _ => rfl⟩
    | min =>
      unfold PureH hCall callO
      simp only [builtinV, bMin]
      split
      · split
        · exact ⟨some _, fun _ => rfl⟩
        · exact ⟨none, fun _ => rfl⟩
      · exact ⟨none, fun _ => rfl⟩
    | unsafeSliceData =>
      unfold PureH hCall callO
      simp only [builtinV, bData]
      split
      · split
        · exact ⟨some _, fun _ => rfl⟩
        · exact ⟨none, fun _ => rfl⟩
      · exact ⟨none, fun _ => rfl⟩
    | _ => cases hc
  | _ => cases hc
theorem pure_opr (op : Op) (ha : isAct (clOf E op) = false) (hr : isRead (clOf E op) = false) (hm : isMake (clOf E op) = false) : PureH (opr op) E ev := by
  cases op with
  | move x => exact pure_move x
  | assign x => exact pure_move x
  | pick a b c => exact pure_pick a b c
  | build t ps => exact pure_build t ps
  | nilCheck x => exact pure_nil x
  | binOp op t x y _ => exact pure_bin op t x y
  | unOp op _ x => exact pure_un op x
  | convert d t x =>
    simp only [clOf] at ha
    cases hk : tkOf E t with
    | int k => exact pure_convInt d t x hk
    | _ => rw [hk] at ha; cases ha
  | makeInterface t x => exact pure_iface t x
  | makeFunc fn a b => exact pure_func fn a b
  | slice t x a b c => exact pure_slice t x a b c
  | fieldAddr t x f => exact pure_fieldAddr t x f
  | field t x f => exact pure_field t x f
  | indexAddr t x i => exact pure_indexAddr t x i
  | index t x i => exact pure_index t x i
  | typeAssert x _ t ok => exact pure_assert x t ok
  | extract x i => exact pure_extract x i
  | call c => exact pure_call c ha hr hm
  | alloc e => cases hm
  | box t x => cases hm
  | buildSlice t l ps => cases hm
  | load t x => cases hr
  | lookup t x k ok => cases hr
  | _ => cases ha
end
end Go.AM

namespace Go.AM
open Go
/-- an operation that makes one block and looks at no memory -/
structure MakeH (P : Program) (E : Env) (o : Oper) (m : Mp) (ev ρ : Operand → Value) (mk mk' : Nat → Value) (ob : Ob) (o' : Obj) (cnt : Nat) : Prop where
  am : ∀ s, opr o.op E s ev = some (.v (mk s.next), s.new ob)
  run : ∀ w : World, (execOp ρ o).run P w = .ok (.value (mk' w.heap.size)) (pushW w o')
  rel : OR m ob o' cnt
  val : ∀ (m' : Mp) k b, m' k = some (b, cnt) → VR m' (mk k) (mk' b)
  nro : ¬ isRo ob
section
variable {P : Program} {E : Env} {m : Mp} {s s' : St} {n : N} {ev ρ : Operand → Value} {d : Option Tmp} {ty : TypeId} {pos : String} {af : Array Edge} {g : Option (Nat × Bool)}
theorem make_alloc (hE : EnvOK P E) (e : TypeId) (h : hAlloc e E s ev = some (n, s')) : ∃ mk mk' ob o' cnt, MakeH P E ⟨d, .alloc e, ty, pos, af, g⟩ m ev ρ mk mk' ob o' cnt := by
  unfold hAlloc oAlloc at h
  cases hz : zeroOf E e with
  | none => rw [hz] at h; cases h
  | some z =>
    obtain ⟨zv, g1, g2, g3, g4, g5⟩ := run_zero (P := P) hE hz m default
    have hz' : ∀ w : World, (zeroValue e).run P w = .ok zv w := by
      intro w
      obtain ⟨zv2, q1, q2, _⟩ := run_zero (P := P) hE hz m w
      obtain ⟨ti, ht⟩ : ∃ ti, T.get E.tys e = some ti := by
        unfold zeroOf at hz
        cases ht : T.get E.tys e with
        | none => rw [ht] at hz; cases hz
        | some ti => exact ⟨ti, rfl⟩
      obtain ⟨i, zz, i1, i2, i3, _⟩ := (hE.tys e ti ht).info
      have e1 : ∀ w : World, (zeroValue e).run P w = .ok zz w := by intro w; simp [zeroValue, typeInfo, i1, i3]
      have := e1 default
      rw [g1] at this; injection this with this; subst this
      exact e1 w
    have hc : zv.cells = ⟨z ++ []⟩ := by rw [← g2]; simp
    refine ⟨fun k => ptr k 0, fun b => .pointer (some ⟨b, 0, none⟩), .cells z .rw e, .cells ⟨z ++ []⟩ e (0, 0), (z ++ []).length, ?_, ?_, .cells (ys := z) (zs := []) (k := .rw) (fr := (0, 0)) g3 g4 rfl (.inr rfl), fun m' k b hk => .ptr 0 hk, by simp [isRo]⟩
    · intro s
      show oAlloc E s e = _
      unfold oAlloc; rw [hz]
    · intro w
      simp only [execOp, Instr.alloc, Sem.run_bind, hz', Result.andThen_ok, newVar, newRow, run_newObj, Sem.run_pure, hc]
      rfl
theorem make_box (hρ : ER m ev ρ) (e : TypeId) (x : Operand) (h : hBox e x E s ev = some (n, s')) : ∃ mk mk' ob o' cnt, MakeH P E ⟨d, .box e x, ty, pos, af, g⟩ m ev ρ mk mk' ob o' cnt := by
  unfold hBox oBox at h
  cases hz : flat (ev x) with
  | none => rw [hz] at h; cases h
  | some z =>
    obtain ⟨g3, g4⟩ := flat_rel (hρ x) hz
    have hc : (ρ x).cells = ⟨(ρ x).cells.toList ++ []⟩ := by simp
    refine ⟨fun k => ptr k 0, fun b => .pointer (some ⟨b, 0, none⟩), .cells z .rw e, .cells ⟨(ρ x).cells.toList ++ []⟩ e (0, 0), ((ρ x).cells.toList ++ []).length, ?_, ?_, .cells (ys := (ρ x).cells.toList) (zs := []) (k := .rw) (fr := (0, 0)) g3 g4 rfl (.inr rfl), fun m' k b hk => .ptr 0 hk, by simp [isRo]⟩
    · intro s
      show oBox s e (ev x) = _
      unfold oBox; rw [hz]
    · intro w
      simp only [execOp, Instr.box, Sem.run_bind, Result.andThen_ok, newVar, newRow, run_newObj, Sem.run_pure, ← hc]
      rfl
theorem zero_any (hE : EnvOK P E) {e : TypeId} {z : List Value} (hz : zeroOf E e = some z) (m : Mp) :
    ∃ zv, (∀ w : World, (zeroValue e).run P w = .ok zv w) ∧ zv.cells.toList = z ∧ VRs m z z ∧ (∀ v ∈ z, isCell v = true) := by
  obtain ⟨zv, g1, g2, g3, g4, g5⟩ := run_zero (P := P) hE hz m default
  refine ⟨zv, ?_, g2, g3, g4⟩
  obtain ⟨ti, ht⟩ : ∃ ti, T.get E.tys e = some ti := by
    unfold zeroOf at hz
    cases ht : T.get E.tys e with
    | none => rw [ht] at hz; cases hz
    | some ti => exact ⟨ti, rfl⟩
  obtain ⟨i, zz, i1, i2, i3, _⟩ := (hE.tys e ti ht).info
  have e1 : ∀ w : World, (zeroValue e).run P w = .ok zz w := by intro w; simp [zeroValue, typeInfo, i1, i3]
  have := e1 default
  rw [g1] at this; injection this with this; subst this
  exact e1
theorem make_buildSlice (hE : EnvOK P E) (hρ : ER m ev ρ) (t : TypeId) (len : Nat) (ps : Array (Nat × Operand)) (h : hBuildSlice t len ps E s ev = some (n, s')) :
    ∃ mk mk' ob o' cnt, MakeH P E ⟨d, .buildSlice t len ps, ty, pos, af, g⟩ m ev ρ mk mk' ob o' cnt := by
  have h0 := h
  unfold hBuildSlice oBuildSlice at h
  split at h
  · rename_i e esz eb hk
    obtain ⟨k1, i, k2, k3, k4⟩ := kr_of hE hk (by simp)
    cases hz : zeroOf E e with
    | none => rw [hz] at h; cases h
    | some z =>
      rw [hz] at h
      simp only at h
      split at h
      · rename_i hb1 hb2 hb3
        cases hc : cellsOfRow esz len z (mapP ev ps.toList) with
        | none => rw [hc] at h; cases h
        | some cs =>
          obtain ⟨zv, z1, z2, z3, z4⟩ := zero_any hE hz m
          have hb1' := hb1
          have hb2' := hb2
          rw [Nat.beq_eq, lenV_eq] at hb1
          rw [Nat.ble_eq] at hb2
          have hb3' : esz ≠ 0 := by rintro rfl; cases hb3
          obtain ⟨vs, q1, q2, q3⟩ := row_rel (PR.of hρ ps.toList) z3 z4 hb1 hc
          have hps : (ps.map fun (x : Nat × Operand) => (x.1, ρ x.2)).toList = ps.toList.map fun p => (p.1, ρ p.2) := by simp
          have hb2'' : len * esz ≤ 16777216 := hb2
          have hzc : zv.cells = ⟨z⟩ := by rw [← z2]
          have hza : ((Array.range (len * esz)).map fun i => (⟨z⟩ : Array Value)[i % (⟨z⟩ : Array Value).size]!) = ⟨rep z len⟩ := by
            rw [← hb1]; exact zeros_cells z len
          refine ⟨fun k => .slice (some ⟨k, 0, none⟩) len len, fun b => .slice (some ⟨b, 0, none⟩) len len, .cells cs .rw e, .cells ⟨vs ++ []⟩ e (0, 0), (vs ++ []).length, ?_, ?_, .cells (ys := vs) (zs := []) (k := .rw) (fr := (0, 0)) q2 q3 rfl (.inr rfl), fun m' k b hk => .slice 0 len len hk, by simp [isRo]⟩
          · intro s
            show oBuildSlice E s t len (mapP ev ps.toList) = _
            unfold oBuildSlice
            rw [hk]
            simp only
            rw [hz]
            simp only
            rw [hb1', hb2', hb3]
            simp only
            rw [hc]
          · intro w
            simp only [execOp, Instr.buildSlice, Sem.run_bind, run_underlying k1, Result.andThen_ok, run_size ⟨i, k2, k3⟩ w]
            rw [if_neg (by omega)]
            by_cases hl0 : len * esz = 0
            · have hl : len = 0 := by rcases Nat.mul_eq_zero.1 hl0 with h | h <;> omega
              subst hl
              rw [if_pos hl0]
              simp only [Sem.run_bind, Sem.run_pure, Result.andThen_ok, hps]
              rw [show ((Array.range (0 * esz)).map fun i => (#[] : Array Value)[i % (#[] : Array Value).size]!) = ⟨rep z 0⟩ by simp [rep_zero]]
              rw [show (fun i => some (i * esz, esz)) = (fun i => some (Nat.mul i esz, esz)) from rfl, q1]
              simp only [Sem.run_bind, newRow, run_newObj, Result.andThen_ok, Sem.run_pure, List.append_nil]
              rfl
            · rw [if_neg hl0]
              simp only [Sem.run_bind, z1, Sem.run_pure, Result.andThen_ok, hps, hzc, hza]
              rw [show (fun i => some (i * esz, esz)) = (fun i => some (Nat.mul i esz, esz)) from rfl, q1]
              simp only [Sem.run_bind, newRow, run_newObj, Result.andThen_ok, Sem.run_pure, List.append_nil]
              rfl
      · cases h
  · cases h
end
end Go.AM

namespace Go.AM
open Go
/-! ## keys below a number -/
mutual
inductive KB (n : Nat) : Value → Prop
  | bool (b : Bool) : KB n (.bool b)
  | int (k : IntKind) (i : Int) : KB n (.int k i)
  | string (s : ByteArray) : KB n (.string s)
  | ptrNil : KB n (.pointer none)
  | ptr {k : Nat} (o : Nat) : k < n → KB n (.pointer (some ⟨k, o, none⟩))
  | sliceNil (l c : Nat) : KB n (.slice none l c)
  | slice {k : Nat} (o l c : Nat) (sp : Option Nat) : k < n → KB n (.slice (some ⟨k, o, sp⟩) l c)
  | mapNil : KB n (.map none)
  | map {k : Nat} : k < n → KB n (.map (some k))
  | nilFunc : KB n .nilFunc
  | nilIface : KB n .nilIface
  | func {f : Fn} {a c : List Value} : (∀ l, f = .yield l → l < n) → KBs n a → KBs n c → KB n (.func f ⟨a⟩ ⟨c⟩)
  | iface (t : TypeId) {v : Value} : KB n v → KB n (.iface t v)
  | agg {xs : List Value} : KBs n xs → KB n (.agg ⟨xs⟩)
  | tuple {xs : List Value} : KBs n xs → KB n (.tuple ⟨xs⟩)
inductive KBs (n : Nat) : List Value → Prop
  | nil : KBs n []
  | cons {x : Value} {xs : List Value} : KB n x → KBs n xs → KBs n (x :: xs)
end
theorem lt_of_low {m : Mp} {n k : Nat} {p : Nat × Nat} (h : ∀ k, n ≤ k → m k = none) (hk : m k = some p) : k < n := by
  rcases Nat.lt_or_ge k n with h' | h'
  · exact h'
  · rw [h k h'] at hk; cases hk
mutual
theorem VR.kb {m : Mp} {n : Nat} (h : ∀ k, n ≤ k → m k = none) : ∀ {x y : Value}, VR m x y → KB n x
  | _, _, .bool b => .bool b
  | _, _, .int k n => .int k n
  | _, _, .string s => .string s
  | _, _, .ptrNil => .ptrNil
  | _, _, .ptr o hk => .ptr o (lt_of_low h hk)
  | _, _, .sliceNil l c => .sliceNil l c
  | _, _, .slice o l c hk => .slice o l c _ (lt_of_low h hk)
  | _, _, .soft o l c _ hk _ _ => .slice o l c _ (lt_of_low h hk)
  | _, _, .mapNil => .mapNil
  | _, _, .map hk => .map (lt_of_low h hk)
  | _, _, .nilFunc => .nilFunc
  | _, _, .nilIface => .nilIface
  | _, _, .func hf ha hc => .func (by rintro l rfl; cases hf with | yield hl => exact lt_of_low h hl) (VRs.kb h ha) (VRs.kb h hc)
  | _, _, .iface t hv => .iface t (VR.kb h hv)
  | _, _, .agg hs _ => .agg (VRs.kb h hs)
  | _, _, .tuple hs => .tuple (VRs.kb h hs)
theorem VRs.kb {m : Mp} {n : Nat} (h : ∀ k, n ≤ k → m k = none) : ∀ {x y : List Value}, VRs m x y → KBs n x
  | _, _, .nil => .nil
  | _, _, .cons a r => .cons (VR.kb h a) (VRs.kb h r)
end
/-- the keys below a number -/
def cutM (m : Mp) (n : Nat) : Mp := fun k => if k < n then m k else none
theorem cutM_low (m : Mp) (n : Nat) : ∀ k, n ≤ k → cutM m n k = none := by intro k hk; unfold cutM; rw [if_neg (by omega)]
theorem cutM_mono (m : Mp) (n : Nat) : ∀ k p, cutM m n k = some p → m k = some p := by
  intro k p h; unfold cutM at h; split at h
  · exact h
  · cases h
theorem cutM_of {m : Mp} {n k : Nat} (h : k < n) : cutM m n k = m k := by unfold cutM; rw [if_pos h]
mutual
theorem VR.cut {m : Mp} {n : Nat} : ∀ {x y : Value}, VR m x y → KB n x → VR (cutM m n) x y
  | _, _, .bool b, _ => .bool b
  | _, _, .int k n, _ => .int k n
  | _, _, .string s, _ => .string s
  | _, _, .ptrNil, _ => .ptrNil
  | _, _, .ptr o hk, .ptr _ hl => .ptr o (by rw [cutM_of hl]; exact hk)
  | _, _, .sliceNil l c, _ => .sliceNil l c
  | _, _, .slice o l c hk, .slice _ _ _ _ hl => .slice o l c (by rw [cutM_of hl]; exact hk)
  | _, _, .soft o l c e hk h1 h2, .slice _ _ _ _ hl => .soft o l c e (by rw [cutM_of hl]; exact hk) h1 h2
  | _, _, .mapNil, _ => .mapNil
  | _, _, .map hk, .map hl => .map (by rw [cutM_of hl]; exact hk)
  | _, _, .nilFunc, _ => .nilFunc
  | _, _, .nilIface, _ => .nilIface
  | _, _, .func hf ha hc, .func h1 h2 h3 => .func (by
      cases hf with
      | func f => exact .func f
      | methodOf t n => exact .methodOf t n
      | yield hl => exact .yield (by rw [cutM_of (h1 _ rfl)]; exact hl)) (VRs.cut ha h2) (VRs.cut hc h3)
  | _, _, .iface t hv, .iface _ h => .iface t (VR.cut hv h)
  | _, _, .agg hs hp, .agg h => .agg (VRs.cut hs h) hp
  | _, _, .tuple hs, .tuple h => .tuple (VRs.cut hs h)
theorem VRs.cut {m : Mp} {n : Nat} : ∀ {x y : List Value}, VRs m x y → KBs n x → VRs (cutM m n) x y
  | _, _, .nil, _ => .nil
  | _, _, .cons a r, .cons h1 h2 => .cons (VR.cut a h1) (VRs.cut r h2)
end
def KBo (n : Nat) (o : Ob) : Prop :=
  match o with
  | .cells xs _ _ => KBs n xs
  | .map es _ => ∀ e ∈ es, KB n e.key ∧ KB n e.val
  | .iter r _ _ _ => ∀ k, r = some k → k < n
  | .loop l => KBs n l.tmps ∧ l.defers < n
  | .defd _ => True
theorem MERs.kb {m : Mp} {n : Nat} (h : ∀ k, n ≤ k → m k = none) : ∀ {es : List ME} {es' : List MapEntry}, MERs m es es' → ∀ e ∈ es, KB n e.key ∧ KB n e.val
  | _, _, .nil => by simp
  | _, _, .cons a r => by
    intro e he
    rcases List.mem_cons.1 he with rfl | he
    · exact ⟨a.key.kb h, a.val.kb h⟩
    · exact MERs.kb h r e he
theorem MERs.cut {m : Mp} {n : Nat} : ∀ {es : List ME} {es' : List MapEntry}, MERs m es es' → (∀ e ∈ es, KB n e.key ∧ KB n e.val) → MERs (cutM m n) es es'
  | _, _, .nil, _ => .nil
  | _, _, .cons a r, h => .cons ⟨a.key.cut (h _ (by simp)).1, a.val.cut (h _ (by simp)).2, a.born⟩ (MERs.cut r (fun e he => h e (by simp [he])))
theorem OR.kb {m : Mp} {n c : Nat} (h : ∀ k, n ≤ k → m k = none) {o : Ob} {o' : Obj} (r : OR m o o' c) : KBo n o := by
  cases r with
  | cells a _ _ _ => exact a.kb h
  | map _ _ a => exact a.kb h
  | iter _ _ _ _ r =>
    intro k hk
    cases r with
    | no => cases hk
    | yes hm => injection hk with hk; subst hk; exact lt_of_low h hm
  | loop _ l => obtain ⟨q, hq⟩ := l.defers; exact ⟨l.tmps.kb h, lt_of_low h hq⟩
  | defd _ _ => trivial
theorem OR.cut {m : Mp} {n c : Nat} {o : Ob} {o' : Obj} (r : OR m o o' c) (h : KBo n o) : OR (cutM m n) o o' c := by
  cases r with
  | cells a b d e => exact .cells (a.cut h) b d e
  | map _ _ a => exact .map _ _ (a.cut h)
  | iter _ _ _ _ r =>
    refine .iter _ _ _ _ ?_
    cases r with
    | no => exact .no
    | yes hm => exact .yes (by rw [cutM_of (h _ rfl)]; exact hm)
  | loop _ l =>
    obtain ⟨q, hq⟩ := l.defers
    exact .loop _ ⟨l.tmps.cut h.1, l.params, l.assign, l.body, l.state, l.pending, q, by rw [cutM_of h.2]; exact hq⟩
  | defd _ _ => exact .defd _ _
/-- a new block, at a given key -/
theorem Rel.newAt {m : Mp} {s : St} {w : World} (r : Rel m s w) {k : Nat} (hk : m k = none) (hlt : k < s.next) {o : Ob} {o' : Obj} {n : Nat} (h : OR (setM m k w.heap.size n) o o' n) :
    Rel (setM m k w.heap.size n) (s.put k (some o)) (pushW w o') := by
  have hmono := setM_mono (b := w.heap.size) (n := n) hk
  have hget : ∀ j, T.get (s.put k (some o)).heap j = if j = k then some o else T.get s.heap j := fun j => T.get_set _ _ _ _
  have hold : ∀ b, b < w.heap.size → (w.heap.push o')[b]? = w.heap[b]? := by
    intro b hb; rw [Array.getElem?_push, if_neg (by omega)]
  refine ⟨?_, ?_, ?_, ?_⟩
  · intro j ob hj
    rw [hget] at hj
    by_cases he : j = k
    · rw [if_pos he] at hj; injection hj with hj; subst hj; subst he
      refine ⟨w.heap.size, n, o', by simp [setM], ?_, h⟩
      show (w.heap.push o')[w.heap.size]? = _
      simp
    · rw [if_neg he] at hj
      obtain ⟨b, nn, o1, h1, h2, h3⟩ := r.ob j ob hj
      refine ⟨b, nn, o1, hmono _ _ h1, ?_, h3.mono hmono⟩
      show (w.heap.push o')[b]? = _
      rw [hold b (r.rng j b nn h1)]; exact h2
  · intro i j a b q n1 n2 hi hj hmi hmj
    rw [hget] at hi hj
    unfold setM at hmi hmj
    by_cases he : i = k <;> by_cases he' : j = k
    · rw [he, he']
    · rw [if_pos he] at hmi; rw [if_neg he'] at hmj; injection hmi with hmi; injection hmi with h1 h2; subst h1
      exact absurd (r.rng _ _ _ hmj) (by omega)
    · rw [if_neg he] at hmi; rw [if_pos he'] at hmj; injection hmj with hmj; injection hmj with h1 h2; subst h1
      exact absurd (r.rng _ _ _ hmi) (by omega)
    · rw [if_neg he] at hi hmi; rw [if_neg he'] at hj hmj
      exact r.inj i j a b q n1 n2 hi hj hmi hmj
  · intro j hj
    have : s.next ≤ j := hj
    unfold setM; rw [if_neg (by omega)]; exact r.low j this
  · intro j b nn hj
    show b < (w.heap.push o').size
    rw [Array.size_push]
    unfold setM at hj
    by_cases he : j = k
    · rw [if_pos he] at hj; injection hj with hj; injection hj with h1 h2; omega
    · rw [if_neg he] at hj; have := r.rng j b nn hj; omega
/-- a part of a state -/
theorem Rel.part {m : Mp} {s : St} {w : World} (r : Rel m s w) {s1 : St} (h : ∀ k o, T.get s1.heap k = some o → T.get s.heap k = some o ∧ k < s1.next ∧ KBo s1.next o) : Rel (cutM m s1.next) s1 w := by
  refine ⟨?_, ?_, cutM_low m s1.next, ?_⟩
  · intro k o hk
    obtain ⟨h1, h2, h3⟩ := h k o hk
    obtain ⟨b, n, o', g1, g2, g3⟩ := r.ob k o h1
    exact ⟨b, n, o', by rw [cutM_of h2]; exact g1, g2, g3.cut h3⟩
  · intro i j a b q n1 n2 hi hj hmi hmj
    exact r.inj i j a b q n1 n2 (h i a hi).1 (h j b hj).1 (cutM_mono _ _ _ _ hmi) (cutM_mono _ _ _ _ hmj)
  · intro k b n hk
    exact r.rng k b n (cutM_mono _ _ _ _ hk)
end Go.AM

namespace Go.AM
open Go
/-- what is asked of AM's own order -/
theorem okOrder_cons {an : List Nat} {cl : List Cl} {i : Nat} {r done : List Nat} (h : okOrder an cl (i :: r) done = true) :
    i ∉ done ∧ (∀ j ∈ r, bit (nthN an i) j = false ∧ bit (nthN an j) i = bit (nthN an j) i) ∧ okOrder an cl r (i :: done) = true ∧
      (isAct (nthC cl i) = true → ∀ j ∈ done, (isAct (nthC cl j) = true ∨ isMake (nthC cl j) = true) → bit (nthN an i) j = true) := by
  simp only [okOrder, Bool.and_eq_true, Bool.not_eq_true', List.all_eq_true, Bool.or_eq_true] at h
  obtain ⟨⟨⟨⟨h1, h2⟩, h3⟩, h4⟩, h5⟩ := h
  refine ⟨by simpa using h1, fun j hj => ⟨by simpa using h2 j hj, rfl⟩, h5, ?_⟩
  intro ha j hj hc
  rcases h4 with h4 | h4
  · rw [ha] at h4; cases h4
  · rcases h4 j hj with h6 | h6
    · obtain ⟨h7, h8⟩ := h6
      rcases hc with hc | hc
      · rw [hc] at h7; cases h7
      · rw [hc] at h8; cases h8
    · exact h6
theorem bit_testBit (m i : Nat) : bit m i = m.testBit i := by
  unfold bit
  rw [Nat.testBit_eq_decide_div_mod_eq]
  show Nat.beq (m / 2 ^ i % 2) 1 = _
  rw [Bool.eq_iff_iff, Nat.beq_eq, decide_eq_true_iff]
theorem nthN_eq (l : List Nat) : ∀ n, nthN l n = l.getD n 0 := by
  induction l with
  | nil => intro n; rfl
  | cons x l ih => intro n; cases n with
    | zero => rfl
    | succ n => exact ih n
theorem ancOf_bit {acc : List Nat} {i : Nat} : ∀ {l : List Edge}, bit (ancOf acc l) i = true → ∃ e ∈ l, bindE e = true ∧ (i = e.on ∨ bit (nthN acc e.on) i = true)
  | [], h => by simp [ancOf, bit_testBit] at h
  | e :: l, h => by
    have h' : bit (match bindE e with | true => Nat.lor (ancOf acc l) (Nat.lor (Nat.pow 2 e.on) (nthN acc e.on)) | false => ancOf acc l) i = true := h
    cases hb : bindE e with
    | false =>
      rw [hb] at h'
      obtain ⟨e', h1, h2, h3⟩ := ancOf_bit h'
      exact ⟨e', by simp [h1], h2, h3⟩
    | true =>
      rw [hb, bit_testBit] at h'
      have h2 : ((ancOf acc l) ||| ((2 ^ e.on) ||| (nthN acc e.on))).testBit i = true := h'
      rw [Nat.testBit_or, Nat.testBit_or, Bool.or_eq_true, Bool.or_eq_true] at h2
      rcases h2 with h2 | h2 | h2
      · rw [← bit_testBit] at h2
        obtain ⟨e', h1, h3, h4⟩ := ancOf_bit h2
        exact ⟨e', by simp [h1], h3, h4⟩
      · rw [Nat.testBit_two_pow] at h2
        exact ⟨e, by simp, hb, .inl (by have := of_decide_eq_true h2; exact this.symm)⟩
      · exact ⟨e, by simp, hb, .inr (by rw [bit_testBit]; exact h2)⟩
theorem ancs_cons (o : Oper) (ops : List Oper) (acc : List Nat) : ancs (o :: ops) acc = ancs ops (acc ++ [ancOf acc o.after.toList]) := rfl
theorem ancs_get : ∀ (ops : List Oper) (acc : List Nat), ∃ t, ancs ops acc = acc ++ t ∧ t.length = ops.length
  | [], acc => ⟨[], by simp [ancs], rfl⟩
  | o :: ops, acc => by
    obtain ⟨t, h1, h2⟩ := ancs_get ops (acc ++ [ancOf acc o.after.toList])
    exact ⟨ancOf acc o.after.toList :: t, by rw [ancs_cons, h1]; simp, by simp [h2]⟩
end Go.AM

namespace Go.AM
open Go
/-! ## what is alike is the same -/
theorem ba_eq {a b : ByteArray} (h : bytesEq a.data.toList b.data.toList = true) : a = b := by
  rw [bytesEq_eq] at h
  have h1 : a.data.toList = b.data.toList := by simpa using h
  have h2 : a.data = b.data := Array.toList_inj.1 h1
  cases a; cases b; simp_all
theorem simpl_eq {x y : Value} (h : simpl x y = true) : x = y := by
  unfold simpl at h
  split at h
  · split at h <;> first | rfl | cases h
  · split at h
    · rename_i hk; rw [kEq_eq hk]; rw [ieq_eq] at h; simp at h; rw [h]
    · cases h
  · rw [ba_eq h]
  · rfl
  · split at h
    · rename_i hk; rw [Nat.beq_eq] at hk; rw [Nat.beq_eq] at h; rw [hk, h]
    · cases h
  · split at h
    · rename_i hk; rw [Nat.beq_eq] at hk; rw [Nat.beq_eq] at h; rw [hk, h]
    · cases h
  · split at h
    · rename_i h1 h2 h3 h4
      rw [Nat.beq_eq] at h1 h2 h3 h4
      split at h
      · rw [h1, h2, h3, h4]
      · rw [Nat.beq_eq] at h; rw [h1, h2, h3, h4, h]
      · cases h
    · cases h
  · rfl
  · rw [Nat.beq_eq] at h; rw [h]
  · rfl
  · rfl
  · rw [Nat.beq_eq] at h; rw [h]
  · cases h
theorem alike_eq {x y : Value} (h : alike x y = true) : x = y := by
  unfold alike at h
  split at h
  · split at h
    · rename_i hk; rw [Nat.beq_eq] at hk; rw [hk, simpl_eq h]
    · cases h
  · split at h
    · rename_i hk; rw [Nat.beq_eq] at hk; rw [hk, simpl_eq h]
    · cases h
  · exact simpl_eq h
theorem alikeL_eq : ∀ {x y : List Value}, alikeL x y = true → x = y
  | [], [], _ => rfl
  | [], _ :: _, h => by cases h
  | _ :: _, [], h => by cases h
  | a :: x, b :: y, h => by
    have h' : (match alike a b with | true => alikeL x y | false => false) = true := h
    obtain ⟨h1, h2⟩ := and_match h'
    rw [alike_eq h1, alikeL_eq h2]
theorem alikeE_eq : ∀ {x y : List ME}, alikeE x y = true → x = y
  | [], [], _ => rfl
  | [], _ :: _, h => by cases h
  | _ :: _, [], h => by cases h
  | a :: x, b :: y, h => by
    have h' : (match alike a.key b.key, alike a.val b.val, Nat.beq a.born b.born with | true, true, true => alikeE x y | _, _, _ => false) = true := h
    split at h'
    · rename_i h1 h2 h3
      rw [Nat.beq_eq] at h3
      have e1 := alike_eq h1; have e2 := alike_eq h2
      rw [alikeE_eq h']
      cases a; cases b; simp_all
    · cases h'
/-- the cells are the same before an act and behind it -/
theorem sameCells_ok {nx : Nat} {h h' : T Ob} {b off n : Nat} (hs : sameCells nx h h' b off n = true) (hb : b < nx) : loadR ⟨h', 0⟩ b off n = loadR ⟨h, 0⟩ b off n := by
  unfold sameCells at hs
  split at hs
  · rw [Nat.ble_eq] at hs; omega
  · split at hs
    · rename_i h1 h2
      rw [h1, h2, alikeL_eq hs]
    · cases hs
theorem sameEnts_ok {nx : Nat} {h h' : T Ob} {r : Nat} (hs : sameEnts nx h h' r = true) (hb : r < nx) : T.get h' r = T.get h r := by
  unfold sameEnts at hs
  cases hg : T.get h r with
  | none => rw [hg] at hs; simp only [Nat.ble_eq] at hs; omega
  | some o =>
    rw [hg] at hs
    cases o with
    | map es c =>
      simp only at hs
      cases hg' : T.get h' r with
      | none => rw [hg'] at hs; cases hs
      | some o' =>
        rw [hg'] at hs
        cases o' with
        | map es' c' =>
          simp only at hs
          cases hc : Nat.beq c c' with
          | false => rw [hc] at hs; cases hs
          | true =>
            rw [hc] at hs
            rw [Nat.beq_eq] at hc
            rw [hc, alikeE_eq hs]
        | _ => cases hs
    | _ => cases hs
theorem okOne_mem {an : List Nat} {x : Lg} : ∀ {l : List Lg}, okOne an x l = true → ∀ y ∈ l, okPair an x y = true
  | [], _, y, hy => by simp at hy
  | z :: l, h, y, hy => by
    have h' : (match okPair an x z with | true => okOne an x l | false => false) = true := h
    obtain ⟨h1, h2⟩ := and_match h'
    rcases List.mem_cons.1 hy with rfl | hy
    · exact h1
    · exact okOne_mem h2 y hy
theorem okLog_mem {an : List Nat} {m : List Lg} : ∀ {l : List Lg}, okLog an l m = true → ∀ x ∈ l, ∀ y ∈ m, okPair an x y = true
  | [], _, x, hx => by simp at hx
  | z :: l, h, x, hx => by
    have h' : (match okOne an z m with | true => okLog an l m | false => false) = true := h
    obtain ⟨h1, h2⟩ := and_match h'
    rcases List.mem_cons.1 hx with rfl | hx
    · exact okOne_mem h1
    · exact okLog_mem h2 x hx
theorem okLeft_mem {an : List Nat} {i : Nat} : ∀ {l : List Nat}, okLeft an i l = true → ∀ j ∈ l, bit (nthN an j) i = true
  | [], _, j, hj => by simp at hj
  | z :: l, h, j, hj => by
    have h' : (match bit (nthN an z) i with | false => false | true => okLeft an i l) = true := h
    split at h'
    · cases h'
    · rename_i h1
      rcases List.mem_cons.1 hj with rfl | hj
      · exact h1
      · exact okLeft_mem h' j hj
theorem apartB_of {an : List Nat} {i j : Nat} (h1 : bit (nthN an i) j = false) (h2 : bit (nthN an j) i = false) : apartB an i j = true := by
  unfold apartB; rw [h1, h2]

/-! ## ancestors -/
def AncOK (ops : List Oper) : Prop := ∀ j o, ops[j]? = some o → ∀ e ∈ o.after.toList, bindE e = true → e.on < j
theorem ancs_prefix (ops : List Oper) (acc : List Nat) : ∀ i, i < acc.length → nthN (ancs ops acc) i = nthN acc i := by
  obtain ⟨t, h1, _⟩ := ancs_get ops acc
  intro i hi
  rw [h1, nthN_eq, nthN_eq, List.getD_eq_getElem?_getD, List.getD_eq_getElem?_getD, List.getElem?_append_left hi]
theorem ancs_at : ∀ (ops : List Oper) (acc : List Nat) (j : Nat) (o : Oper), ops[j]? = some o →
    nthN (ancs ops acc) (acc.length + j) = ancOf ((ancs ops acc).take (acc.length + j)) o.after.toList
  | [], _, _, _, h => by simp at h
  | p :: ops, acc, 0, o, h => by
    simp at h; subst h
    rw [ancs_cons]
    obtain ⟨t, h1, _⟩ := ancs_get ops (acc ++ [ancOf acc p.after.toList])
    rw [h1, nthN_eq]
    simp
  | p :: ops, acc, j + 1, o, h => by
    rw [ancs_cons]
    have := ancs_at ops (acc ++ [ancOf acc p.after.toList]) j o (by simpa using h)
    have e : (acc ++ [ancOf acc p.after.toList]).length + j = acc.length + (j + 1) := by simp; omega
    rw [e] at this
    exact this
theorem nthN_take {l : List Nat} {n i : Nat} (h : i < n) : nthN (l.take n) i = nthN l i := by
  rw [nthN_eq, nthN_eq, List.getD_eq_getElem?_getD, List.getD_eq_getElem?_getD, List.getElem?_take_of_lt h]
theorem ancs_len (ops : List Oper) : (ancs ops []).length = ops.length := by
  obtain ⟨t, h1, h2⟩ := ancs_get ops []
  rw [h1]; simpa using h2
theorem anc_lt {ops : List Oper} {i j : Nat} (h : bit (nthN (ancs ops []) i) j = true) : i < ops.length := by
  rcases Nat.lt_or_ge i ops.length with h' | h'
  · exact h'
  · rw [nthN_eq, List.getD_eq_getElem?_getD, List.getElem?_eq_none (by rw [ancs_len]; exact h')] at h
    simp [bit_testBit] at h
theorem anc_edge {ops : List Oper} (ha : AncOK ops) {i j : Nat} (h : bit (nthN (ancs ops []) i) j = true) :
    ∃ o, ops[i]? = some o ∧ ∃ e ∈ o.after.toList, bindE e = true ∧ e.on < i ∧ (j = e.on ∨ bit (nthN (ancs ops []) e.on) j = true) := by
  have hi := anc_lt h
  have ho : ops[i]? = some ops[i] := List.getElem?_eq_getElem hi
  have h1 := ancs_at ops [] i _ ho
  simp only [List.length_nil, Nat.zero_add] at h1
  rw [h1] at h
  obtain ⟨e, h2, h3, h4⟩ := ancOf_bit h
  have hlt := ha i _ ho e h2 h3
  exact ⟨_, ho, e, h2, h3, hlt, by rw [nthN_take hlt] at h4; exact h4⟩
theorem ancOf_has {acc : List Nat} : ∀ {l : List Edge} {e : Edge}, e ∈ l → bindE e = true → bit (ancOf acc l) e.on = true
  | [], e, h, _ => by simp at h
  | x :: l, e, h, hb => by
    have h' : ancOf acc (x :: l) = (match bindE x with | true => Nat.lor (ancOf acc l) (Nat.lor (Nat.pow 2 x.on) (nthN acc x.on)) | false => ancOf acc l) := rfl
    rw [h']
    cases hx : bindE x with
    | false =>
      rcases List.mem_cons.1 h with rfl | h
      · rw [hb] at hx; cases hx
      · exact ancOf_has h hb
    | true =>
      show bit ((ancOf acc l) ||| ((2 ^ x.on) ||| (nthN acc x.on))) e.on = true
      rw [bit_testBit, Nat.testBit_or, Nat.testBit_or, Bool.or_eq_true, Bool.or_eq_true]
      rcases List.mem_cons.1 h with rfl | h
      · right; left; rw [Nat.testBit_two_pow]; simp
      · left; rw [← bit_testBit]; exact ancOf_has h hb
theorem anc_of_edge {ops : List Oper} {i : Nat} {o : Oper} (ho : ops[i]? = some o) {e : Edge} (he : e ∈ o.after.toList) (hb : bindE e = true) : bit (nthN (ancs ops []) i) e.on = true := by
  have h1 := ancs_at ops [] i o ho
  simp only [List.length_nil, Nat.zero_add] at h1
  rw [h1]; exact ancOf_has he hb
/-- whoever stands ahead comes first -/
theorem sched_anc {ops : List Oper} (ha : AncOK ops) {L : List Nat} (hs : Sched ⟨ops⟩ L) : ∀ (i : Nat) {pre suf : List Nat} {j : Nat}, L = pre ++ i :: suf → bit (nthN (ancs ops []) i) j = true → j ∈ pre := by
  intro i
  induction i using Nat.strongRecOn with
  | ind i ih =>
    intro pre suf j hL h
    obtain ⟨o, ho, e, he, hb, hlt, h2⟩ := anc_edge ha h
    have hon := hs.edge pre i suf hL o (by simpa using ho) e he hb
    rcases h2 with rfl | h2
    · exact hon
    · obtain ⟨p1, p2, hp⟩ := List.append_of_mem hon
      have := ih e.on hlt (pre := p1) (suf := p2 ++ i :: suf) (by rw [hL, hp]; simp) h2
      rw [hp]; simp [this]
end Go.AM

namespace Go.AM
open Go
/-! ## one way through a region, step by step -/
structure Stp where
  i : Nat
  tm : List Value
  s : St
  v : Value
  s' : St
inductive ActR (E : Env) (r : K) (op : Op) (tm : List Value) (s : St) : Value → St → Prop
  | v {v : Value} {s' : St} : opr op E s (evl tm) = some (.v v, s') → ActR E r op tm s v s'
  | enter {f : FuncId} {args : List Value} {s1 s' : St} {v : Value} {rc : Option Value} : opr op E s (evl tm) = some (.enter f args, s1) → r (.call f args none) s1 = some (.out (.ret v) rc, s') → ActR E r op tm s v s'
  | round {l : Nat} {args : List Value} {s1 s' : St} {v : Value} {rc : Option Value} : opr op E s (evl tm) = some (.round l args, s1) → r (.round l args) s1 = some (.out (.ret v) rc, s') → ActR E r op tm s v s'
inductive ActP (E : Env) (r : K) (op : Op) (tm : List Value) (s : St) : Value → St → Prop
  | enter {f : FuncId} {args : List Value} {s1 s' : St} {v : Value} {rc : Option Value} : opr op E s (evl tm) = some (.enter f args, s1) → r (.call f args none) s1 = some (.out (.panic v) rc, s') → ActP E r op tm s v s'
  | round {l : Nat} {args : List Value} {s1 s' : St} {v : Value} {rc : Option Value} : opr op E s (evl tm) = some (.round l args, s1) → r (.round l args) s1 = some (.out (.panic v) rc, s') → ActP E r op tm s v s'
inductive StepR (D : Dw) (r : K) (o : Oper) : Stp → List Lg → List Lg → Prop
  | skip {i : Nat} {tm : List Value} {s : St} {lg : List Lg} : wantedO D.ops tm o.guard = false → StepR D r o ⟨i, tm, s, undef, s⟩ lg lg
  | calm {i : Nat} {tm : List Value} {s : St} {v : Value} {s' : St} {lg lg1 : List Lg} : wantedO D.ops tm o.guard = true → isAct (nthC D.cl i) = false → opr o.op D.E s (evl tm) = some (.v v, s') →
      logR o.op i (evl tm) D.E lg = some lg1 → StepR D r o ⟨i, tm, s, v, s'⟩ lg lg1
  | act {i : Nat} {tm : List Value} {s : St} {v : Value} {s' : St} {lg lg0 : List Lg} : wantedO D.ops tm o.guard = true → isAct (nthC D.cl i) = true → ActR D.E r o.op tm s v s' → (∀ x ∈ lg, x ∈ lg0) →
      StepR D r o ⟨i, tm, s, v, s'⟩ lg (.act i s.next s.heap s'.heap :: lg0)
inductive Tr (D : Dw) (r : K) : List Stp → List Nat → List Value → St → List Lg → List Value → St → List Lg → Prop
  | nil {tm : List Value} {s : St} {lg : List Lg} : Tr D r [] [] tm s lg tm s lg
  | cons {q : Stp} {o : Oper} {qs : List Stp} {is : List Nat} {tm tm2 : List Value} {s s2 : St} {lg lg1 lg2 : List Lg} : D.ops[q.i]? = some o → q.tm = tm → q.s = s → StepR D r o q lg lg1 → Tr D r qs is (setT tm o.dst q.v) q.s' lg1 tm2 s2 lg2 →
      Tr D r (q :: qs) (q.i :: is) tm s lg tm2 s2 lg2
theorem logR_mem {op : Op} {i : Nat} {ev : Operand → Value} {E : Env} {lg lg1 : List Lg} (h : logR op i ev E lg = some lg1) : ∀ x ∈ lg, x ∈ lg1 := by
  unfold logR at h
  split at h
  · split at h
    · split at h
      · injection h with h; subst h; intro x hx; simp [hx]
      · cases h
    · cases h
  · split at h
    · injection h with h; subst h; intro x hx; exact hx
    · injection h with h; subst h; intro x hx; simp [hx]
    · cases h
  · injection h with h; subst h; intro x hx; exact hx
theorem StepR.parts {D : Dw} {r : K} {o : Oper} {q : Stp} {lg lg1 : List Lg} (h : StepR D r o q lg lg1) :
    (wantedO D.ops q.tm o.guard = false ∧ q.v = undef ∧ q.s' = q.s) ∨
    (wantedO D.ops q.tm o.guard = true ∧ isAct (nthC D.cl q.i) = false ∧ opr o.op D.E q.s (evl q.tm) = some (.v q.v, q.s') ∧ logR o.op q.i (evl q.tm) D.E lg = some lg1) ∨
    (wantedO D.ops q.tm o.guard = true ∧ isAct (nthC D.cl q.i) = true ∧ ActR D.E r o.op q.tm q.s q.v q.s') := by
  cases h with
  | skip h => exact .inl ⟨h, rfl, rfl⟩
  | calm h1 h2 h3 h4 => exact .inr (.inl ⟨h1, h2, h3, h4⟩)
  | act h1 h2 h3 _ => exact .inr (.inr ⟨h1, h2, h3⟩)
theorem StepR.mem {D : Dw} {r : K} {o : Oper} {q : Stp} {lg lg1 : List Lg} (h : StepR D r o q lg lg1) : ∀ x ∈ lg, x ∈ lg1 := by
  cases h with
  | skip _ => intro x hx; exact hx
  | calm _ _ _ h => exact logR_mem h
  | act _ _ _ h => intro x hx; simp [h x hx]
theorem Tr.mem {D : Dw} {r : K} {qs : List Stp} {is : List Nat} {tm tm2 : List Value} {s s2 : St} {lg lg2 : List Lg} (h : Tr D r qs is tm s lg tm2 s2 lg2) : ∀ x ∈ lg, x ∈ lg2 := by
  induction h with
  | nil => intro x hx; exact hx
  | cons _ _ _ h1 _ ih => intro x hx; exact ih x (h1.mem x hx)
theorem Tr.is {D : Dw} {r : K} {qs : List Stp} {is : List Nat} {tm tm2 : List Value} {s s2 : St} {lg lg2 : List Lg} (h : Tr D r qs is tm s lg tm2 s2 lg2) : is = qs.map (·.i) := by
  induction h with
  | nil => rfl
  | cons _ _ _ _ _ ih => simp [ih]
theorem Tr.app {D : Dw} {r : K} : ∀ {A B : List Stp} {is : List Nat} {tm tm2 : List Value} {s s2 : St} {lg lg2 : List Lg}, Tr D r (A ++ B) is tm s lg tm2 s2 lg2 →
    ∃ tm1 s1 lg1, Tr D r A (A.map (·.i)) tm s lg tm1 s1 lg1 ∧ Tr D r B (B.map (·.i)) tm1 s1 lg1 tm2 s2 lg2
  | [], B, is, tm, tm2, s, s2, lg, lg2, h => ⟨tm, s, lg, .nil, by have e := h.is; rw [List.nil_append] at e h; rw [← e]; exact h⟩
  | q :: A, B, is, tm, tm2, s, s2, lg, lg2, h => by
    cases h with
    | cons h1 h2 h3 h4 h5 =>
      obtain ⟨tm1, s1, lg1, g1, g2⟩ := Tr.app h5
      exact ⟨tm1, s1, lg1, .cons h1 h2 h3 h4 g1, g2⟩
theorem Tr.join {D : Dw} {r : K} {A B : List Stp} {is js : List Nat} {tm tm1 tm2 : List Value} {s s1 s2 : St} {lg lg1 lg2 : List Lg} (h : Tr D r A is tm s lg tm1 s1 lg1) (g : Tr D r B js tm1 s1 lg1 tm2 s2 lg2) : Tr D r (A ++ B) (is ++ js) tm s lg tm2 s2 lg2 := by
  induction h with
  | nil => exact g
  | cons h1 h2 h3 h4 _ ih => exact .cons h1 h2 h3 h4 (ih g)
/-- the way that AM goes -/
theorem dOps_tr {D : Dw} {r : K} {e : Ex} {a' : Ac} {s' : St} : ∀ {σ : List Nat} {tm : List Value} {s : St} {lg : List Lg} {left : List Nat}, dOps D r σ tm s lg left = some (.ex e a', s') →
    (∃ qs tm2 lg2, Tr D r qs σ tm s lg tm2 s' lg2 ∧ okLog D.an lg2 lg2 = true ∧ e = .normal ∧ a' = ⟨tm2, D.df, D.rc, D.rd⟩) ∨
    (∃ qs σ1 i σ2 o tm2 s2 lg2 v, σ = σ1 ++ i :: σ2 ∧ Tr D r qs σ1 tm s lg tm2 s2 lg2 ∧ D.ops[i]? = some o ∧ wantedO D.ops tm2 o.guard = true ∧ isAct (nthC D.cl i) = true ∧ ActP D.E r o.op tm2 s2 v s' ∧ D.df = [] ∧
      okLog D.an lg2 lg2 = true ∧ okLeft D.an i σ2 = true ∧ e = .panic v ∧ a' = ⟨[], [], D.rc, D.rd⟩)
  | [], tm, s, lg, left, h => by
    have h' : (match okLog D.an lg lg with | true => some (Res.ex .normal ⟨tm, D.df, D.rc, D.rd⟩, s) | false => none) = some (.ex e a', s') := h
    split at h'
    · rename_i hl
      injection h' with h'; injection h' with h1 h2; injection h1 with h1 h3
      subst h1; subst h2; subst h3
      exact .inl ⟨[], tm, lg, .nil, hl, rfl, rfl⟩
    · cases h'
  | i :: σ, tm, s, lg, left, h => by
    have h0 : dO D r (nthOp D.ops i) i (fun tm s lg _ => dOps D r σ tm s lg σ) tm s lg σ = some (.ex e a', s') := h
    have go : ∀ {o : Oper} {v : Value} {s1 : St} {lg1 : List Lg}, D.ops[i]? = some o → StepR D r o ⟨i, tm, s, v, s1⟩ lg lg1 → dOps D r σ (setT tm o.dst v) s1 lg1 σ = some (.ex e a', s') →
        (∃ qs tm2 lg2, Tr D r qs (i :: σ) tm s lg tm2 s' lg2 ∧ okLog D.an lg2 lg2 = true ∧ e = .normal ∧ a' = ⟨tm2, D.df, D.rc, D.rd⟩) ∨
        (∃ qs σ1 j σ2 o tm2 s2 lg2 v, i :: σ = σ1 ++ j :: σ2 ∧ Tr D r qs σ1 tm s lg tm2 s2 lg2 ∧ D.ops[j]? = some o ∧ wantedO D.ops tm2 o.guard = true ∧ isAct (nthC D.cl j) = true ∧ ActP D.E r o.op tm2 s2 v s' ∧ D.df = [] ∧
          okLog D.an lg2 lg2 = true ∧ okLeft D.an j σ2 = true ∧ e = .panic v ∧ a' = ⟨[], [], D.rc, D.rd⟩) := by
      intro o v s1 lg1 ho hst hd
      rcases dOps_tr hd with ⟨qs, tm2, lg2, h1, h2, h3, h4⟩ | ⟨qs, σ1, j, σ2, o2, tm2, s2, lg2, v2, h1, h2, h3⟩
      · exact .inl ⟨⟨i, tm, s, v, s1⟩ :: qs, tm2, lg2, .cons ho rfl rfl hst h1, h2, h3, h4⟩
      · exact .inr ⟨⟨i, tm, s, v, s1⟩ :: qs, i :: σ1, j, σ2, o2, tm2, s2, lg2, v2, by rw [h1]; rfl, .cons ho rfl rfl hst h2, h3⟩
    rw [nthOp_eq] at h0
    cases ho : D.ops[i]? with
    | none => rw [ho] at h0; cases h0
    | some o =>
      obtain ⟨dst, op, ty, pos, af, g⟩ := o
      rw [ho] at h0
      simp only [dO] at h0
      unfold dW at h0
      split at h0
      · rename_i hw
        unfold dR at h0
        split at h0
        · cases h0
        · rename_i n s1 hop
          have pan : ∀ {v : Value}, isAct (nthC D.cl i) = true → ActP D.E r op tm s v s1 → True := fun _ _ => trivial
          split at h0
          · rename_i v
            unfold dV at h0
            split at h0
            · cases h0
            · rename_i lg1 hlg
              split at h0
              · rename_i hc
                exact go ho (.act hw (by rw [hc]; rfl) (.v hop) (logR_mem hlg)) h0
              · rename_i hc
                refine go ho (.calm hw ?_ hop hlg) h0
                cases hcl : nthC D.cl i <;> first | rfl | exact absurd hcl (by simpa using hc)
          · rename_i f args
            split at h0
            · rename_i hc
              unfold dOut at h0
              split at h0
              · rename_i ou rc s2 hr
                split at h0
                · exact go ho (.act hw (by rw [hc]; rfl) (.enter hop hr) (fun x hx => hx)) h0
                · rename_i v
                  unfold dPanic at h0
                  split at h0
                  · rename_i hdf
                    split at h0
                    · rename_i hl1 hl2
                      injection h0 with h0; injection h0 with h1 h2; injection h1 with h1 h3
                      subst h1; subst h2; subst h3
                      exact .inr ⟨[], [], i, σ, _, tm, s, lg, v, rfl, .nil, ho, hw, by rw [hc]; rfl, .enter hop hr, hdf, hl1, hl2, rfl, rfl⟩
                    · cases h0
                  · cases h0
              · cases h0
            · cases h0
          · rename_i l args
            split at h0
            · rename_i hc
              unfold dOut at h0
              split at h0
              · rename_i ou rc s2 hr
                split at h0
                · exact go ho (.act hw (by rw [hc]; rfl) (.round hop hr) (fun x hx => hx)) h0
                · rename_i v
                  unfold dPanic at h0
                  split at h0
                  · rename_i hdf
                    split at h0
                    · rename_i hl1 hl2
                      injection h0 with h0; injection h0 with h1 h2; injection h1 with h1 h3
                      subst h1; subst h2; subst h3
                      exact .inr ⟨[], [], i, σ, _, tm, s, lg, v, rfl, .nil, ho, hw, by rw [hc]; rfl, .round hop hr, hdf, hl1, hl2, rfl, rfl⟩
                    · cases h0
                  · cases h0
              · cases h0
            · cases h0
          · cases h0
      · rename_i hw
        exact go ho (.skip hw) h0
end Go.AM

namespace Go.AM
open Go
section
variable {P : Program} {E : Env} {r : K}
/-- an act that returns: what the model does -/
theorem act_step (hE : EnvOK P E) (ok : Ok P E r) {ops : Array Oper} {i : Nat} {rest : List Nat} {K : List Item} {o : Oper} {fr : Frame} {cs : List Frame} {w : World} {m : Mp} {s : St} {tm : List Value} {v : Value} {s' : St}
    (ho : ops[i]? = some o) (htodo : fr.todo = .inRegion ops (i :: rest) :: K) (hw : Region.wanted o (yielded ops fr.tmps) = true) (hmode : fr.mode = .run)
    (rel : Rel m s w) (gr : GR E m) (hx : ∀ x ∈ o.op.operands, VR m (evl tm x) (fr.eval x)) (h : ActR E r o.op tm s v s') :
    ∃ m' w' v', Steps P (lone fr cs w) (lone (fr.finish v') cs w') ∧ Rel m' s' w' ∧ Ext m s w m' s' w' ∧ VR m' v v' := by
  cases h with
  | v hop =>
    have hd : fr.roundOf = none ∨ ∀ c, o.op ≠ .defer c := by
      rcases opr_defer hop with h | ⟨x, h⟩
      · exact .inr h
      · cases h
    have hg := stG_op (P := P) (w := w) (cs := cs) hmode htodo ho hw hd
    have hr := oper_run (P := P) hE rel o hx hop
    generalize hq : (execOp fr.eval o).run P w = q at hr
    cases hr with
    | v hv r2 x2 => exact ⟨_, _, _, .one (step_lone_go (by rw [hg]; simp [stepG.apply, hq])), r2, x2, hv⟩
    | skip r2 x2 => exact ⟨_, _, _, .one (step_lone_go (by rw [hg]; simp [stepG.apply, hq])), r2, x2, .undef⟩
  | enter hop hc =>
    rename_i f args s1 rc
    have hd : fr.roundOf = none ∨ ∀ c, o.op ≠ .defer c := by
      rcases opr_defer hop with h | ⟨x, h⟩
      · exact .inr h
      · cases h
    have hg := stG_op (P := P) (w := w) (cs := cs) hmode htodo ho hw hd
    have hr := oper_run (P := P) hE rel o hx hop
    generalize hq : (execOp fr.eval o).run P w = q at hr
    cases hr with
    | enter hargs =>
      rename_i args'
      obtain ⟨c1, c2⟩ := ok.call f args none s _ rc s' hc m w args' rel gr hargs
      rw [c1] at hq
      have hst : step P (lone fr cs w) = .next (lone (Frame.enter P f ⟨args'⟩ .normal) (fr :: cs) w) := by
        refine step_lone_go ?_
        rw [hg]
        simp [stepG.apply, hq, htodo]
      obtain ⟨m', w', p1, p2, v', p4, p5⟩ := called_of rfl (fun cs hcr => c2 .normal cs (.inl rfl) hcr) fr cs
      exact ⟨m', w', v', .head hst p5, p1, p2, p4⟩
  | round hop hc =>
    rename_i l args s1 rc
    have hd : fr.roundOf = none ∨ ∀ c, o.op ≠ .defer c := by
      rcases opr_defer hop with h | ⟨x, h⟩
      · exact .inr h
      · cases h
    have hg := stG_op (P := P) (w := w) (cs := cs) hmode htodo ho hw hd
    have hr := oper_run (P := P) hE rel o hx hop
    generalize hq : (execOp fr.eval o).run P w = q at hr
    cases hr with
    | round hl hargs =>
      rename_i l' nn args'
      obtain ⟨f, ts, asg, body, c1, c2⟩ := ok.round l args s _ rc s' hc m w l' nn args' rel gr hl hargs
      rw [c1] at hq
      have hst : step P (lone fr cs w) = .next (lone (Frame.round l' f ts asg body .normal) (fr :: cs) w) := step_lone_go (by rw [hg]; simp [stepG.apply, hq])
      obtain ⟨m', w', p1, p2, v', p4, p5⟩ := c2 fr cs
      exact ⟨m', w', v', .head hst p5, p1, p2, p4⟩
/-- an act that panics -/
theorem act_pan (hE : EnvOK P E) (ok : Ok P E r) {ops : Array Oper} {i : Nat} {rest : List Nat} {K : List Item} {o : Oper} {fr : Frame} {cs : List Frame} {w : World} {m : Mp} {s : St} {tm : List Value} {v : Value} {s' : St}
    (ho : ops[i]? = some o) (htodo : fr.todo = .inRegion ops (i :: rest) :: K) (hw : Region.wanted o (yielded ops fr.tmps) = true) (hmode : fr.mode = .run)
    (rel : Rel m s w) (gr : GR E m) (hx : ∀ x ∈ o.op.operands, VR m (evl tm x) (fr.eval x)) (h : ActP E r o.op tm s v s') :
    ∃ m' w' v', Steps P (lone fr cs w) (lone (modeF fr (.panicking [⟨v', false, false⟩])) cs w') ∧ Rel m' s' w' ∧ Ext m s w m' s' w' ∧ VR m' v v' := by
  have hrz : ∀ v', fr.raise [⟨v', false, false⟩] = modeF fr (.panicking [⟨v', false, false⟩]) := by intro v'; simp [Frame.raise, hmode, modeF]
  cases h with
  | enter hop hc =>
    rename_i f args s1 rc
    have hd : fr.roundOf = none ∨ ∀ c, o.op ≠ .defer c := by
      rcases opr_defer hop with h | ⟨x, h⟩
      · exact .inr h
      · cases h
    have hg := stG_op (P := P) (w := w) (cs := cs) hmode htodo ho hw hd
    have hr := oper_run (P := P) hE rel o hx hop
    generalize hq : (execOp fr.eval o).run P w = q at hr
    cases hr with
    | enter hargs =>
      rename_i args'
      obtain ⟨c1, c2⟩ := ok.call f args none s _ rc s' hc m w args' rel gr hargs
      rw [c1] at hq
      have hst : step P (lone fr cs w) = .next (lone (Frame.enter P f ⟨args'⟩ .normal) (fr :: cs) w) := by
        refine step_lone_go ?_
        rw [hg]
        simp [stepG.apply, hq, htodo]
      obtain ⟨m', w', p1, p2, v', p4, p5⟩ := called_of rfl (fun cs hcr => c2 .normal cs (.inl rfl) hcr) fr cs
      rw [hrz] at p5
      exact ⟨m', w', v', .head hst p5, p1, p2, p4⟩
  | round hop hc =>
    rename_i l args s1 rc
    have hd : fr.roundOf = none ∨ ∀ c, o.op ≠ .defer c := by
      rcases opr_defer hop with h | ⟨x, h⟩
      · exact .inr h
      · cases h
    have hg := stG_op (P := P) (w := w) (cs := cs) hmode htodo ho hw hd
    have hr := oper_run (P := P) hE rel o hx hop
    generalize hq : (execOp fr.eval o).run P w = q at hr
    cases hr with
    | round hl hargs =>
      rename_i l' nn args'
      obtain ⟨f, ts, asg, body, c1, c2⟩ := ok.round l args s _ rc s' hc m w l' nn args' rel gr hl hargs
      rw [c1] at hq
      have hst : step P (lone fr cs w) = .next (lone (Frame.round l' f ts asg body .normal) (fr :: cs) w) := step_lone_go (by rw [hg]; simp [stepG.apply, hq])
      obtain ⟨m', w', p1, p2, v', p4, p5⟩ := c2 fr cs
      rw [hrz] at p5
      exact ⟨m', w', v', .head hst p5, p1, p2, p4⟩

/-- there is a state of the model that AM's state stands for -/
def Fits (E : Env) (tm : List Value) (s : St) : Prop := ∃ m w ts, Rel m s w ∧ GR E m ∧ VRs m tm ts
theorem Fits.ob {tm : List Value} {s : St} (h : Fits E tm s) {k : Nat} {o : Ob} (hk : T.get s.heap k = some o) : k < s.next ∧ KBo s.next o := by
  obtain ⟨m, w, ts, rel, _, _⟩ := h
  obtain ⟨b, n, o', h1, h2, h3⟩ := rel.ob k o hk
  exact ⟨lt_of_low rel.low h1, h3.kb rel.low⟩
def frT (ts : List Value) (ops : List Oper) (i : Nat) : Frame := { (default : Frame) with tmps := ⟨ts⟩, todo := [.inRegion ⟨ops⟩ [i]], mode := .run }
theorem Fits.opd {tm : List Value} {s : St} (h : Fits E tm s) {x : Operand} (hx : opdOk E x = true) : KB s.next (evl tm x) := by
  obtain ⟨m, w, ts, rel, gr, ht⟩ := h
  exact (opd_rel (fr := frT ts [] 0) gr ht hx).kb rel.low
theorem Fits.act (hE : EnvOK P E) (ok : Ok P E r) {ops : List Oper} (hops : opsOk E ops = true) {i : Nat} {o : Oper} (ho : ops[i]? = some o) {tm : List Value} {s : St} (h : Fits E tm s) (hw : wantedO ops tm o.guard = true) {v : Value} {s' : St} (ha : ActR E r o.op tm s v s') :
    Fits E (setT tm o.dst v) s' ∧ s.next ≤ s'.next := by
  obtain ⟨m, w, ts, rel, gr, ht⟩ := h
  have ht' : VRs m tm (frT ts ops i).tmps.toList := ht
  obtain ⟨m', w', v', h1, h2, h3, h4⟩ := act_step hE ok (ops := ⟨ops⟩) (i := i) (rest := []) (K := []) (o := o) (fr := frT ts ops i) (cs := []) (w := w) (by simpa using ho) rfl (by rw [wanted_rel ht']; exact hw) rfl rel gr
    (opd_all gr ht' (fun x hx => opsOk_mem hops o (List.mem_of_getElem? ho) x hx)) ha
  exact ⟨⟨m', w', _, h2, gr.mono h3.mono, setT_rel (ts := ⟨ts⟩) (ht.mono h3.mono) h4 o.dst⟩, h3.next⟩
theorem Fits.skip {tm : List Value} {s : St} (h : Fits E tm s) (d : Option Tmp) : Fits E (setT tm d undef) s := by
  obtain ⟨m, w, ts, rel, gr, ht⟩ := h
  exact ⟨m, w, _, rel, gr, setT_rel (ts := ⟨ts⟩) ht .undef d⟩
theorem Fits.tr (hE : EnvOK P E) (ok : Ok P E r) {D : Dw} (hDE : D.E = E) (hops : opsOk E D.ops = true) {qs : List Stp} {is : List Nat} {tm tm2 : List Value} {s s2 : St} {lg lg2 : List Lg} (h : Tr D r qs is tm s lg tm2 s2 lg2) (hf : Fits E tm s) :
    (∀ q ∈ qs, Fits E q.tm q.s ∧ q.s.next ≤ q.s'.next) ∧ Fits E tm2 s2 ∧ s.next ≤ s2.next := by
  induction h with
  | nil => exact ⟨by simp, hf, Nat.le_refl _⟩
  | cons h1 h2 h3 h4 h5 ih =>
    rename_i q o qs is tm tm2 s s2 lg lg1 lg2
    have hn : Fits E (setT tm o.dst q.v) q.s' ∧ s.next ≤ q.s'.next := by
      cases h4 with
      | skip hw => subst h2; subst h3; exact ⟨hf.skip _, Nat.le_refl _⟩
      | calm hw hc hop hl => subst h2; subst h3; rw [hDE] at hop; exact hf.act hE ok hops h1 hw (.v hop)
      | act hw hc ha hm => subst h2; subst h3; rw [hDE] at ha; exact hf.act hE ok hops h1 hw ha
    obtain ⟨g1, g2, g3⟩ := ih hn.1
    refine ⟨?_, g2, Nat.le_trans hn.2 g3⟩
    intro q' hq
    rcases List.mem_cons.1 hq with rfl | hq
    · subst h2; subst h3; exact ⟨hf, hn.2⟩
    · exact g1 q' hq
end

/-! ## a part of memory -/
structure RelP (m : Mp) (H : Nat → Ob → Prop) (w : World) : Prop where
  ob : ∀ k o, H k o → ∃ b n o', m k = some (b, n) ∧ w.heap[b]? = some o' ∧ OR m o o' n
  inj : ∀ k k' o o' b n n', H k o → H k' o' → m k = some (b, n) → m k' = some (b, n') → k = k'
  rng : ∀ k b n, m k = some (b, n) → b < w.heap.size
theorem RelP.sub {m : Mp} {H H' : Nat → Ob → Prop} {w : World} (r : RelP m H w) (h : ∀ k o, H' k o → H k o) : RelP m H' w :=
  ⟨fun k o hk => r.ob k o (h k o hk), fun k k' o o' b n n' a c => r.inj k k' o o' b n n' (h _ _ a) (h _ _ c), r.rng⟩
def overM (m1 m : Mp) (n : Nat) : Mp := fun k => if k < n then m1 k else m k
theorem RelP.frame {m : Mp} {H : Nat → Ob → Prop} {w : World} (r : RelP m H w) {s1 : St} (hsub : ∀ k o, T.get s1.heap k = some o → H k o) {m1 : Mp} {s2 : St} {w' : World} (rel : Rel m1 s2 w')
    (ext : Ext (cutM m s1.next) s1 w m1 s2 w') (gap : ∀ k, s1.next ≤ k → k < s2.next → m k = none) :
    (∀ k p, m k = some p → overM m1 m s2.next k = some p) ∧ (∀ k p, m1 k = some p → overM m1 m s2.next k = some p) ∧
      RelP (overM m1 m s2.next) (fun k o => T.get s2.heap k = some o ∨ (H k o ∧ T.get s1.heap k = none)) w' := by
  have hmono : ∀ k p, m k = some p → overM m1 m s2.next k = some p := by
    intro k p hk
    unfold overM
    by_cases h2 : k < s2.next
    · rw [if_pos h2]
      by_cases h1 : k < s1.next
      · rw [ext.old k h1, cutM_of h1]; exact hk
      · rw [gap k (by omega) h2] at hk; cases hk
    · rw [if_neg h2]; exact hk
  have hmono1 : ∀ k p, m1 k = some p → overM m1 m s2.next k = some p := by
    intro k p hk
    unfold overM
    rw [if_pos (lt_of_low rel.low hk)]; exact hk
  have live : ∀ {k o}, T.get s2.heap k = some o → overM m1 m s2.next k = m1 k := by
    intro k o hk
    obtain ⟨b, n, o', h1, _⟩ := rel.ob k o hk
    unfold overM; rw [if_pos (lt_of_low rel.low h1)]
  have out : ∀ {k o b n}, H k o → overM m1 m s2.next k = some (b, n) → m k = some (b, n) := by
    intro k o b n hk hm
    obtain ⟨b', n', o', h1, _⟩ := r.ob k o hk
    rw [hmono _ _ h1] at hm; rw [h1]; exact hm
  refine ⟨hmono, hmono1, ⟨?_, ?_, ?_⟩⟩
  · intro k o hk
    rcases hk with hk | ⟨hk, hno⟩
    · obtain ⟨b, n, o', h1, h2, h3⟩ := rel.ob k o hk
      exact ⟨b, n, o', hmono1 _ _ h1, h2, h3.mono hmono1⟩
    · obtain ⟨b, n, o', h1, h2, h3⟩ := r.ob k o hk
      refine ⟨b, n, o', hmono _ _ h1, ?_, h3.mono hmono⟩
      rw [ext.keep b (r.rng _ _ _ h1) ?_]; exact h2
      intro k' o'' n' hk' hm'
      have := r.inj k k' _ _ _ _ _ hk (hsub _ _ hk') h1 (cutM_mono _ _ _ _ hm')
      subst this; rw [hno] at hk'; cases hk'
  · have cross : ∀ {k k' o o' b n n'}, T.get s2.heap k = some o → H k' o' → T.get s1.heap k' = none → overM m1 m s2.next k = some (b, n) → overM m1 m s2.next k' = some (b, n') → False := by
      intro k k' o o' b n n' hk hk' hno h1 h2
      rw [live hk] at h1
      have h2' := out hk' h2
      obtain ⟨k0, o0, n0, g1, g2, _⟩ := ext.own k o b n hk h1 (r.rng _ _ _ h2')
      have := r.inj k0 k' _ _ _ _ _ (hsub _ _ g1) hk' (cutM_mono _ _ _ _ g2) h2'
      subst this; rw [hno] at g1; cases g1
    intro k k' o o' b n n' hk hk' h1 h2
    rcases hk with hk | ⟨hk, hno⟩ <;> rcases hk' with hk' | ⟨hk', hno'⟩
    · rw [live hk] at h1; rw [live hk'] at h2
      exact rel.inj k k' _ _ _ _ _ hk hk' h1 h2
    · exact (cross hk hk' hno' h1 h2).elim
    · exact (cross hk' hk hno h2 h1).elim
    · exact r.inj k k' _ _ _ _ _ hk hk' (out hk h1) (out hk' h2)
  · intro k b n hk
    unfold overM at hk
    split at hk
    · exact rel.rng k b n hk
    · exact Nat.lt_of_lt_of_le (r.rng k b n hk) ext.size
theorem RelP.base {m : Mp} {H : Nat → Ob → Prop} {w : World} (r : RelP m H w) {s : St} (h : ∀ k o, T.get s.heap k = some o → H k o ∧ k < s.next ∧ KBo s.next o) : Rel (cutM m s.next) s w := by
  refine ⟨?_, ?_, cutM_low m s.next, ?_⟩
  · intro k o hk
    obtain ⟨h1, h2, h3⟩ := h k o hk
    obtain ⟨b, n, o', g1, g2, g3⟩ := r.ob k o h1
    exact ⟨b, n, o', by rw [cutM_of h2]; exact g1, g2, g3.cut h3⟩
  · intro i j a b q n1 n2 hi hj hmi hmj
    exact r.inj i j a b q n1 n2 (h i a hi).1 (h j b hj).1 (cutM_mono _ _ _ _ hmi) (cutM_mono _ _ _ _ hmj)
  · intro k b n hk
    exact r.rng k b n (cutM_mono _ _ _ _ hk)
theorem RelP.add {m : Mp} {H : Nat → Ob → Prop} {w : World} (r : RelP m H w) {k : Nat} (hk : m k = none) {o : Ob} {o' : Obj} {n : Nat} (h : OR (setM m k w.heap.size n) o o' n) :
    RelP (setM m k w.heap.size n) (fun j ob => H j ob ∨ (j = k ∧ ob = o)) (pushW w o') := by
  have hmono := setM_mono (b := w.heap.size) (n := n) hk
  have hold : ∀ b, b < w.heap.size → (w.heap.push o')[b]? = w.heap[b]? := by
    intro b hb; rw [Array.getElem?_push, if_neg (by omega)]
  have out : ∀ {j ob b n'}, H j ob → setM m k w.heap.size n j = some (b, n') → m j = some (b, n') := by
    intro j ob b n' hj hm
    obtain ⟨b', n'', o1, h1, _⟩ := r.ob j ob hj
    rw [hmono _ _ h1] at hm; rw [h1]; exact hm
  refine ⟨?_, ?_, ?_⟩
  · intro j ob hj
    rcases hj with hj | ⟨rfl, rfl⟩
    · obtain ⟨b, nn, o1, h1, h2, h3⟩ := r.ob j ob hj
      refine ⟨b, nn, o1, hmono _ _ h1, ?_, h3.mono hmono⟩
      show (w.heap.push o')[b]? = _
      rw [hold b (r.rng j b nn h1)]; exact h2
    · exact ⟨w.heap.size, n, o', by simp [setM], by show (w.heap.push o')[w.heap.size]? = _; simp, h⟩
  · intro i j a c q n1 n2 hi hj hmi hmj
    rcases hi with hi | ⟨hi, _⟩ <;> rcases hj with hj | ⟨hj, _⟩
    · exact r.inj i j a c q n1 n2 hi hj (out hi hmi) (out hj hmj)
    · have h1 := r.rng _ _ _ (out hi hmi)
      subst hj; simp [setM] at hmj; omega
    · have h1 := r.rng _ _ _ (out hj hmj)
      subst hi; simp [setM] at hmi; omega
    · rw [hi, hj]
  · intro j b nn hj
    show b < (w.heap.push o').size
    rw [Array.size_push]
    unfold setM at hj
    by_cases he : j = k
    · rw [if_pos he] at hj; injection hj with hj; injection hj with h1 h2; omega
    · rw [if_neg he] at hj; have := r.rng j b nn hj; omega
end Go.AM

namespace Go.AM
open Go
/-! ## what an operation that is no act does to memory -/
theorem clsN : ∀ (E : Env) (ops : List Oper) (i : Nat) (o : Oper), ops[i]? = some o → nthC (cls E ops) i = clOf E o.op
  | _, [], _, _, h => by simp at h
  | E, p :: ops, 0, o, h => by simp at h; subst h; rfl
  | E, p :: ops, i + 1, o, h => clsN E ops i o (by simpa using h)
/-- where a read looks -/
inductive FP where
  | cells (b off n : Nat)
  | ents (r : Nat)
def FP.key : FP → Nat
  | .cells b _ _ => b
  | .ents r => r
def FP.lg (f : FP) (i : Nat) : Lg := match f with | .cells b off n => .cells i b off n | .ents r => .ents i r
noncomputable def FP.obs (f : FP) (h : T Ob) : Option (List Value) × Option Ob := match f with | .cells b off n => (loadR ⟨h, 0⟩ b off n, none) | .ents r => (none, T.get h r)
theorem FP.obs_get {f : FP} {h h' : T Ob} (e : T.get h f.key = T.get h' f.key) : f.obs h = f.obs h' := by
  cases f with
  | cells b off n =>
    have e' : T.get h b = T.get h' b := e
    simp only [FP.obs, loadR, e']
  | ents r =>
    have e' : T.get h r = T.get h' r := e
    simp only [FP.obs, e']
theorem FP.okp {f : FP} {an : List Nat} {i j nx : Nat} {h h' : T Ob} (hp : okPair an (f.lg i) (.act j nx h h') = true) (ha : apartB an i j = true) (hk : f.key < nx) : f.obs h' = f.obs h := by
  cases f with
  | cells b off n =>
    simp only [FP.lg, okPair, ha] at hp
    simp only [FP.obs, sameCells_ok hp hk]
  | ents r =>
    simp only [FP.lg, okPair, ha] at hp
    simp only [FP.obs, sameEnts_ok hp hk]
theorem read_load {E : Env} {s s' : St} {ev : Operand → Value} {t : TypeId} {a : Operand} {v : Value} {i : Nat} {lg lg1 : List Lg} (h : opr (.load t a) E s ev = some (.v v, s')) (hl : logR (.load t a) i ev E lg = some lg1) :
    s' = s ∧ ∃ f : FP, f.lg i ∈ lg1 ∧ (T.get s.heap f.key ≠ none) ∧ (∀ m y, VR m (ev a) y → ∃ p, m f.key = some p) ∧ (∀ n, f.key < n → KB n (ev a)) ∧ ∀ z : St, f.obs z.heap = f.obs s.heap → opr (.load t a) E z ev = some (.v v, z) := by
  have h' : oLoad E s t (ev a) = some (.v v, s') := h
  have hl' : (match ev a with
    | .pointer (some ⟨b, off, _⟩) => match T.get E.tys t with | some ti => some (Lg.cells i b off ti.size :: lg) | none => none
    | _ => none) = some lg1 := hl
  have hz : ∀ z, opr (.load t a) E z ev = oLoad E z t (ev a) := fun _ => rfl
  simp only [hz]
  generalize ev a = x at h' hl' ⊢
  unfold oLoad at h'
  split at h'
  · rename_i b off
    split at h'
    · rename_i ti hti
      split at h'
      · rename_i vs hvs
        split at h'
        · rename_i v' hv'
          injection h' with h'; injection h' with h1 h2; injection h1 with h1
          subst h1; subst h2
          simp only [hti] at hl'
          injection hl' with hl'
          refine ⟨rfl, .cells b off ti.size, ?_, ?_, ?_, ?_, ?_⟩
          · rw [← hl']; simp [FP.lg]
          · intro hn
            have hn' : T.get s.heap b = none := hn
            simp only [loadR, hn'] at hvs; cases hvs
          · intro m y hy
            cases hy with
            | ptr o hk => exact ⟨_, hk⟩
          · intro n hn; exact .ptr _ hn
          · intro z hobs
            have : loadR z b off ti.size = loadR s b off ti.size := (Prod.mk.inj hobs).1
            simp only [oLoad, hti, this, hvs, hv']
        · cases h'
      · cases h'
    · cases h'
  · cases h'
theorem read_lookup {E : Env} {s s' : St} {ev : Operand → Value} {t : TypeId} {x k : Operand} {ok : Bool} {v : Value} {i : Nat} {lg lg1 : List Lg} (h : opr (.lookup t x k ok) E s ev = some (.v v, s')) (hl : logR (.lookup t x k ok) i ev E lg = some lg1) :
    s' = s ∧ ((∀ z : St, opr (.lookup t x k ok) E z ev = some (.v v, z)) ∨ ∃ f : FP, f.lg i ∈ lg1 ∧ (T.get s.heap f.key ≠ none) ∧ (∀ m y, VR m (ev x) y → ∃ p, m f.key = some p) ∧ (∀ n, f.key < n → KB n (ev x) ∧ KB n (ev k)) ∧ ∀ z : St, f.obs z.heap = f.obs s.heap → opr (.lookup t x k ok) E z ev = some (.v v, z)) := by
  have h' : oLookup E s t (ev x) (ev k) ok = some (.v v, s') := h
  have hl' : (match ev x with
    | .map none => some lg
    | .map (some r) => some (Lg.ents i r :: lg)
    | _ => none) = some lg1 := hl
  have hz : ∀ z, opr (.lookup t x k ok) E z ev = oLookup E z t (ev x) (ev k) ok := fun _ => rfl
  simp only [hz]
  generalize ev x = x' at h' hl' ⊢
  generalize ev k = k' at h' ⊢
  unfold oLookup at h'
  split at h'
  · rename_i kt e hkt
    split at h'
    · rename_i es hkey hes
      have hkb : ∀ n, KB n k' := by
        intro n
        unfold keyK at hkey
        split at hkey
        · split at hkey
          · exact .int _ _
          · cases hkey
        · split at hkey
          · exact .string _
          · cases hkey
        · cases hkey
      have hss : s' = s ∧ ∀ z : St, entsOf z x' = some es → oLookup E z t x' k' ok = some (.v v, z) := by
        split at h'
        · cases h'
        · rename_i v1 hf
          injection h' with h'; injection h' with h1 h2; injection h1 with h1
          refine ⟨h2.symm, fun z hz => ?_⟩
          simp only [oLookup, hkt, hkey, hz, hf, h1]
        · rename_i hf
          split at h'
          · rename_i zz hzz
            split at h'
            · rename_i z2 hz2
              injection h' with h'; injection h' with h1 h2; injection h1 with h1
              refine ⟨h2.symm, fun z hz => ?_⟩
              simp only [oLookup, hkt, hkey, hz, hf, hzz, hz2, h1]
            · cases h'
          · cases h'
      refine ⟨hss.1, ?_⟩
      unfold entsOf at hes
      split at hes
      · exact .inl fun z => hss.2 z (by rw [← hes]; rfl)
      · rename_i r
        injection hl' with hl'
        split at hes
        · rename_i es0 c0 hg
          refine .inr ⟨.ents r, ?_, ?_, ?_, ?_, ?_⟩
          · rw [← hl']; simp [FP.lg]
          · show T.get s.heap r ≠ none
            rw [hg]; simp
          · intro m y hy
            cases hy with
            | map hk => exact ⟨_, hk⟩
          · intro n hn; exact ⟨.map hn, hkb n⟩
          · intro z hobs
            have : T.get z.heap r = T.get s.heap r := (Prod.mk.inj hobs).2
            apply hss.2
            simp only [entsOf, this, hg, hes]
        · cases hes
      · cases hes
    · cases h'
  · cases h'
theorem read_fp {E : Env} {s s' : St} {ev : Operand → Value} {op : Op} {v : Value} {i : Nat} {lg lg1 : List Lg} (hc : isRead (clOf E op) = true) (h : opr op E s ev = some (.v v, s')) (hl : logR op i ev E lg = some lg1) :
    s' = s ∧ ((∀ z : St, opr op E z ev = some (.v v, z)) ∨ ∃ f : FP, f.lg i ∈ lg1 ∧ (T.get s.heap f.key ≠ none) ∧ (∃ x ∈ op.operands, ∀ m y, VR m (ev x) y → ∃ p, m f.key = some p) ∧ (∀ n, f.key < n → ∀ x ∈ op.operands, KB n (ev x)) ∧
      ∀ z : St, f.obs z.heap = f.obs s.heap → opr op E z ev = some (.v v, z)) := by
  cases op with
  | load t a =>
    obtain ⟨h1, f, h2, h3, h4, h5, h6⟩ := read_load h hl
    exact ⟨h1, .inr ⟨f, h2, h3, ⟨a, by simp [Op.operands], h4⟩, fun n hn x hx => by
      have : x = a := by simpa [Op.operands] using hx
      subst this; exact h5 n hn, h6⟩⟩
  | lookup t x k ok =>
    obtain ⟨h1, h2⟩ := read_lookup h hl
    refine ⟨h1, ?_⟩
    rcases h2 with h2 | ⟨f, h2, h3, h4, h5, h6⟩
    · exact .inl h2
    · exact .inr ⟨f, h2, h3, ⟨x, by simp [Op.operands], h4⟩, fun n hn y hy => by
        have : y = x ∨ y = k := by simpa [Op.operands] using hy
        rcases this with rfl | rfl
        · exact (h5 n hn).1
        · exact (h5 n hn).2, h6⟩
  | convert d t x => simp only [clOf] at hc; split at hc <;> cases hc
  | call c =>
    obtain ⟨callee, args, tys⟩ := c
    simp only [clOf, clC] at hc
    split at hc
    · unfold clB at hc
      split at hc
      · split at hc
        · split at hc <;> cases hc
        · cases hc
      all_goals cases hc
    · cases hc
  | _ => cases hc
theorem make_any {P : Program} {E : Env} (hE : EnvOK P E) {m : Mp} {ev ρ : Operand → Value} (hρ : ER m ev ρ) {o : Oper} (hc : isMake (clOf E o.op) = true) {s s' : St} {n : N} (h : opr o.op E s ev = some (n, s')) :
    ∃ mk mk' ob o' cnt, MakeH P E o m ev ρ mk mk' ob o' cnt := by
  obtain ⟨d, op, ty, pos, af, g⟩ := o
  cases op with
  | alloc e => exact make_alloc hE e h
  | box t x => exact make_box hρ t x h
  | buildSlice t l ps => exact make_buildSlice hE hρ t l ps h
  | convert d t x => simp only [clOf] at hc; split at hc <;> cases hc
  | call c =>
    obtain ⟨callee, args, tys⟩ := c
    simp only [clOf, clC] at hc
    split at hc
    · unfold clB at hc
      split at hc
      · split at hc
        · split at hc <;> cases hc
        · cases hc
      all_goals cases hc
    · cases hc
  | _ => cases hc
theorem cl_cases (c : Cl) : isAct c = true ∨ isMake c = true ∨ isRead c = true ∨ (isAct c = false ∧ isMake c = false ∧ isRead c = false) := by cases c <;> simp [isAct, isMake, isRead]
/-- what is no act leaves memory as it is, or has one block more -/
theorem calm_state {P : Program} {E : Env} (hE : EnvOK P E) {op : Op} (hc : isAct (clOf E op) = false) {s s' : St} {ev : Operand → Value} {v : Value} {i : Nat} {lg lg1 : List Lg} (h : opr op E s ev = some (.v v, s')) (hl : logR op i ev E lg = some lg1)
    {m : Mp} {ρ : Operand → Value} (hρ : ∀ x ∈ op.operands, VR m (ev x) (ρ x)) :
    (isMake (clOf E op) = false ∧ s' = s) ∨ (isMake (clOf E op) = true ∧ ∃ ob, s' = s.new ob) := by
  classical
  rcases cl_cases (clOf E op) with h1 | h1 | h1 | ⟨h1, h2, h3⟩
  · rw [hc] at h1; cases h1
  · let ev1 : Operand → Value := fun x => if x ∈ op.operands then ev x else Go.undef
    let ρ1 : Operand → Value := fun x => if x ∈ op.operands then ρ x else Go.undef
    have e1 : ∀ s, opr op E s ev1 = opr op E s ev := fun s => opr_congr op E s (fun x hx => by simp [ev1, hx])
    have er : ER m ev1 ρ1 := by
      intro x
      by_cases hm : x ∈ op.operands
      · simp only [ev1, ρ1, if_pos hm]; exact hρ x hm
      · simp only [ev1, ρ1, if_neg hm]; exact VR.undef
    obtain ⟨mk, mk', ob, o', cnt, hm⟩ := make_any (P := P) hE er (o := ⟨none, op, 0, "", #[], none⟩) h1 (s := s) (s' := s') (n := .v v) (by rw [e1]; exact h)
    have := hm.am s
    rw [show opr (⟨none, op, 0, "", #[], none⟩ : Oper).op E s ev1 = opr op E s ev from e1 s, h] at this
    injection this with this; injection this with _ h2
    exact .inr ⟨h1, ob, h2⟩
  · refine .inl ⟨?_, (read_fp h1 h hl).1⟩
    cases hcl : clOf E op <;> rw [hcl] at h1 <;> first | rfl | cases h1
  · obtain ⟨rv, hrv⟩ := pure_opr (E := E) (ev := ev) op h1 h3 h2
    rw [hrv] at h
    cases rv with
    | none => cases h
    | some x => injection h with h; injection h with _ h; exact .inl ⟨h2, h.symm⟩
end Go.AM

namespace Go.AM
open Go
/-! ## AM's own order -/
theorem okOrder_split {an : List Nat} {cl : List Cl} : ∀ {sa : List Nat} {i : Nat} {sb done : List Nat}, okOrder an cl (sa ++ i :: sb) done = true →
    (∀ j ∈ sb, bit (nthN an i) j = false) ∧ (isAct (nthC cl i) = true → ∀ j, j ∈ sa ∨ j ∈ done → (isAct (nthC cl j) = true ∨ isMake (nthC cl j) = true) → bit (nthN an i) j = true) ∧ i ∉ sa ∧ i ∉ done
  | [], i, sb, done, h => by
    obtain ⟨h1, h2, _, h4⟩ := okOrder_cons h
    refine ⟨fun j hj => (h2 j hj).1, ?_, by simp, h1⟩
    intro ha j hj
    rcases hj with hj | hj
    · simp at hj
    · exact h4 ha j hj
  | x :: sa, i, sb, done, h => by
    obtain ⟨_, _, h3, _⟩ := okOrder_cons (r := sa ++ i :: sb) h
    obtain ⟨g1, g2, g3, g4⟩ := okOrder_split (sa := sa) h3
    refine ⟨g1, ?_, ?_, fun hd => g4 (by simp [hd])⟩
    · intro ha j hj
      apply g2 ha
      rcases hj with hj | hj
      · rcases List.mem_cons.1 hj with rfl | hj
        · exact .inr (by simp)
        · exact .inl hj
      · exact .inr (by simp [hj])
    · intro hin
      rcases List.mem_cons.1 hin with rfl | hin
      · exact g4 (by simp)
      · exact g3 hin
theorem okOrder_nodup {an : List Nat} {cl : List Cl} : ∀ {l done : List Nat}, okOrder an cl l done = true → l.Nodup ∧ ∀ i ∈ l, i ∉ done
  | [], _, _ => ⟨List.nodup_nil, by simp⟩
  | x :: l, done, h => by
    obtain ⟨h1, _, h3, _⟩ := okOrder_cons h
    obtain ⟨g1, g2⟩ := okOrder_nodup h3
    refine ⟨List.nodup_cons.2 ⟨fun hin => g2 x hin (by simp), g1⟩, ?_⟩
    intro i hi
    rcases List.mem_cons.1 hi with rfl | hi
    · exact h1
    · exact fun hd => g2 i hi (by simp [hd])
theorem all_in {σ : List Nat} {n : Nat} (hn : σ.Nodup) (hl : σ.length = n) (hm : ∀ i ∈ σ, i < n) {j : Nat} (hj : j < n) : j ∈ σ := by
  false_or_by_contra
  rename_i h
  have := nodup_len (j :: σ) (List.range n) (List.nodup_cons.2 ⟨h, hn⟩) (by
    intro x hx
    rw [List.mem_range]
    rcases List.mem_cons.1 hx with rfl | hx
    · exact hj
    · exact hm x hx)
  rw [List.length_range] at this
  simp at this; omega
structure OrdOK (an : List Nat) (cl : List Cl) (ops : List Oper) (σ : List Nat) : Prop where
  nodup : σ.Nodup
  all : ∀ j, j < ops.length → j ∈ σ
  lt : ∀ j ∈ σ, j < ops.length
  early : ∀ sa i sb, σ = sa ++ i :: sb → ∀ j, bit (nthN an i) j = true → j ∈ sa
  acts : ∀ sa i sb, σ = sa ++ i :: sb → isAct (nthC cl i) = true → ∀ j ∈ sa, (isAct (nthC cl j) = true ∨ isMake (nthC cl j) = true) → bit (nthN an i) j = true
  anc : AncOK ops
  opok : ∀ j o, ops[j]? = some o → okOp an ops o j = true
theorem anc_small {ops : List Oper} (ha : AncOK ops) : ∀ (i : Nat) {j : Nat}, bit (nthN (ancs ops []) i) j = true → j < i := by
  intro i
  induction i using Nat.strongRecOn with
  | ind i ih =>
    intro j h
    obtain ⟨o, _, e, _, _, hlt, h2⟩ := anc_edge ha h
    rcases h2 with rfl | h2
    · exact hlt
    · exact Nat.lt_trans (ih e.on hlt h2) hlt
theorem okD_ord {E : Env} {ops : List Oper} {σ : List Nat} (h : okD E ops σ = true) : OrdOK (ancs ops []) (cls E ops) ops σ := by
  simp only [okD, Bool.and_eq_true, List.all_eq_true] at h
  obtain ⟨⟨⟨h1, h2⟩, h3⟩, h4⟩ := h
  rw [Nat.beq_eq] at h1
  have hlt : ∀ j ∈ σ, j < ops.length := by intro j hj; have := h2 j hj; rwa [Nat.blt_eq] at this
  obtain ⟨hn, _⟩ := okOrder_nodup h3
  have hop : ∀ j o, ops[j]? = some o → okOp (ancs ops []) ops o j = true := by
    intro j o ho
    have := h4 (o, j) (by rw [List.mem_zipIdx_iff_getElem?]; exact ho)
    simpa using this
  have ha : AncOK ops := by
    intro j o ho e he hb
    have := hop j o ho
    simp only [okOp, Bool.and_eq_true, Array.all_eq_true'] at this
    have h5 := this.2 e (by simpa using he)
    simpa [hb] using h5
  have hall : ∀ j, j < ops.length → j ∈ σ := fun j hj => all_in hn h1 hlt hj
  refine ⟨hn, hall, hlt, ?_, ?_, ha, hop⟩
  · intro sa i sb hs j hb
    have hj := anc_small ha i hb
    have hi := anc_lt hb
    have hjs := hall j (by omega)
    obtain ⟨g1, _⟩ := okOrder_split (by rw [← hs]; exact h3)
    rw [hs] at hjs
    rcases List.mem_append.1 hjs with hjs | hjs
    · exact hjs
    · rcases List.mem_cons.1 hjs with rfl | hjs
      · omega
      · rw [g1 j hjs] at hb; cases hb
  · intro sa i sb hs hact j hj
    obtain ⟨_, g2, _⟩ := okOrder_split (by rw [← hs]; exact h3)
    exact g2 hact j (.inl hj)
theorem OrdOK.sched {cl : List Cl} {ops : List Oper} {σ : List Nat} (h : OrdOK (ancs ops []) cl ops σ) : Sched ⟨ops⟩ σ where
  nodup := h.nodup
  mem i hi := by simpa using h.lt i hi
  edge pre i suf hs o ho e he hb := h.early pre i suf hs _ (anc_of_edge (by simpa using ho) he hb)

/-! ## tmps -/
def dstI (D : Dw) (i : Nat) : Option Tmp := (D.ops[i]?).bind (·.dst)
def valOf : List Stp → Nat → Value
  | [], _ => undef
  | q :: qs, i => if q.i = i then q.v else valOf qs i
theorem valOf_eq : ∀ {qs : List Stp}, (qs.map (·.i)).Nodup → ∀ q ∈ qs, valOf qs q.i = q.v
  | [], _, q, hq => by simp at hq
  | p :: qs, hn, q, hq => by
    rw [List.map_cons, List.nodup_cons] at hn
    unfold valOf
    rcases List.mem_cons.1 hq with rfl | hq
    · rw [if_pos rfl]
    · rw [if_neg, valOf_eq hn.2 q hq]
      intro he
      exact hn.1 (by rw [he]; exact List.mem_map_of_mem hq)
noncomputable def fin (D : Dw) (qs : List Stp) (l : List Nat) (tm : List Value) : List Value := l.foldl (fun tm i => setT tm (dstI D i) (valOf qs i)) tm
theorem fin_cons (D : Dw) (qs : List Stp) (i : Nat) (l : List Nat) (tm : List Value) : fin D qs (i :: l) tm = fin D qs l (setT tm (dstI D i) (valOf qs i)) := rfl
theorem fin_snoc (D : Dw) (qs : List Stp) (i : Nat) (l : List Nat) (tm : List Value) : fin D qs (l ++ [i]) tm = setT (fin D qs l tm) (dstI D i) (valOf qs i) := by simp [fin]
theorem Tr.fin {D : Dw} {r : K} {qs0 : List Stp} {qs : List Stp} {is : List Nat} {tm tm2 : List Value} {s s2 : St} {lg lg2 : List Lg} (h : Tr D r qs is tm s lg tm2 s2 lg2) (hv : ∀ q ∈ qs, valOf qs0 q.i = q.v) : tm2 = fin D qs0 is tm := by
  induction h with
  | nil => rfl
  | cons h1 h2 h3 h4 h5 ih =>
    rename_i q o qs is tm tm2 s s2 lg lg1 lg2
    rw [fin_cons, hv q (by simp), show dstI D q.i = o.dst by simp [dstI, h1]]
    exact ih (fun q' hq => hv q' (by simp [hq]))
theorem setT_len (tm : List Value) (d : Option Tmp) (v : Value) : (setT tm d v).length = tm.length := by
  cases d with
  | none => rfl
  | some d => simp [setT, su_eq]
theorem fin_len (D : Dw) (qs : List Stp) : ∀ (l : List Nat) (tm : List Value), (fin D qs l tm).length = tm.length
  | [], tm => rfl
  | i :: l, tm => by rw [fin_cons, fin_len D qs l, setT_len]
theorem lk_setT_ne (tm : List Value) (d : Option Tmp) (v : Value) (t : Nat) (h : d ≠ some t) : lk (setT tm d v) t = lk tm t := by
  cases d with
  | none => rfl
  | some d =>
    have : d ≠ t := by rintro rfl; exact h rfl
    simp only [setT, su_eq, lk_eq, List.getD_eq_getElem?_getD, List.getElem?_set_ne this]
theorem lk_setT_eq (tm : List Value) (v : Value) (t : Nat) (h : t < tm.length) : lk (setT tm (some t) v) t = v := by
  simp [setT, su_eq, lk_eq, h]
theorem lk_big (tm : List Value) (t : Nat) (h : tm.length ≤ t) : lk tm t = undef := by
  simp [lk_eq, List.getD_eq_getElem?_getD, List.getElem?_eq_none h]
theorem fin_lk_out (D : Dw) (qs : List Stp) : ∀ (l : List Nat) (tm : List Value) (t : Nat), (∀ i ∈ l, dstI D i ≠ some t) → lk (fin D qs l tm) t = lk tm t
  | [], tm, t, _ => rfl
  | i :: l, tm, t, h => by
    rw [fin_cons, fin_lk_out D qs l _ t (fun j hj => h j (by simp [hj])), lk_setT_ne _ _ _ _ (h i (by simp))]
theorem fin_lk_in (D : Dw) (qs : List Stp) {i t : Nat} (hd : dstI D i = some t) : ∀ (l : List Nat) (tm : List Value), i ∈ l → (∀ j ∈ l, dstI D j = some t → j = i) → t < tm.length → lk (fin D qs l tm) t = valOf qs i
  | [], _, h, _, _ => by simp at h
  | j :: l, tm, h, hu, ht => by
    rw [fin_cons]
    by_cases hin : i ∈ l
    · exact fin_lk_in D qs hd l _ hin (fun k hk => hu k (by simp [hk])) (by rw [setT_len]; exact ht)
    · rcases List.mem_cons.1 h with rfl | h
      · rw [fin_lk_out, hd, lk_setT_eq _ _ _ ht]
        intro k hk he
        have := hu k (by simp [hk]) he
        subst this; exact hin hk
      · exact absurd h hin
theorem fin_agree (D : Dw) (qs : List Stp) {t : Nat} (hu : ∀ i j, dstI D i = some t → dstI D j = some t → i = j) {l1 l2 : List Nat} (h : ∀ i, dstI D i = some t → (i ∈ l1 ↔ i ∈ l2)) (tm : List Value) : lk (fin D qs l1 tm) t = lk (fin D qs l2 tm) t := by
  rcases Nat.lt_or_ge t tm.length with ht | ht
  · by_cases hex : ∃ i, dstI D i = some t ∧ i ∈ l1
    · obtain ⟨i, hi, hin⟩ := hex
      rw [fin_lk_in D qs hi l1 tm hin (fun j _ hj => hu j i hj hi) ht, fin_lk_in D qs hi l2 tm ((h i hi).1 hin) (fun j _ hj => hu j i hj hi) ht]
    · rw [fin_lk_out, fin_lk_out]
      · intro i hi he; exact hex ⟨i, he, (h i he).2 hi⟩
      · intro i hi he; exact hex ⟨i, he, hi⟩
  · rw [lk_big _ _ (by rw [fin_len]; exact ht), lk_big _ _ (by rw [fin_len]; exact ht)]
theorem lk_ext {a b : List Value} (hl : a.length = b.length) (h : ∀ t, lk a t = lk b t) : a = b := by
  apply List.ext_getElem hl
  intro i h1 h2
  have := h i
  simpa [lk_eq, List.getD_eq_getElem?_getD, h1, h2] using this
/-- what an operation looks at is written by those that stand ahead of it, and by none other -/
theorem OrdOK.uniq {D : Dw} {σ : List Nat} (h : OrdOK D.an D.cl D.ops σ) {t : Nat} : ∀ i j, dstI D i = some t → dstI D j = some t → i = j := by
  intro i j hi hj
  false_or_by_contra
  rename_i hne
  unfold dstI at hi hj
  cases hp : D.ops[i]? with
  | none => rw [hp] at hi; cases hi
  | some p =>
    cases ho : D.ops[j]? with
    | none => rw [ho] at hj; cases hj
    | some o =>
      rw [hp] at hi; rw [ho] at hj
      simp only [Option.bind_some] at hi hj
      have h1 := h.opok j o ho
      simp only [okOp, Bool.and_eq_true, List.all_eq_true] at h1
      have h2 := h1.1.1 (p, i) (by rw [List.mem_zipIdx_iff_getElem?]; exact hp)
      simp only [hi, Bool.or_eq_true, beq_iff_eq] at h2
      rcases h2 with h2 | h2
      · exact hne h2
      · simp [tmpsOf, hj] at h2
theorem OrdOK.look {D : Dw} {σ : List Nat} (h : OrdOK D.an D.cl D.ops σ) {i j t : Nat} {o : Oper} (ho : D.ops[j]? = some o) (ht : t ∈ tmpsOf o D.ops) (hi : dstI D i = some t) (hne : i ≠ j) : bit (nthN D.an i) j = true ∨ bit (nthN D.an j) i = true := by
  unfold dstI at hi
  cases hp : D.ops[i]? with
  | none => rw [hp] at hi; cases hi
  | some p =>
    rw [hp] at hi
    simp only [Option.bind_some] at hi
    have h1 := h.opok j o ho
    simp only [okOp, Bool.and_eq_true, List.all_eq_true] at h1
    have h2 := h1.1.1 (p, i) (by rw [List.mem_zipIdx_iff_getElem?]; exact hp)
    simp only [hi, Bool.or_eq_true, beq_iff_eq] at h2
    rcases h2 with h2 | h2
    · exact absurd h2 hne
    · rcases h2 with h2 | h2
      · simp at h2; exact absurd ht h2
      · simp only [Bool.and_eq_true, Bool.or_eq_true] at h2
        exact h2.2
theorem evl_agree {tm tm' : List Value} {o : Oper} {ops : List Oper} (h : ∀ t ∈ tmpsOf o ops, lk tm t = lk tm' t) : ∀ x ∈ o.op.operands, evl tm x = evl tm' x := by
  intro x hx
  cases x with
  | tmp t =>
    refine h t ?_
    simp only [tmpsOf, List.mem_append, List.mem_filterMap]
    exact .inl (.inr ⟨.tmp t, by simpa using hx, rfl⟩)
  | const v => rfl
  | global g => rfl
  | func f => rfl
theorem wantedO_agree {tm tm' : List Value} {o : Oper} {ops : List Oper} (h : ∀ t ∈ tmpsOf o ops, lk tm t = lk tm' t) : wantedO ops tm o.guard = wantedO ops tm' o.guard := by
  cases hg : o.guard with
  | none => rfl
  | some g =>
    obtain ⟨j, want⟩ := g
    simp only [wantedO, nthOp_eq]
    cases hd : dstOf ops[j]? with
    | none => rfl
    | some d =>
      simp only
      rw [h d]
      simp only [tmpsOf, List.mem_append, hg]
      right
      cases ho : ops[j]? with
      | none => rw [ho] at hd; cases hd
      | some p =>
        obtain ⟨pd, _, _, _, _, _⟩ := p
        rw [ho] at hd
        simp only [dstOf] at hd
        simp [hd]
end Go.AM
