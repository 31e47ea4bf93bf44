/- AM, operation by operation: what AM answers, the model answers. -/
import Derived.Test.YtnlbfblcjnpoaaaGreatDoorAmB
import Derived.Laws.Strings
namespace Go.AM
open Go

/-! ## numbers and strings -/
theorem kEq_self (k : IntKind) : kEq k k = true := by cases k <;> rfl
theorem topOf_le (k : IntKind) : topOf k ≤ 2 ^ k.bits := by cases k <;> simp [topOf, IntKind.bits]
theorem bv_small (k : IntKind) {a : Nat} (h : a < topOf k) : (BitVec.ofInt k.bits (Int.ofNat a)).toNat = a := by
  have := topOf_le k
  rw [BitVec.toNat_ofInt]
  simp only [Int.ofNat_eq_natCast]
  rw [Int.emod_eq_of_lt (by omega) (by exact_mod_cast (by omega : a < 2 ^ k.bits))]
  simp
theorem land2_eq (k : IntKind) (a b : Int) : land2 k a b = k.wrap ((BitVec.ofInt k.bits a) &&& (BitVec.ofInt k.bits b)).toNat := by
  cases a with
  | negSucc a => rfl
  | ofNat a => cases b with
    | negSucc b => rfl
    | ofNat b =>
      show (match Nat.blt a (topOf k), Nat.blt b (topOf k) with
        | true, true => Int.ofNat (Nat.land a b)
        | _, _ => k.wrap ((BitVec.ofInt k.bits (.ofNat a)) &&& (BitVec.ofInt k.bits (.ofNat b))).toNat) = _
      split
      · rename_i h1 h2
        rw [Nat.blt_eq] at h1 h2
        rw [BitVec.toNat_and, bv_small k h1, bv_small k h2]
        exact (wrap_small k _ (Nat.lt_of_le_of_lt Nat.and_le_left h1)).symm
      · rfl
theorem lor_lt (k : IntKind) {a b : Nat} (h1 : a < topOf k) (h2 : b < topOf k) : a ||| b < topOf k := by
  have : ∃ n, topOf k = 2 ^ n := by cases k <;> first | exact ⟨7, rfl⟩ | exact ⟨8, rfl⟩ | exact ⟨15, rfl⟩ | exact ⟨16, rfl⟩ | exact ⟨31, rfl⟩ | exact ⟨32, rfl⟩ | exact ⟨63, rfl⟩ | exact ⟨64, rfl⟩
  obtain ⟨n, hn⟩ := this
  rw [hn] at h1 h2 ⊢
  exact Nat.or_lt_two_pow h1 h2
theorem lor2_eq (k : IntKind) (a b : Int) : lor2 k a b = k.wrap ((BitVec.ofInt k.bits a) ||| (BitVec.ofInt k.bits b)).toNat := by
  cases a with
  | negSucc a => rfl
  | ofNat a => cases b with
    | negSucc b => rfl
    | ofNat b =>
      show (match Nat.blt a (topOf k), Nat.blt b (topOf k) with
        | true, true => Int.ofNat (Nat.lor a b)
        | _, _ => k.wrap ((BitVec.ofInt k.bits (.ofNat a)) ||| (BitVec.ofInt k.bits (.ofNat b))).toNat) = _
      split
      · rename_i h1 h2
        rw [Nat.blt_eq] at h1 h2
        rw [BitVec.toNat_or, bv_small k h1, bv_small k h2]
        exact (wrap_small k _ (lor_lt k h1 h2)).symm
      · rfl
theorem landn2_eq (k : IntKind) (a b : Int) : landn2 k a b = k.wrap ((BitVec.ofInt k.bits a) &&& ~~~(BitVec.ofInt k.bits b)).toNat := by
  cases a with
  | negSucc a => rfl
  | ofNat a => cases b with
    | negSucc b => rfl
    | ofNat b =>
      show (match Nat.blt a (topOf k), Nat.blt b (topOf k) with
        | true, true => Int.ofNat (Nat.xor a (Nat.land a b))
        | _, _ => k.wrap ((BitVec.ofInt k.bits (.ofNat a)) &&& ~~~(BitVec.ofInt k.bits (.ofNat b))).toNat) = _
      split
      · rename_i h1 h2
        rw [Nat.blt_eq] at h1 h2
        have e : ((BitVec.ofInt k.bits (.ofNat a)) &&& ~~~(BitVec.ofInt k.bits (.ofNat b))).toNat = a ^^^ (a &&& b) := by
          apply Nat.eq_of_testBit_eq
          intro i
          rw [BitVec.testBit_toNat, BitVec.getLsbD_and, BitVec.getLsbD_not, Nat.testBit_xor, Nat.testBit_and]
          rw [← BitVec.testBit_toNat, ← BitVec.testBit_toNat, bv_small k h1, bv_small k h2]
          by_cases hi : i < k.bits
          · simp only [hi, decide_true, Bool.true_and]
            cases a.testBit i <;> cases b.testBit i <;> rfl
          · have : a.testBit i = false := Nat.testBit_lt_two_pow (Nat.lt_of_lt_of_le (Nat.lt_of_lt_of_le h1 (topOf_le k)) (Nat.pow_le_pow_right (by omega) (by omega)))
            simp [this]
        rw [e]
        have hlt : a ^^^ (a &&& b) < topOf k := by
          have : ∃ n, topOf k = 2 ^ n := by cases k <;> first | exact ⟨7, rfl⟩ | exact ⟨8, rfl⟩ | exact ⟨15, rfl⟩ | exact ⟨16, rfl⟩ | exact ⟨31, rfl⟩ | exact ⟨32, rfl⟩ | exact ⟨63, rfl⟩ | exact ⟨64, rfl⟩
          obtain ⟨n, hn⟩ := this
          rw [hn] at h1 h2 ⊢
          exact Nat.xor_lt_two_pow h1 (Nat.lt_of_le_of_lt Nat.and_le_left h1)
        exact (wrap_small k _ hlt).symm
      · rfl
theorem bytesEq_eq : ∀ x y : List UInt8, bytesEq x y = (x == y)
  | [], [] => rfl
  | [], _ :: _ => rfl
  | _ :: _, [] => rfl
  | a :: x, b :: y => by
    show (match Nat.beq a.toNat b.toNat with | true => bytesEq x y | false => false) = _
    rw [bytesEq_eq x y, List.cons_beq_cons]
    cases h : Nat.beq a.toNat b.toNat with
    | true =>
      rw [Nat.beq_eq] at h
      have : a = b := UInt8.toNat_inj.1 h
      subst this; simp
    | false =>
      have : ¬ a = b := by rintro rfl; simp at h
      simp [this]
theorem lenB_eq (l : List UInt8) : lenB l = l.length := by
  induction l with
  | nil => rfl
  | cons x l ih => show Nat.succ (lenB l) = _; rw [ih]; rfl
theorem catB_eq (a b : List UInt8) : catB a b = a ++ b := by
  induction a with
  | nil => rfl
  | cons x l ih => show x :: catB l b = _; rw [ih]; rfl
theorem dropB_eq (l : List UInt8) : ∀ n, dropB l n = l.drop n := by
  induction l with
  | nil => intro n; simp [dropB]
  | cons x l ih => intro n; cases n with
    | zero => rfl
    | succ n => exact ih n
theorem takeB_eq (l : List UInt8) : ∀ n, takeB l n = l.take n := by
  induction l with
  | nil => intro n; simp [takeB]
  | cons x l ih => intro n; cases n with
    | zero => rfl
    | succ n => show x :: takeB l n = _; rw [ih n]; rfl
theorem nthB_eq (l : List UInt8) : ∀ n, nthB l n = l[n]? := by
  induction l with
  | nil => intro n; simp [nthB]
  | cons x l ih => intro n; cases n with
    | zero => rfl
    | succ n => exact ih n
theorem cellsB_eq (l : List UInt8) : cellsB l = l.map fun x => .int .u8 (.ofNat x.toNat) := by
  induction l with
  | nil => rfl
  | cons x l ih => show _ :: cellsB l = _; rw [ih]; rfl
theorem ba_append (x y : List UInt8) : (⟨⟨x⟩⟩ : ByteArray) ++ ⟨⟨y⟩⟩ = ⟨⟨x ++ y⟩⟩ := by
  apply ByteArray.ext
  simp

section
variable {P : Program} {E : Env} {m : Mp} {s s' : St} {w : World} {n : N} {ev ρ : Operand → Value} {d : Option Tmp} {ty : TypeId} {pos : String} {af : Array Edge} {g : Option (Nat × Bool)}

theorem intop_run {op : BinOp} {k : IntKind} {a b : Int} {v : Value} (ho : isShift op = false) (h : intop op k a b = some v) (t : TypeId) (m : Mp) (w : World) :
    (binOp op t (.int k a) (.int k b)).run P w = .ok v w ∧ VR m v v := by
  cases op with
  | add => injection h with h; subst h; exact ⟨by simp [binOp, Op.intArith, wrapF_eq, iadd_eq], .int _ _⟩
  | sub => injection h with h; subst h; exact ⟨by simp [binOp, Op.intArith, wrapF_eq, isub_eq], .int _ _⟩
  | mul => injection h with h; subst h; exact ⟨by simp [binOp, Op.intArith, wrapF_eq], .int _ _⟩
  | quo =>
    simp only [intop, ieq_eq] at h
    split at h
    · cases h
    · rename_i hb
      injection h with h; subst h
      have : ¬ b = 0 := by rintro rfl; simp at hb
      exact ⟨by simp [binOp, Op.intDiv, wrapF_eq, this], .int _ _⟩
  | rem =>
    simp only [intop, ieq_eq] at h
    split at h
    · cases h
    · rename_i hb
      injection h with h; subst h
      have : ¬ b = 0 := by rintro rfl; simp at hb
      exact ⟨by simp [binOp, Op.intDiv, this], .int _ _⟩
  | and => injection h with h; subst h; exact ⟨by simp [binOp, Op.intBits, land2_eq], .int _ _⟩
  | or => injection h with h; subst h; exact ⟨by simp [binOp, Op.intBits, lor2_eq], .int _ _⟩
  | xor => injection h with h; subst h; exact ⟨by simp [binOp, Op.intBits], .int _ _⟩
  | andNot => injection h with h; subst h; exact ⟨by simp [binOp, Op.intBits, landn2_eq], .int _ _⟩
  | eql => injection h with h; subst h; exact ⟨by simp [binOp, Op.intCmp, ieq_eq], .bool _⟩
  | neq => injection h with h; subst h; exact ⟨by simp [binOp, Op.intCmp, ieq_eq, bne], .bool _⟩
  | lss => injection h with h; subst h; exact ⟨by simp [binOp, Op.intCmp, ilt_eq], .bool _⟩
  | leq => injection h with h; subst h; exact ⟨by simp [binOp, Op.intCmp, ilt_eq, ← Int.not_lt], .bool _⟩
  | gtr => injection h with h; subst h; exact ⟨by simp [binOp, Op.intCmp, ilt_eq], .bool _⟩
  | geq => injection h with h; subst h; exact ⟨by simp [binOp, Op.intCmp, ilt_eq, ← Int.not_lt], .bool _⟩
  | shl => cases ho
  | shr => cases ho
theorem shN_eq (b bits : Nat) : shN b bits = min b bits := by
  unfold shN
  cases h : Nat.ble b bits with
  | true => rw [Nat.ble_eq] at h; simp; omega
  | false =>
    have : ¬ b ≤ bits := by intro h'; rw [(Nat.ble_eq (x := b) (y := bits)).mpr h'] at h; cases h
    simp; omega
theorem shlF_eq (k : IntKind) (a : Int) (n : Nat) : shlF k a n = k.wrap (a * 2 ^ n) := by
  cases a with
  | negSucc a => rfl
  | ofNat a =>
    show wrapF k (.ofNat (Nat.mul a (Nat.pow 2 n))) = _
    rw [wrapF_eq]
    congr 1
theorem shrF_eq (a : Int) (n : Nat) : shrF a n = a.fdiv (2 ^ n) := by
  cases a with
  | negSucc a => rfl
  | ofNat a =>
    show Int.ofNat (Nat.div a (Nat.pow 2 n)) = _
    have : (2 : Int) ^ n = Int.ofNat (2 ^ n) := by simp
    rw [this, Int.fdiv_eq_ediv_of_nonneg (Int.ofNat a) (b := Int.ofNat (2 ^ n)) (Int.natCast_nonneg _)]
    rfl
theorem shift_run {op : BinOp} {k j : IntKind} {a b : Int} {v : Value} (h : shiftop op k a b = some v) (t : TypeId) (m : Mp) (w : World) :
    (binOp op t (.int k a) (.int j b)).run P w = .ok v w ∧ VR m v v := by
  cases b with
  | negSucc b => cases h
  | ofNat b =>
    have hb : ¬ (b : Int) < 0 := by omega
    cases op with
    | shl => injection h with h; subst h; exact ⟨by simp [binOp, Op.shift, hb, shlF_eq, shN_eq], .int _ _⟩
    | shr => injection h with h; subst h; exact ⟨by simp [binOp, Op.shift, hb, shrF_eq, shN_eq], .int _ _⟩
    | _ => cases h
theorem strop_run {op : BinOp} {a b : ByteArray} {v : Value} (h : strop op a b = some v) (t : TypeId) (m : Mp) (w : World) :
    (binOp op t (.string a) (.string b)).run P w = .ok v w ∧ VR m v v := by
  cases op with
  | add =>
    obtain ⟨⟨x⟩⟩ := a
    obtain ⟨⟨y⟩⟩ := b
    simp only [strop] at h
    split at h
    · rename_i hl
      injection h with h; subst h
      rw [Nat.blt_eq, lenB_eq, lenB_eq] at hl
      have hl' : x.length + y.length < 9223372036854775808 := hl
      refine ⟨?_, .string _⟩
      simp only [binOp, Op.stringOp]
      rw [if_neg]
      · rw [Sem.run_pure, catB_eq, ba_append]
      · have : IntKind.i64.max = 9223372036854775807 := by decide
        rw [this]
        have : (⟨⟨x⟩⟩ : ByteArray).size = x.length := rfl
        have : (⟨⟨y⟩⟩ : ByteArray).size = y.length := rfl
        omega
    · cases h
  | eql => injection h with h; subst h; exact ⟨by simp [binOp, Op.stringOp, bytesEq_eq, ByteArray.toList_eq], .bool _⟩
  | neq => injection h with h; subst h; exact ⟨by simp [binOp, Op.stringOp, bytesEq_eq, ByteArray.toList_eq], .bool _⟩
  | _ => cases h
theorem eqPtr_run {esz : Nat} {a b a' b' : Option Addr} {c : Bool} (h : eqPtr esz a b = some c) (dd : Nat) (hx : VR m (.pointer a) (.pointer a')) (hy : VR m (.pointer b) (.pointer b')) {t e : TypeId} (ht : P.underlying t = some (.pointer e)) (he : SizeIs P e esz) (w : World) :
    (Op.equalIn (dd + 1) t (.pointer a') (.pointer b')).run P w = .ok c w := by
  cases hx with
  | ptrNil =>
    cases hy with
    | ptrNil => injection h with h; subst h; simp [Op.equalIn, run_underlying ht]
    | ptr o hm => injection h with h; subst h; simp [Op.equalIn, run_underlying ht]
  | ptr o hm =>
    cases hy with
    | ptrNil => injection h with h; subst h; simp [Op.equalIn, run_underlying ht]
    | ptr o' hm' =>
      simp only [eqPtr] at h
      split at h
      · rename_i h1 h2
        injection h with h; subst h
        rw [Nat.beq_eq] at h1
        subst h1
        rw [hm] at hm'; injection hm' with hm'; injection hm' with hm' _; subst hm'
        have hne : ¬ esz = 0 := by rintro rfl; cases h2
        simp only [Op.equalIn, Sem.run_bind, run_underlying ht, Result.andThen_ok, run_size he, hne, ne_eq, not_false_eq_true, if_true, sameAddr, beq_self_eq_true, Sem.run_pure]
        congr 1
        rw [Bool.eq_iff_iff]
        simp
      · cases h
end
end Go.AM

namespace Go.AM
open Go
section
variable {P : Program} {E : Env} {m : Mp} {s s' : St} {w : World} {n : N} {ev ρ : Operand → Value} {d : Option Tmp} {ty : TypeId} {pos : String} {af : Array Edge} {g : Option (Nat × Bool)}

theorem eqNil_cases {α : Type} {a b : Option α} {c : Bool} (h : eqNil a b = some c) : (a.isNone ∨ b.isNone) ∧ c = (a.isNone && b.isNone) := by
  cases a <;> cases b <;> simp_all [eqNil]
theorem veq_run (hE : EnvOK P E) {t : TypeId} {c b : Bool} {x y x' y' : Value} (h : veq E t c x y = some b) (dd : Nat) (hx : VR m x x') (hy : VR m y y') (w : World) :
    (Op.equalIn (dd + 1) t x' y').run P w = .ok b w ∧ (x' = .nilIface → y' = .nilIface → c = true) ∧ (∀ cs, x' ≠ .agg cs) ∧ (∀ k n, x' ≠ .int k n) ∧ (∀ s, x' ≠ .string s) ∧ (∀ k n, x' ≠ .float k n) ∧ (∀ k a b, x' ≠ .complex k a b) := by
  unfold veq at h
  split at h
  · rename_i hk
    have k1 := kr_of hE hk (by simp)
    cases x with
    | bool a => cases y with
      | bool a' =>
        cases hx; cases hy
        injection h with h; subst h
        have k1 : P.underlying t = some .bool := k1
        refine ⟨by simp [Op.equalIn, run_underlying k1], ?_, ?_, ?_, ?_, ?_, ?_⟩ <;> simp
      | _ => cases h
    | _ => cases h
  · rename_i e esz hk
    obtain ⟨k1, k2⟩ : KR P t (.ptr e esz) := kr_of hE hk (by simp)
    cases x with
    | pointer a => cases y with
      | pointer a' =>
        cases hx' : x' <;> rw [hx'] at hx <;> try (cases hx; done)
        cases hy' : y' <;> rw [hy'] at hy <;> try (cases hy; done)
        refine ⟨eqPtr_run h dd hx hy k1 k2 w, ?_, ?_, ?_, ?_, ?_, ?_⟩ <;> simp
      | _ => cases h
    | _ => cases h
  · rename_i e esz eb hk
    obtain ⟨k1, _⟩ : KR P t (.slice e esz eb) := kr_of hE hk (by simp)
    cases x with
    | slice a l k => cases y with
      | slice a' l' k' =>
        obtain ⟨h1, h2⟩ := eqNil_cases h
        subst h2
        cases hx <;> cases hy <;> simp at h1 <;>
        refine ⟨by simp [Op.equalIn, run_underlying k1], ?_, ?_, ?_, ?_, ?_, ?_⟩ <;> simp
      | _ => cases h
    | _ => cases h
  · rename_i kt e hk
    have k1 : P.underlying t = some (.map kt e) := kr_of hE hk (by simp)
    cases x with
    | map a => cases y with
      | map a' =>
        obtain ⟨h1, h2⟩ := eqNil_cases h
        subst h2
        cases hx <;> cases hy <;> simp at h1 <;>
        refine ⟨by simp [Op.equalIn, run_underlying k1], ?_, ?_, ?_, ?_, ?_, ?_⟩ <;> simp
      | _ => cases h
    | _ => cases h
  · rename_i hk
    obtain ⟨a1, a2, a3, k1⟩ : KR P t .func := kr_of hE hk (by simp)
    split at h
    · cases hx
      split at h
      · cases hy; injection h with h; subst h
        refine ⟨by simp [Op.equalIn, run_underlying k1], ?_, ?_, ?_, ?_, ?_, ?_⟩ <;> simp
      · cases hy; injection h with h; subst h
        refine ⟨by simp [Op.equalIn, run_underlying k1], ?_, ?_, ?_, ?_, ?_, ?_⟩ <;> simp
      · cases h
    · cases hx
      split at h
      · cases hy; injection h with h; subst h
        refine ⟨by simp [Op.equalIn, run_underlying k1], ?_, ?_, ?_, ?_, ?_, ?_⟩ <;> simp
      · cases h
    · cases h
  · rename_i hk
    obtain ⟨ms, k1⟩ : KR P t .iface := kr_of hE hk (by simp)
    split at h
    · cases hx
      split at h
      · cases hy
        cases c with
        | true =>
          injection h with h; subst h
          refine ⟨by simp [Op.equalIn, run_underlying k1], ?_, ?_, ?_, ?_, ?_, ?_⟩ <;> simp
        | false => cases h
      · cases hy; injection h with h; subst h
        refine ⟨by simp [Op.equalIn, run_underlying k1], ?_, ?_, ?_, ?_, ?_, ?_⟩ <;> simp
      · cases h
    · cases hx
      split at h
      · cases hy; injection h with h; subst h
        refine ⟨by simp [Op.equalIn, run_underlying k1], ?_, ?_, ?_, ?_, ?_, ?_⟩ <;> simp
      · cases h
    · cases h
  · cases h
theorem guard_run {op : BinOp} {t : TypeId} {x y : Operand} {a b : Value} (h : a = .nilIface → b = .nilIface → (isC x || isC y) = true) (h2 : ∀ cs, a ≠ .agg cs) (w : World) :
    (eqGuard op t x y a b).run P w = .ok () w := by
  unfold eqGuard
  split
  all_goals simp only [Bool.not_true, Bool.not_false, Bool.false_eq_true, if_false, if_true]
  all_goals first
    | rfl
    | (split
       · have := h rfl rfl
         rw [if_pos]
         · rfl
         · cases x <;> cases y <;> simp_all [isC]
       · exact absurd rfl (h2 _)
       · rfl)
theorem op_bin (hE : EnvOK P E) (r : Rel m s w) (hρ : ER m ev ρ) (op : BinOp) (t yt : TypeId) (x y : Operand) (h : hBin op t x y E s ev = some (n, s')) :
    OpR P m s w n s' ((execOp ρ ⟨d, .binOp op t x y yt, ty, pos, af, g⟩).run P w) := by
  have hx := hρ x
  have hy := hρ y
  unfold hBin valO at h
  cases hb : binop E op t (isC x || isC y) (ev x) (ev y) with
  | none => rw [hb] at h; cases h
  | some v =>
    rw [hb] at h; injection h with h; injection h with h1 h2; subst h1; subst h2
    have fin : ∀ v', (eqGuard op t x y (ρ x) (ρ y)).run P w = .ok () w → (binOp op t (ρ x) (ρ y)).run P w = .ok v' w → VR m v v' →
        OpR P m s w (.v v) s ((execOp ρ ⟨d, .binOp op t x y yt, ty, pos, af, g⟩).run P w) := by
      intro v' q1 q2 q3
      simp only [execOp, Sem.run_bind, q1, q2, Result.andThen_ok, Sem.run_pure]
      exact .same r q3
    unfold binop at hb
    split at hb
    · rename_i k a hkx
      rw [hkx] at hx
      split at hb
      · rename_i j b hky
        rw [hky] at hy
        cases hx' : ρ x <;> rw [hx'] at hx <;> cases hx
        cases hy' : ρ y <;> rw [hy'] at hy <;> cases hy
        have q1 : (eqGuard op t x y (ρ x) (ρ y)).run P w = .ok () w := guard_run (by rw [hx']; intro h; cases h) (by rw [hx']; simp) w
        cases hs : isShift op with
        | true =>
          rw [hs] at hb
          obtain ⟨q2, q3⟩ := shift_run (P := P) (j := j) hb t m w
          exact fin v q1 (by rw [hx', hy']; exact q2) q3
        | false =>
          rw [hs] at hb
          simp only at hb
          cases hk : kEq k j with
          | false => rw [hk] at hb; cases hb
          | true =>
            rw [hk] at hb
            have := kEq_eq hk
            subst this
            obtain ⟨q2, q3⟩ := intop_run (P := P) hs hb t m w
            exact fin v q1 (by rw [hx', hy']; exact q2) q3
      · cases hb
    · rename_i a hkx
      rw [hkx] at hx
      split at hb
      · rename_i b hky
        rw [hky] at hy
        cases hx' : ρ x <;> rw [hx'] at hx <;> cases hx
        cases hy' : ρ y <;> rw [hy'] at hy <;> cases hy
        have q1 : (eqGuard op t x y (ρ x) (ρ y)).run P w = .ok () w := guard_run (by rw [hx']; intro h; cases h) (by rw [hx']; simp) w
        obtain ⟨q2, q3⟩ := strop_run (P := P) hb t m w
        exact fin v q1 (by rw [hx', hy']; exact q2) q3
      · cases hb
    · unfold eqop at hb
      split at hb
      · cases hv : veq E t (isC x || isC y) (ev x) (ev y) with
        | none => rw [hv] at hb; cases hb
        | some b =>
          rw [hv] at hb; injection hb with hb; subst hb
          obtain ⟨q1, q2, q3, q4, q5, q6, q7⟩ := veq_run hE hv 9999 hx hy w
          refine fin _ (guard_run q2 q3 w) ?_ (.bool b)
          have e : binOp .eql t (ρ x) (ρ y) = (do pure (.bool (← Op.equal t (ρ x) (ρ y)))) := by
            cases hx' : ρ x <;> first | rfl | exact absurd hx' (q4 _ _) | exact absurd hx' (q5 _) | exact absurd hx' (q6 _ _) | exact absurd hx' (q7 _ _ _)
          rw [e]
          have q1' : (Op.equal t (ρ x) (ρ y)).run P w = .ok b w := q1
          simp only [Sem.run_bind, q1', Result.andThen_ok, Sem.run_pure]
      · cases hv : veq E t (isC x || isC y) (ev x) (ev y) with
        | none => rw [hv] at hb; cases hb
        | some b =>
          rw [hv] at hb; injection hb with hb; subst hb
          obtain ⟨q1, q2, q3, q4, q5, q6, q7⟩ := veq_run hE hv 9999 hx hy w
          refine fin _ (guard_run q2 q3 w) ?_ (.bool (!b))
          have e : binOp .neq t (ρ x) (ρ y) = (do pure (.bool (!(← Op.equal t (ρ x) (ρ y))))) := by
            cases hx' : ρ x <;> first | rfl | exact absurd hx' (q4 _ _) | exact absurd hx' (q5 _) | exact absurd hx' (q6 _ _) | exact absurd hx' (q7 _ _ _)
          rw [e]
          have q1' : (Op.equal t (ρ x) (ρ y)).run P w = .ok b w := q1
          simp only [Sem.run_bind, q1', Result.andThen_ok, Sem.run_pure]
      · cases hb
theorem op_un (r : Rel m s w) (hρ : ER m ev ρ) (op : UnOp) (t : TypeId) (x : Operand) (h : hUn op x E s ev = some (n, s')) :
    OpR P m s w n s' ((execOp ρ ⟨d, .unOp op t x, ty, pos, af, g⟩).run P w) := by
  have hx := hρ x
  unfold hUn valO unop at h
  cases op with
  | neg =>
    cases hkx : ev x with
    | int k a =>
      rw [hkx] at hx h
      injection h with h; injection h with h1 h2; subst h1; subst h2
      cases hx' : ρ x <;> rw [hx'] at hx <;> cases hx
      simp only [execOp, hx', Op.unary, Op.intArith, Sem.run_bind, Sem.run_pure, Result.andThen_ok, wrapF_eq, isub_eq]
      exact .same r (.int _ _)
    | _ => rw [hkx] at h; cases h
  | not =>
    cases hkx : ev x with
    | bool b =>
      rw [hkx] at hx h
      injection h with h; injection h with h1 h2; subst h1; subst h2
      cases hx' : ρ x <;> rw [hx'] at hx <;> cases hx
      simp only [execOp, hx', Op.unary, Sem.run_bind, Sem.run_pure, Result.andThen_ok]
      exact .same r (.bool _)
    | _ => rw [hkx] at h; cases h
  | _ => cases h
theorem op_iface (hE : EnvOK P E) (r : Rel m s w) (hρ : ER m ev ρ) (t : TypeId) (x : Operand) (h : hIface t x E s ev = some (n, s')) :
    OpR P m s w n s' ((execOp ρ ⟨d, .makeInterface t x, ty, pos, af, g⟩).run P w) := by
  have hx := hρ x
  unfold hIface oIface at h
  have fin : ∀ D, P.underlying t = some D → (∀ ms, D ≠ .interface ms) → OpR P m s w (.v (.iface t (ev x))) s ((execOp ρ ⟨d, .makeInterface t x, ty, pos, af, g⟩).run P w) := by
    intro D h1 h2
    have : (execOp ρ ⟨d, .makeInterface t x, ty, pos, af, g⟩).run P w = .ok (.value (.iface t (ρ x))) w := by
      simp only [execOp, Instr.makeInterface, Sem.run_bind, run_underlying h1, Result.andThen_ok]
      cases D <;> first | exact absurd rfl (h2 _) | rfl
    rw [this]
    exact .same r (.iface t hx)
  cases hk : tkOf E t with
  | iface => rw [hk] at h; cases h
  | other => rw [hk] at h; cases h
  | struct fs =>
    rw [hk] at h; injection h with h; injection h with h1 h2; subst h1; subst h2
    obtain ⟨gs, k1, _⟩ := kr_of hE hk (by simp)
    exact fin _ k1 (by simp)
  | func =>
    rw [hk] at h; injection h with h; injection h with h1 h2; subst h1; subst h2
    obtain ⟨_, _, _, k1⟩ := kr_of hE hk (by simp)
    exact fin _ k1 (by simp)
  | ptr e n => rw [hk] at h; injection h with h; injection h with h1 h2; subst h1; subst h2; exact fin _ (kr_of hE hk (by simp)).1 (by simp)
  | slice e n b => rw [hk] at h; injection h with h; injection h with h1 h2; subst h1; subst h2; exact fin _ (kr_of hE hk (by simp)).1 (by simp)
  | array l e n => rw [hk] at h; injection h with h; injection h with h1 h2; subst h1; subst h2; exact fin _ (kr_of hE hk (by simp)).1 (by simp)
  | _ => rw [hk] at h; injection h with h; injection h with h1 h2; subst h1; subst h2; exact fin _ (kr_of hE hk (by simp)) (by simp)
theorem op_map (r : Rel m s w) (t : TypeId) (x : Option Operand) (h : hMap x E s ev = some (n, s')) :
    OpR P m s w n s' ((execOp ρ ⟨d, .makeMap t x, ty, pos, af, g⟩).run P w) := by
  cases x with
  | some x => cases h
  | none =>
    injection h with h; injection h with h1 h2; subst h1; subst h2
    obtain ⟨r', x'⟩ := r.new (o := .map [] 0) (o' := .map #[] 0) (n := 0) (.map 0 0 .nil)
    have : (execOp ρ ⟨d, .makeMap t none, ty, pos, af, g⟩).run P w = .ok (.value (.map (some w.heap.size))) (pushW w (.map #[] 0)) := by
      simp only [execOp, Instr.makeMap, Option.map_none, Sem.run_bind, Sem.run_pure, Result.andThen_ok, run_newObj]
      rfl
    rw [this]
    exact .v (.map (setM_self _ _ _)) r' x'
theorem op_extract (r : Rel m s w) (hρ : ER m ev ρ) (x : Operand) (i : Nat) (h : hExtract x i E s ev = some (n, s')) :
    OpR P m s w n s' ((execOp ρ ⟨d, .extract x i, ty, pos, af, g⟩).run P w) := by
  have hx := hρ x
  unfold hExtract oExtract at h
  split at h
  · rename_i vs hk
    rw [hk] at hx
    rw [nthV_eq] at h
    cases hv : vs[i]? with
    | none => rw [hv] at h; cases h
    | some v =>
      rw [hv] at h; injection h with h; injection h with h1 h2; subst h1; subst h2
      cases hy : ρ x <;> rw [hy] at hx <;> cases hx
      rename_i ys hs
      obtain ⟨v', q1, q2⟩ := hs.get i hv
      have : (⟨ys⟩ : Array Value)[i]? = some v' := by simpa using q1
      simp only [execOp, hy, Instr.extract, this, Sem.run_bind, Sem.run_pure, Result.andThen_ok]
      exact .same r q2
  · cases h
theorem op_panic (hρ : ER m ev ρ) (x : Operand) (h : hPanic x E s ev = some (n, s')) :
    OpR P m s w n s' ((execOp ρ ⟨d, .panic x, ty, pos, af, g⟩).run P w) := by
  have hx := hρ x
  unfold hPanic oPanic at h
  split at h
  · rename_i t v hk
    rw [hk] at hx
    injection h with h; injection h with h1 h2; subst h1; subst h2
    cases hy : ρ x <;> rw [hy] at hx <;> cases hx
    rename_i hv
    have : (execOp ρ ⟨d, .panic x, ty, pos, af, g⟩).run P w = .halt (.panic (ρ x)) w := by
      simp only [execOp, hy, Instr.panic, goPanic, Sem.run_bind]
      rfl
    rw [this, hy]
    exact .panic (.iface t hv)
  · cases h
theorem op_defer (hρ : ER m ev ρ) (c : Call) (h : hDefer c E s ev = some (n, s')) :
    OpR P m s w n s' ((execOp ρ ⟨d, .defer c, ty, pos, af, g⟩).run P w) := by
  unfold hDefer oDefer at h
  obtain ⟨callee, ⟨args⟩, tys⟩ := c
  simp only at h
  split at h
  · rename_i f
    have hf := hρ f
    split at h
    · rename_i fn first cap hk
      rw [hk] at hf
      split at h
      · rename_i g'
        injection h with h; injection h with h1 h2; subst h1; subst h2
        cases hy : ρ f <;> rw [hy] at hf <;> cases hf
        rename_i hc ha hg
        cases hg
        rename_i f1 _ c1
        have : (execOp ρ ⟨d, .defer ⟨.value f, ⟨args⟩, tys⟩, ty, pos, af, g⟩).run P w = .ok (.defer ⟨.fn (.func g') ⟨c1⟩, ⟨f1 ++ args.map ρ⟩⟩) w := by
          simp only [execOp, resolve, hy, Deferred.ofValue, Sem.run_bind, Sem.run_pure, Result.andThen_ok]
          simp
        rw [this]
        rw [catV_eq, mapV_eq]
        exact .defer hc (ha.append (VRs.map hρ _))
      · cases h
    · cases h
  · cases h
end
end Go.AM

namespace Go.AM
open Go
section
variable {P : Program} {E : Env} {m : Mp} {s s' : St} {w : World} {n : N} {ev ρ : Operand → Value} {d : Option Tmp} {ty : TypeId} {pos : String} {af : Array Edge} {g : Option (Nat × Bool)}

theorem wrapV_known {k : TK} {vs : List Value} {v : Value} (h : wrapV k vs = some v) : k ≠ .other := by
  rintro rfl; cases h
theorem below_some {v : Value} {n i : Nat} (h : below v n = some i) : (∃ k, v = .int k (.ofNat i)) ∧ i < n := by
  unfold below at h
  split at h
  · split at h
    · rename_i hb
      injection h with h; subst h
      rw [Nat.blt_eq] at hb
      exact ⟨⟨_, rfl⟩, hb⟩
    · cases h
  · cases h
theorem upTo_some {v : Value} {n i : Nat} (h : upTo v n = some i) : (∃ k, v = .int k (.ofNat i)) ∧ i ≤ n := by
  unfold upTo at h
  split at h
  · split at h
    · rename_i hb
      injection h with h; subst h
      rw [Nat.ble_eq] at hb
      exact ⟨⟨_, rfl⟩, hb⟩
    · cases h
  · cases h
theorem VR.int_inv {k : IntKind} {i : Int} {y : Value} (h : VR m (.int k i) y) : y = .int k i := by cases h; rfl
theorem VR.string_inv {b : ByteArray} {y : Value} (h : VR m (.string b) y) : y = .string b := by cases h; rfl
theorem VR.ptr_inv {k o : Nat} {y : Value} (h : VR m (.pointer (some ⟨k, o, none⟩)) y) : ∃ b n, y = .pointer (some ⟨b, o, none⟩) ∧ m k = some (b, n) := by
  cases h; rename_i hm; exact ⟨_, _, rfl, hm⟩
/-- a part of a value -/
theorem part_run (hE : EnvOK P E) {t sz off : Nat} {cs ys vs : List Value} {v : Value} (hs : SizeIs P t sz) (hv : VRs m cs ys) (hp : ∀ x ∈ cs, isCell x = true)
    (h : takeV (dropV cs off) sz = some vs) (hw : wrapV (tkOf E t) vs = some v) (w : World) : ∃ v', (part t ⟨ys⟩ off).run P w = .ok v' w ∧ VR m v v' := by
  have hk := kr_of hE rfl (wrapV_known hw)
  obtain ⟨g1, g2⟩ := takeV_some h
  rw [dropV_eq] at g1 g2
  have hlen := hv.length
  have hvs : VRs m vs ((ys.drop off).take sz) := by rw [g2]; exact (hv.drop off).take sz
  have hc : ∀ x ∈ vs, isCell x = true := by
    intro x hx; rw [g2] at hx; exact hp x (List.mem_of_mem_drop (List.mem_of_mem_take hx))
  rcases wrapV_rel hw hvs hc with ⟨q1, q2⟩ | ⟨q1, y, q2, q3⟩
  · refine ⟨_, ?_, q2⟩
    simp only [part, Sem.run_bind, run_isAgg hk w, q1, Result.andThen_ok, if_true, run_size hs w, Sem.run_pure]
    congr 2
    apply Array.ext'
    rw [Array.toList_extract]
    simp [List.extract_eq_take_drop]
  · refine ⟨y, ?_, q3⟩
    have hy : (⟨ys⟩ : Array Value)[off]? = some y := by
      have h2 := congrArg (·[0]?) q2
      simp only [List.getElem?_take, List.getElem?_drop] at h2
      split at h2
      · simpa using h2
      · simp at h2
    simp only [part, Sem.run_bind, run_isAgg hk w, q1, Result.andThen_ok, Bool.false_eq_true, if_false, hy, Sem.run_pure]
theorem field_of {fs : List (Nat × Nat × Nat)} {t i off ft sz : Nat} (hk : KR P t (.struct fs)) (h : nthF fs i = some (off, ft, sz)) :
    ∃ gs f, P.underlying t = some (.struct gs) ∧ gs[i]? = some f ∧ f.offset = off ∧ f.type = ft ∧ SizeIs P ft sz := by
  obtain ⟨gs, k1, k2, k3⟩ := hk
  rw [nthF_eq] at h
  have hi := congrArg (·[i]?) k2
  simp only [List.getElem?_map, h, Option.map_some] at hi
  cases hg : gs.toList[i]? with
  | none => rw [hg] at hi; simp at hi
  | some f =>
    rw [hg] at hi
    simp only [Option.map_some, Option.some.injEq, Prod.mk.injEq] at hi
    exact ⟨gs, f, k1, by simpa using hg, hi.1, hi.2, k3 _ (List.mem_of_getElem? h)⟩
theorem op_fieldAddr (hE : EnvOK P E) (r : Rel m s w) (hρ : ER m ev ρ) (t : TypeId) (x : Operand) (i : Nat) (h : hFieldAddr t x i E s ev = some (n, s')) :
    OpR P m s w n s' ((execOp ρ ⟨d, .fieldAddr t x i, ty, pos, af, g⟩).run P w) := by
  have hx := hρ x
  unfold hFieldAddr oFieldAddr at h
  split at h
  · rename_i b o hkx
    rw [hkx] at hx
    split at h
    · rename_i fs hk
      split at h
      · rename_i off ft sz hf
        split at h
        · rename_i hz
          injection h with h; injection h with h1 h2; subst h1; subst h2
          obtain ⟨gs, f, q1, q2, q3, q4, q5⟩ := field_of (kr_of hE hk (by simp)) hf
          obtain ⟨b', nn, e1, e2⟩ := hx.ptr_inv
          have hne : ¬ sz = 0 := by rintro rfl; cases hz
          subst q4
          simp only [execOp, e1, Instr.fieldAt, Instr.sureAddr, fieldPlace, Sem.run_bind, Sem.run_pure, Result.andThen_ok, run_underlying q1, q2, run_size q5 w, if_neg hne, addr_add, q3]
          exact .same r (.ptr _ e2)
        · cases h
      · cases h
    · cases h
  · cases h
theorem op_field (hE : EnvOK P E) (r : Rel m s w) (hρ : ER m ev ρ) (t : TypeId) (x : Operand) (i : Nat) (h : hField t x i E s ev = some (n, s')) :
    OpR P m s w n s' ((execOp ρ ⟨d, .field t x i, ty, pos, af, g⟩).run P w) := by
  have hx := hρ x
  unfold hField oField at h
  split at h
  · rename_i cs hkx
    rw [hkx] at hx
    split at h
    · rename_i fs hk
      split at h
      · rename_i off ft sz hf
        split at h
        · rename_i vs hv
          split at h
          · rename_i v hw
            injection h with h; injection h with h1 h2; subst h1; subst h2
            obtain ⟨gs, f, q1, q2, q3, q4, q5⟩ := field_of (kr_of hE hk (by simp)) hf
            cases hy : ρ x <;> rw [hy] at hx <;> cases hx
            rename_i ys hs hp
            obtain ⟨v', e1, e2⟩ := part_run hE q5 hs hp hv hw w
            subst q4
            simp only [execOp, hy, Instr.field, asAgg, Sem.run_bind, Sem.run_pure, Result.andThen_ok, run_underlying q1, q2, q3, e1]
            exact .same r e2
          · cases h
        · cases h
      · cases h
    · cases h
  · cases h
theorem op_indexAddr (hE : EnvOK P E) (r : Rel m s w) (hρ : ER m ev ρ) (t : TypeId) (x i : Operand) (h : hIndexAddr t x i E s ev = some (n, s')) :
    OpR P m s w n s' ((execOp ρ ⟨d, .indexAddr t x i, ty, pos, af, g⟩).run P w) := by
  have hx := hρ x
  have hi := hρ i
  unfold hIndexAddr oIndexAddr at h
  split at h
  · rename_i l e esz hk
    obtain ⟨k1, k2⟩ : KR P t (.array l e esz) := kr_of hE hk (by simp)
    split at h
    · rename_i b o hkx
      rw [hkx] at hx
      split at h
      · rename_i j hj
        injection h with h; injection h with h1 h2; subst h1; subst h2
        obtain ⟨⟨k, e0⟩, hlt⟩ := below_some hj
        rw [e0] at hi
        obtain ⟨b', nn, e1, e2⟩ := hx.ptr_inv
        simp only [execOp, e1, hi.int_inv, Instr.indexAt, Instr.sureAddr, asIntOf, Sem.run_bind, Sem.run_pure, Result.andThen_ok, run_underlying k1]
        rw [if_pos ⟨by simp, by simpa using hlt⟩]
        simp only [Sem.run_bind, Sem.run_pure, Result.andThen_ok, run_size k2 w, addr_add]
        exact .same r (.ptr _ e2)
      · cases h
    · cases h
  · rename_i e esz eb hk
    obtain ⟨k1, k2⟩ : KR P t (.slice e esz eb) := kr_of hE hk (by simp)
    have k2 : SizeIs P e esz := let ⟨i, a, b, _⟩ := k2; ⟨i, a, b⟩
    split at h
    · rename_i b o sp len cap hkx
      rw [hkx] at hx
      split at h
      · rename_i j hj
        injection h with h; injection h with h1 h2; subst h1; subst h2
        obtain ⟨⟨k, e0⟩, hlt⟩ := below_some hj
        rw [e0] at hi
        have : ∃ b' nn c', ρ x = .slice (some ⟨b', o, none⟩) len c' ∧ m b = some (b', nn) := by
          cases hy : ρ x <;> rw [hy] at hx <;> cases hx
          · rename_i hm; exact ⟨_, _, _, rfl, hm⟩
          · rename_i hm _ _; exact ⟨_, _, _, rfl, hm⟩
        obtain ⟨b', nn, c', e1, e2⟩ := this
        simp only [execOp, e1, hi.int_inv, Instr.indexAt, asIntOf, Sem.run_bind, Sem.run_pure, Result.andThen_ok, run_underlying k1]
        rw [if_pos ⟨by simp, by simpa using hlt⟩]
        simp only [Sem.run_bind, Sem.run_pure, Result.andThen_ok, run_size k2 w, addr_add]
        exact .same r (.ptr _ e2)
      · cases h
    · cases h
  · cases h
theorem op_index (hE : EnvOK P E) (r : Rel m s w) (hρ : ER m ev ρ) (t : TypeId) (x i : Operand) (h : hIndex t x i E s ev = some (n, s')) :
    OpR P m s w n s' ((execOp ρ ⟨d, .index t x i, ty, pos, af, g⟩).run P w) := by
  have hx := hρ x
  have hi := hρ i
  unfold hIndex oIndex at h
  split at h
  · rename_i l e esz hk
    obtain ⟨k1, k2⟩ : KR P t (.array l e esz) := kr_of hE hk (by simp)
    split at h
    · rename_i cs hkx
      rw [hkx] at hx
      split at h
      · rename_i j hj
        split at h
        · rename_i vs hv
          split at h
          · rename_i v hw
            injection h with h; injection h with h1 h2; subst h1; subst h2
            obtain ⟨⟨k, e0⟩, hlt⟩ := below_some hj
            rw [e0] at hi
            cases hy : ρ x <;> rw [hy] at hx <;> cases hx
            rename_i ys hs hp
            obtain ⟨v', e1, e2⟩ := part_run hE k2 hs hp hv hw w
            simp only [execOp, hy, hi.int_inv, Instr.index, asIntOf, Sem.run_bind, Sem.run_pure, Result.andThen_ok, run_underlying k1]
            rw [if_pos ⟨by simp, by simpa using hlt⟩]
            have e1' : (part e ⟨ys⟩ ((Int.ofNat j).toNat * esz)).run P w = .ok v' w := e1
            simp only [Sem.run_bind, Result.andThen_ok, run_size k2 w, e1']
            exact .same r e2
          · cases h
        · cases h
      · cases h
    · cases h
  · rename_i hk
    have k1 : P.underlying t = some .string := kr_of hE hk (by simp)
    split at h
    · rename_i l hkx
      rw [hkx] at hx
      split at h
      · rename_i j hj
        rw [nthB_eq] at h
        split at h
        · rename_i c hc
          injection h with h; injection h with h1 h2; subst h1; subst h2
          obtain ⟨⟨k, e0⟩, hlt⟩ := below_some hj
          rw [e0] at hi
          have hget : (⟨⟨l⟩⟩ : ByteArray)[j]? = some c := by
            rw [lenB_eq] at hlt
            have hsz : j < (⟨⟨l⟩⟩ : ByteArray).size := hlt
            rw [getElem?_pos (⟨⟨l⟩⟩ : ByteArray) j hsz]
            have : l[j]? = some c := hc
            rw [List.getElem?_eq_getElem hlt] at this
            exact this
          simp only [execOp, hx.string_inv, hi.int_inv, Instr.index, asIntOf, Sem.run_bind, Sem.run_pure, Result.andThen_ok, run_underlying k1]
          rw [if_pos (by simp)]
          have hget' : (⟨⟨l⟩⟩ : ByteArray)[(Int.ofNat j).toNat]? = some c := hget
          simp only [hget', Sem.run_pure, Result.andThen_ok]
          exact .same r (.int _ _)
        · cases h
      · cases h
    · cases h
  · cases h
end
end Go.AM

namespace Go.AM
open Go
section
variable {P : Program} {E : Env} {m : Mp} {s s' : St} {w : World} {n : N} {ev ρ : Operand → Value} {d : Option Tmp} {ty : TypeId} {pos : String} {af : Array Edge} {g : Option (Nat × Bool)}

/-! ## pieces of slices -/
/-- how the bounds stand on both sides -/
theorem bound_run {k : IntKind} {i y : Nat} {code : BoundsCode} (h : i ≤ y) (w : World) : (Instr.sliceBound (.int k (.ofNat i)) y code).run P w = .ok i w := by
  simp only [Instr.sliceBound, asIntOf, Sem.run_bind, Sem.run_pure, Result.andThen_ok]
  rw [if_pos ⟨by simp, by simpa using h⟩]
  rfl
inductive OV (m : Mp) : Option Value → Option Value → Prop
  | none : OV m none none
  | some {x y : Value} : VR m x y → OV m (some x) (some y)
theorem OV.of (hρ : ER m ev ρ) (x : Option Operand) : OV m (mapO ev x) (x.map ρ) := by
  cases x with
  | none => exact .none
  | some x => exact .some (hρ x)
theorem lo_cases {lo lo' : Option Value} {h l : Nat} (hl : OV m lo lo') (hq : loOf lo h = some l) : ((lo' = none ∧ l = 0) ∨ ∃ k, lo' = some (.int k (.ofNat l))) ∧ l ≤ h := by
  cases hl with
  | none => injection hq with hq; subst hq; exact ⟨.inl ⟨rfl, rfl⟩, Nat.zero_le _⟩
  | some hv =>
    obtain ⟨⟨k, e0⟩, hle⟩ := upTo_some hq
    subst e0
    exact ⟨.inr ⟨k, by rw [hv.int_inv]⟩, hle⟩
theorem hi_cases {hi hi' : Option Value} {len cap h : Nat} (hh : OV m hi hi') (hq : hiOf hi len cap = some h) : ((hi' = none ∧ h = len) ∨ ∃ k, hi' = some (.int k (.ofNat h))) ∧ h ≤ cap := by
  cases hh with
  | none =>
    simp only [hiOf] at hq
    split at hq
    · rename_i hle; injection hq with hq; subst hq; rw [Nat.ble_eq] at hle; exact ⟨.inl ⟨rfl, rfl⟩, hle⟩
    · cases hq
  | some hv =>
    obtain ⟨⟨k, e0⟩, hle⟩ := upTo_some hq
    subst e0
    exact ⟨.inr ⟨k, by rw [hv.int_inv]⟩, hle⟩
theorem plain_run {lo hi lo' hi' : Option Value} {isSl : Bool} {len cap cap' l h : Nat} (hl : OV m lo lo') (hh : OV m hi hi') (hc : cap ≤ cap') (q1 : hiOf hi len cap = some h) (q2 : loOf lo h = some l) (w : World) :
    (Instr.sliceBounds isSl len cap' lo' hi' none).run P w = .ok (l, h, cap') w ∧ l ≤ h ∧ h ≤ cap := by
  obtain ⟨c1, c2⟩ := lo_cases hl q2
  obtain ⟨c3, c4⟩ := hi_cases hh q1
  refine ⟨?_, c2, c4⟩
  rcases c1 with ⟨rfl, e⟩ | ⟨k1, rfl⟩ <;> rcases c3 with ⟨rfl, e'⟩ | ⟨k2, rfl⟩
  · subst e; subst e'
    simp only [Instr.sliceBounds, Sem.run_bind, Sem.run_pure, Result.andThen_ok]
  · subst e
    simp only [Instr.sliceBounds, Sem.run_bind, Sem.run_pure, Result.andThen_ok, bound_run (Nat.le_trans c4 hc)]
  · subst e'
    simp only [Instr.sliceBounds, Sem.run_bind, Sem.run_pure, Result.andThen_ok, bound_run c2]
  · simp only [Instr.sliceBounds, Sem.run_bind, Sem.run_pure, Result.andThen_ok, bound_run c2, bound_run (Nat.le_trans c4 hc)]
theorem full_run {lo lo' : Option Value} {hi hi' mx mx' : Value} {isSl : Bool} {len cap cap' l h k : Nat} (hl : OV m lo lo') (hh : VR m hi hi') (hm : VR m mx mx') (hc : cap ≤ cap') (q0 : upTo mx cap = some k) (q1 : upTo hi k = some h) (q2 : loOf lo h = some l) (w : World) :
    (Instr.sliceBounds isSl len cap' lo' (some hi') (some mx')).run P w = .ok (l, h, k) w ∧ l ≤ h ∧ h ≤ k ∧ k ≤ cap := by
  obtain ⟨⟨k0, e0⟩, hle0⟩ := upTo_some q0
  obtain ⟨⟨k1, e1⟩, hle1⟩ := upTo_some q1
  subst e0; subst e1
  obtain ⟨c1, c2⟩ := lo_cases hl q2
  refine ⟨?_, c2, hle1, hle0⟩
  rw [hm.int_inv, hh.int_inv]
  rcases c1 with ⟨rfl, e⟩ | ⟨k1, rfl⟩
  · subst e
    simp only [Instr.sliceBounds, Sem.run_bind, Sem.run_pure, Result.andThen_ok, bound_run (Nat.le_trans hle0 hc), bound_run hle1]
  · simp only [Instr.sliceBounds, Sem.run_bind, Sem.run_pure, Result.andThen_ok, bound_run (Nat.le_trans hle0 hc), bound_run hle1, bound_run c2]
theorem piece_rel {base base' : Option Addr} {esz l h m0 len cap cap' m0' : Nat} {hard : Bool} {v : Value} (hs : VR m (.slice base len cap) (.slice base' len cap')) (hp : piece base esz l h m0 hard = some v)
    (hm : m0 ≤ m0') (h1 : l ≤ m0) (h2 : m0' ≤ cap') (h3 : l = m0 → l = 0) (hh : hard = true → m0' = m0) (hsoft : hard = false → m0 = cap ∧ m0' = cap') :
    VR m v (.slice (if m0' = l then base' else base'.map (·.add (l * esz))) (h - l) (m0' - l)) := by
  have hadd : ∀ (b o : Nat), (if m0' = l then some (⟨b, o, none⟩ : Addr) else (some (⟨b, o, none⟩ : Addr)).map (·.add (l * esz))) = some ⟨b, o + l * esz, none⟩ := by
    intro b o
    by_cases he : m0' = l
    · rw [if_pos he]
      have : l = 0 := h3 (by omega)
      subst this; simp
    · rw [if_neg he]; simp [addr_add]
  cases hs with
  | sliceNil =>
    injection hp with hp; subst hp
    have hmm : m0' = m0 := by
      cases hard with
      | true => exact hh rfl
      | false => obtain ⟨a, b⟩ := hsoft rfl; omega
    subst hmm
    have : (if m0' = l then (none : Option Addr) else (none : Option Addr).map (·.add (l * esz))) = none := by split <;> rfl
    rw [this]
    exact .sliceNil _ _
  | slice o _ _ hk =>
    injection hp with hp; subst hp
    have hmm : m0' = m0 := by
      cases hard with
      | true => exact hh rfl
      | false => obtain ⟨a, b⟩ := hsoft rfl; omega
    subst hmm
    rw [hadd]
    exact .slice _ _ _ hk
  | soft o _ _ e hk ha hb =>
    simp only [piece] at hp
    cases hard with
    | true =>
      injection hp with hp; subst hp
      rw [hadd, hh rfl]
      exact .slice _ _ _ hk
    | false =>
      obtain ⟨e1, e2⟩ := hsoft rfl
      cases hq : Nat.beq e esz with
      | false => rw [hq] at hp; cases hp
      | true =>
        rw [hq] at hp
        injection hp with hp; subst hp
        rw [Nat.beq_eq] at hq
        subst hq
        rw [hadd]
        refine .soft _ _ _ _ hk (by simp only [Nat.sub_eq]; omega) ?_
        have : (m0' - l) * e + l * e = m0' * e := by rw [← Nat.add_mul]; congr 1; omega
        subst e2
        have e3 : o + Nat.mul l e = o + l * e := rfl
        show o + Nat.mul l e + (m0' - l) * e ≤ _
        rw [e3]; omega
theorem sliceIn_some {base : Option Addr} {esz m0 h : Nat} {hard : Bool} {lo : Option Value} {v : Value} (hq : sliceIn base esz m0 hard lo h = some v) :
    ∃ l, loOf lo h = some l ∧ (l = m0 → l = 0) ∧ piece base esz l h m0 hard = some v := by
  unfold sliceIn at hq
  split at hq
  · cases hq
  · rename_i l hl
    refine ⟨l, hl, ?_⟩
    split at hq
    · cases hq
    · rename_i hne
      refine ⟨?_, hq⟩
      intro he
      subst he
      rcases Nat.eq_zero_or_pos l with h0 | h0
      · exact h0
      · exact absurd (hne (by simp) (by cases l; omega; rfl)) (by simp)
theorem sliceAny_run {base base' : Option Addr} {esz len cap cap' : Nat} {lo hi mx lo' hi' mx' : Option Value} {isSl : Bool} {v : Value} (hs : VR m (.slice base len cap) (.slice base' len cap'))
    (hl : OV m lo lo') (hh : OV m hi hi') (hm : OV m mx mx') (hq : sliceAny base esz len cap lo hi mx = some v) (hcap : cap ≤ cap') (w : World) :
    ∃ l h m0, (Instr.sliceBounds isSl len cap' lo' hi' mx').run P w = .ok (l, h, m0) w ∧ VR m v (.slice (if m0 = l then base' else base'.map (·.add (l * esz))) (h - l) (m0 - l)) := by
  cases hm with
  | none =>
    simp only [sliceAny, slicePlain] at hq
    split at hq
    · cases hq
    · rename_i h hi'
      obtain ⟨l, q1, q2, q3⟩ := sliceIn_some hq
      obtain ⟨q4, q5, q6⟩ := plain_run (P := P) (isSl := isSl) hl hh hcap hi' q1 w
      exact ⟨l, h, cap', q4, piece_rel hs q3 hcap (by omega) (Nat.le_refl _) q2 (by simp) (fun _ => ⟨rfl, rfl⟩)⟩
  | some hv =>
    simp only [sliceAny, sliceFull] at hq
    split at hq
    · cases hq
    · rename_i k hk
      cases hh with
      | none => cases hq
      | some hh =>
        simp only at hq
        split at hq
        · cases hq
        · rename_i h hi'
          obtain ⟨l, q1, q2, q3⟩ := sliceIn_some hq
          obtain ⟨q4, q5, q6, q7⟩ := full_run (P := P) (isSl := isSl) (len := len) hl hh hv hcap hk hi' q1 w
          exact ⟨l, h, k, q4, piece_rel hs q3 (Nat.le_refl _) (by omega) (by omega) q2 (fun _ => rfl) (by simp)⟩
theorem op_slice (hE : EnvOK P E) (r : Rel m s w) (hρ : ER m ev ρ) (t : TypeId) (x : Operand) (lo hi mx : Option Operand) (h : hSlice t x lo hi mx E s ev = some (n, s')) :
    OpR P m s w n s' ((execOp ρ ⟨d, .slice t x lo hi mx, ty, pos, af, g⟩).run P w) := by
  have hx := hρ x
  unfold hSlice oSlice at h
  split at h
  · rename_i e esz eb hk
    obtain ⟨k1, i, k2, k3, _⟩ : KR P t (.slice e esz eb) := kr_of hE hk (by simp)
    split at h
    · rename_i base len cap hkx
      rw [hkx] at hx
      split at h
      · rename_i v hv
        injection h with h; injection h with h1 h2; subst h1; subst h2
        have : ∃ base' cap', ρ x = .slice base' len cap' ∧ cap ≤ cap' := by
          cases hy : ρ x <;> rw [hy] at hx <;> cases hx
          · exact ⟨_, _, rfl, Nat.le_refl _⟩
          · exact ⟨_, _, rfl, Nat.le_refl _⟩
          · exact ⟨_, _, rfl, ‹_›⟩
        obtain ⟨base', cap', e1, e2⟩ := this
        rw [e1] at hx
        obtain ⟨l, hh, m0, q1, q2⟩ := sliceAny_run (P := P) (isSl := true) hx (OV.of hρ lo) (OV.of hρ hi) (OV.of hρ mx) hv e2 w
        simp only [execOp, e1, Instr.sliceAt, Instr.slice, Sem.run_bind, run_underlying k1, Result.andThen_ok, q1, run_size ⟨i, k2, k3⟩ w, Sem.run_pure]
        exact .same r q2
      · cases h
    · cases h
  · rename_i len e esz hk
    obtain ⟨k1, k2⟩ : KR P t (.array len e esz) := kr_of hE hk (by simp)
    split at h
    · rename_i b o hkx
      rw [hkx] at hx
      split at h
      · rename_i v hv
        injection h with h; injection h with h1 h2; subst h1; subst h2
        obtain ⟨b', nn, e1, e2⟩ := hx.ptr_inv
        obtain ⟨l, hh, m0, q1, q2⟩ := sliceAny_run (P := P) (isSl := false) (.slice o len len e2) (OV.of hρ lo) (OV.of hρ hi) (OV.of hρ mx) hv (Nat.le_refl _) w
        simp only [execOp, e1, Instr.sliceAt, Instr.sureAddr, Sem.run_bind, run_underlying k1, Result.andThen_ok, q1, run_size k2 w, Sem.run_pure]
        have : (if m0 = l then some (⟨b', o, none⟩ : Addr) else (some (⟨b', o, none⟩ : Addr)).map (·.add (l * esz))) = some (if m0 = l then ⟨b', o, none⟩ else (⟨b', o, none⟩ : Addr).add (l * esz)) := by
          split <;> rfl
        rw [this] at q2
        exact .same r q2
      · cases h
    · cases h
  · rename_i hk
    have k1 : P.underlying t = some .string := kr_of hE hk (by simp)
    split at h
    · rename_i l hkx hmx
      rw [hkx] at hx
      have hmx' : mx = none := by cases mx with | none => rfl | some _ => cases hmx
      subst hmx'
      split at h
      · cases h
      · rename_i hh hhi
        split at h
        · cases h
        · rename_i i hlo
          injection h with h; injection h with h1 h2; subst h1; subst h2
          have hsz : (⟨⟨l⟩⟩ : ByteArray).size = lenB l := by rw [lenB_eq]; rfl
          obtain ⟨q1, q2, q3⟩ := plain_run (P := P) (isSl := false) (OV.of hρ lo) (OV.of hρ hi) (Nat.le_refl (lenB l)) hhi hlo w
          simp only [execOp, hx.string_inv, Instr.sliceAt, Instr.slice, Sem.run_bind, run_underlying k1, Result.andThen_ok, Option.map_none, Option.isSome_none, Bool.false_eq_true, if_false, Sem.run_pure, hsz, q1]
          have : (⟨⟨l⟩⟩ : ByteArray).extract i hh = ⟨⟨dropB (takeB l hh) i⟩⟩ := by
            apply ByteArray.ext
            apply Array.ext'
            rw [dropB_eq, takeB_eq]
            simp [List.extract_eq_take_drop, List.drop_take]
          rw [this]
          exact .same r (.string _)
    · cases h
  · cases h
end
end Go.AM
