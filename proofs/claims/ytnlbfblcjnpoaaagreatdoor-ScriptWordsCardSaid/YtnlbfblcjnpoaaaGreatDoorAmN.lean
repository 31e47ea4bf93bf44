/- script.Words, script.Number and the document's two: what they answer at every string of at most 4000 bytes; ScriptWords answers true. -/
import Derived.Test.YtnlbfblcjnpoaaaGreatDoorAmP
import Derived.Test.YtnlbfblcjnpoaaaGreatDoorAmK
namespace Go.AM
open Go Go.Proofs
set_option maxRecDepth 100000
/-- a byte is a digit -/
def dig (c : UInt8) : Bool := decide (48 ≤ c.toNat) && decide (c.toNat ≤ 57)
def valB (l : List UInt8) : Nat := l.foldl (fun n c => n * 10 + (c.toNat - 48)) 0
def isNum (l : List UInt8) : Bool := l.all dig && decide (0 < l.length) && decide (l.length ≤ 9)
def numV (l : List UInt8) : Value := if isNum l then .tuple ⟨[.int .i64 (.ofNat (valB l)), .bool true]⟩ else .tuple ⟨[.int .i64 (.ofNat 0), .bool false]⟩
theorem valB_snoc (l : List UInt8) (c : UInt8) : valB (l ++ [c]) = valB l * 10 + (c.toNat - 48) := by simp [valB]
theorem valB_lt : ∀ (l : List UInt8), l.all dig = true → valB l < 10 ^ l.length := by
  intro l
  generalize hn : l.length = n
  induction n generalizing l with
  | zero => intro _; have : l = [] := List.length_eq_zero_iff.1 hn; subst this; decide
  | succ n ih =>
    obtain ⟨l, c, rfl⟩ : ∃ l' c, l = l' ++ [c] := by
      rcases List.eq_nil_or_concat l with h | ⟨l', c, h⟩
      · subst h; simp at hn
      · exact ⟨l', c, by simpa using h⟩
    have ih := ih l (by simpa using hn)
    intro h
    simp only [List.all_append, List.all_cons, List.all_nil, Bool.and_true, Bool.and_eq_true] at h
    have h1 := ih h.1
    have h2 : c.toNat ≤ 57 := by
      have := h.2; simp only [dig, Bool.and_eq_true, decide_eq_true_eq] at this; exact this.2
    rw [valB_snoc, Nat.pow_succ]
    omega
theorem not_num {l : List UInt8} {i : Nat} {c : UInt8} (h : l[i]? = some c) (hd : dig c = false) : isNum l = false := by
  have : l.all dig = false := by
    rw [List.all_eq_false]
    exact ⟨c, List.mem_of_getElem? h, by rw [hd]; simp⟩
  simp [isNum, this]
set_option maxHeartbeats 1000000
theorem c30 (l : List UInt8) (hl : l.length ≤ 4000) (s : St) : Call EE 30 [.string ⟨⟨l⟩⟩] s (fun v s' => v = numV l ∧ s' = s) := by
  refine call_of rfl (fn := Tryz.f30) rfl rfl ?_
  repeat (first | refine wpo_v rfl rfl ?_ | refine wpo_skip rfl ?_ | refine wpo_nil ?_ | refine wp_seq ?_ | refine wp_region ?_ | refine wp_skip ?_ | refine wp_ret ?_ | refine wp_block ?_ | refine wp_exit ?_)
  refine wp_loop (fun k tm s' => s' = s ∧ ∃ i, k = l.length - i ∧ i ≤ l.length ∧ i ≤ 9 ∧ (l.take i).all dig = true ∧ tm.length = 38 ∧ lk tm 0 = .string ⟨⟨l⟩⟩ ∧ lk tm 4 = .int .i64 (.ofNat (valB (l.take i))) ∧ lk tm 5 = .int .i64 (.ofNat i)) l.length ⟨rfl, 0, by omega, by omega, by omega, rfl, rfl, rfl, rfl, rfl⟩ ?_
  rintro k tm s' ⟨rfl, i, hk, hi, hi9, hd, hlen, h0, h4, h5⟩
  obtain ⟨g, rfl⟩ : ∃ g : Nat → Value, tm = g 0 :: g 1 :: g 2 :: g 3 :: g 4 :: g 5 :: g 6 :: g 7 :: g 8 :: g 9 :: g 10 :: g 11 :: g 12 :: g 13 :: g 14 :: g 15 :: g 16 :: g 17 :: g 18 :: g 19 :: g 20 :: g 21 :: g 22 :: g 23 :: g 24 :: g 25 :: g 26 :: g 27 :: g 28 :: g 29 :: g 30 :: g 31 :: g 32 :: g 33 :: g 34 :: g 35 :: g 36 :: g 37 :: [] := ⟨lk tm, (tab_lk tm).trans (by rw [hlen]; rfl)⟩
  change g 0 = _ at h0
  change g 4 = _ at h4
  change g 5 = _ at h5
  rw [h0, h4, h5]
  repeat (first | refine wpo_v rfl rfl ?_ | refine wpo_skip rfl ?_ | refine wpo_nil ?_ | refine wp_seq ?_ | refine wp_region ?_ | refine wp_skip ?_ | refine wp_ret ?_ | refine wp_block ?_ | refine wp_exit ?_)
  refine wp_cond rfl ?_ ?_
  · intro hlt
    have hlt' : i < l.length := by simpa [ilt_eq, lenB_eq] using hlt
    have hc : l[i]? = some l[i] := List.getElem?_eq_getElem hlt'
    generalize l[i] = c at hc
    repeat (first | refine wpo_v rfl rfl ?_ | refine wpo_skip rfl ?_ | refine wpo_nil ?_ | refine wp_seq ?_ | refine wp_region ?_ | refine wp_skip ?_ | refine wp_ret ?_ | refine wp_block ?_ | refine wp_exit ?_)
    refine wpo_v rfl (Eq.trans (show _ = oIndex EE _ 9 (.string ⟨⟨l⟩⟩) (.int .i64 (.ofNat i)) from rfl) (str_index rfl hc)) ?_
    have bad : dig c = false → isNum l = false := not_num hc
    have fin : isNum l = false → (Ex.ret = .normal ∨ Ex.ret = .ret) ∧ ∃ vs, some [Value.int .i64 0, Value.bool false] = some vs ∧ tupV vs = numV l ∧ s' = s' := fun hb => ⟨.inr rfl, _, rfl, by rw [numV, hb]; rfl, rfl⟩
    cases hb1 : ilt (Int.ofNat c.toNat) 48 with
    | true =>
      refine wpo_v rfl (o_b hb1) ?_
      repeat (first | refine wpo_v rfl rfl ?_ | refine wpo_skip rfl ?_ | refine wpo_nil ?_ | refine wp_seq ?_ | refine wp_region ?_ | refine wp_skip ?_ | refine wp_ret ?_ | refine wp_block ?_ | refine wp_exit ?_)
      refine wp_cond rfl (fun _ => ?_) (fun h => by cases h)
      repeat (first | refine wpo_v rfl rfl ?_ | refine wpo_skip rfl ?_ | refine wpo_nil ?_ | refine wp_seq ?_ | refine wp_region ?_ | refine wp_skip ?_ | refine wp_ret ?_ | refine wp_block ?_ | refine wp_exit ?_)
      refine fin (bad ?_)
      rw [ilt_eq] at hb1; simp at hb1; simp [dig]; omega
    | false =>
      refine wpo_v rfl (o_b hb1) ?_
      repeat (first | refine wpo_v rfl rfl ?_ | refine wpo_skip rfl ?_ | refine wpo_nil ?_ | refine wp_seq ?_ | refine wp_region ?_ | refine wp_skip ?_ | refine wp_ret ?_ | refine wp_block ?_ | refine wp_exit ?_)
      refine wpo_v rfl (Eq.trans (show _ = oIndex EE _ 9 (.string ⟨⟨l⟩⟩) (.int .i64 (.ofNat i)) from rfl) (str_index rfl hc)) ?_
      cases hb2 : ilt 57 (Int.ofNat c.toNat) with
      | true =>
        refine wpo_v rfl (o_b hb2) ?_
        repeat (first | refine wpo_v rfl rfl ?_ | refine wpo_skip rfl ?_ | refine wpo_nil ?_ | refine wp_seq ?_ | refine wp_region ?_ | refine wp_skip ?_ | refine wp_ret ?_ | refine wp_block ?_ | refine wp_exit ?_)
        refine wp_cond rfl (fun _ => ?_) (fun h => by cases h)
        repeat (first | refine wpo_v rfl rfl ?_ | refine wpo_skip rfl ?_ | refine wpo_nil ?_ | refine wp_seq ?_ | refine wp_region ?_ | refine wp_skip ?_ | refine wp_ret ?_ | refine wp_block ?_ | refine wp_exit ?_)
        refine fin (bad ?_)
        rw [ilt_eq] at hb2; simp at hb2; simp [dig]; omega
      | false =>
        refine wpo_v rfl (o_b hb2) ?_
        repeat (first | refine wpo_v rfl rfl ?_ | refine wpo_skip rfl ?_ | refine wpo_nil ?_ | refine wp_seq ?_ | refine wp_region ?_ | refine wp_skip ?_ | refine wp_ret ?_ | refine wp_block ?_ | refine wp_exit ?_)
        have hdc : dig c = true := by
          rw [ilt_eq] at hb1 hb2; simp at hb1 hb2; simp [dig]; omega
        refine wp_cond rfl (fun hb3 => ?_) (fun hb3 => ?_)
        · repeat (first | refine wpo_v rfl rfl ?_ | refine wpo_skip rfl ?_ | refine wpo_nil ?_ | refine wp_seq ?_ | refine wp_region ?_ | refine wp_skip ?_ | refine wp_ret ?_ | refine wp_block ?_ | refine wp_exit ?_)
          refine fin ?_
          rw [ieq_eq] at hb3; simp at hb3
          simp [isNum]; omega
        · repeat (first | refine wpo_v rfl rfl ?_ | refine wpo_skip rfl ?_ | refine wpo_nil ?_ | refine wp_seq ?_ | refine wp_region ?_ | refine wp_skip ?_ | refine wp_ret ?_ | refine wp_block ?_ | refine wp_exit ?_)
          refine wpo_v rfl (Eq.trans (show _ = oIndex EE _ 9 (.string ⟨⟨l⟩⟩) (.int .i64 (.ofNat i)) from rfl) (str_index rfl hc)) ?_
          repeat (first | refine wpo_v rfl rfl ?_ | refine wpo_skip rfl ?_ | refine wpo_nil ?_ | refine wp_seq ?_ | refine wp_region ?_ | refine wp_skip ?_ | refine wp_ret ?_ | refine wp_block ?_ | refine wp_exit ?_)
          have hne : i ≠ 9 := by rw [ieq_eq] at hb3; simp at hb3; omega
          have htk : l.take (i + 1) = l.take i ++ [c] := by
            obtain ⟨h1, h2⟩ := List.getElem?_eq_some_iff.1 hc
            rw [List.take_succ_eq_append_getElem h1, h2]
          have hd1 : (l.take (i + 1)).all dig = true := by rw [htk]; simp [hd, hdc]
          have hlt1 : valB (l.take (i + 1)) < 10 ^ 9 := Nat.lt_of_lt_of_le (valB_lt _ hd1) (Nat.pow_le_pow_right (by omega) (by simp; omega))
          refine ⟨l.length - (i + 1), by omega, rfl, i + 1, rfl, by omega, by omega, hd1, rfl, rfl, ?_, ?_⟩
          · have h48 : 48 ≤ c.toNat ∧ c.toNat ≤ 57 := by simpa [dig] using hdc
            refine (show _ = Value.int .i64 (wrapF .i64 (iadd (wrapF .i64 (Int.ofNat (valB (l.take i)) * 10)) (wrapF .i64 (wrapF .u8 (isub (Int.ofNat c.toNat) 48))))) from rfl).trans (int_congr ?_)
            rw [htk, valB_snoc] at hlt1 ⊢
            rw [wrapN (k := .u8) (c.toNat - 48) (by rw [isub_eq]; simp only [Int.ofNat_eq_natCast]; omega) (by simp only [topOf]; omega),
              wrapN (k := .i64) (c.toNat - 48) rfl (by simp only [topOf]; omega), show wrapF .i64 (Int.ofNat (valB (l.take i)) * 10) = Int.ofNat (valB (l.take i) * 10) from wrapN _ (by simp only [Int.ofNat_eq_natCast]; omega) (by simp only [topOf]; omega), iadd_eq]
            exact wrapN _ (by simp only [Int.ofNat_eq_natCast]; omega) (by simp only [topOf]; omega)
          · refine (show _ = Value.int .i64 (wrapF .i64 (iadd (Int.ofNat i) 1)) from rfl).trans (int_congr ?_)
            rw [iadd_eq]
            exact wrapN _ (by simp only [Int.ofNat_eq_natCast]; omega) (by simp only [topOf]; omega)
  · intro hge
    have hge' : ¬ i < l.length := by simpa [ilt_eq, lenB_eq] using hge
    have hi' : i = l.length := by omega
    repeat (first | refine wpo_v rfl rfl ?_ | refine wpo_skip rfl ?_ | refine wpo_nil ?_ | refine wp_seq ?_ | refine wp_region ?_ | refine wp_skip ?_ | refine wp_ret ?_ | refine wp_block ?_ | refine wp_exit ?_)
    refine ⟨.inr rfl, [.int .i64 (.ofNat (valB (l.take i))), .bool (ilt 0 (Int.ofNat (lenB l)))], rfl, ?_, rfl⟩
    rw [hi', List.take_length] at hd ⊢
    have hb : ilt 0 (Int.ofNat (lenB l)) = decide (0 < l.length) := by rw [ilt_eq, lenB_eq]; simp
    show Value.tuple ⟨[_, _]⟩ = _
    rw [hb]
    by_cases h0 : 0 < l.length
    · have : isNum l = true := by simp [isNum, hd, h0]; omega
      simp [numV, this, h0]
    · have hn : l = [] := List.length_eq_zero_iff.1 (by omega)
      subst hn; rfl
end Go.AM

namespace Go.AM
open Go Go.Proofs
set_option maxRecDepth 100000
set_option maxHeartbeats 1000000
theorem c29 (l : List UInt8) (hl : l.length ≤ 4000) (s : St) : Call EE 29 [.string ⟨⟨l⟩⟩] s (fun v _ => v = numV l) := by
  refine call_of rfl (fn := Tryz.f29) rfl rfl ?_
  have fin : ∀ {e : Ex}, e = .ret → isNum l = false → (e = .normal ∨ e = .ret) ∧ ∃ vs, some [Value.int .i64 0, Value.bool false] = some vs ∧ tupV vs = numV l := fun he hb => ⟨.inr he, _, rfl, by rw [numV, hb]; rfl⟩
  refine wp_seq ?_
  refine wp_region ?_
  refine wpo_v rfl rfl ?_
  refine wpo_v rfl rfl ?_
  refine wpo_nil ?_
  refine wp_seq ?_
  refine wp_seq ?_
  refine wp_region ?_
  refine wpo_v rfl rfl ?_
  refine wpo_v rfl rfl ?_
  cases hb1 : ilt (Int.ofNat (lenB l)) 1 with
  | true =>
    refine wpo_v rfl (o_b hb1) ?_
    repeat (first | refine wpo_v rfl rfl ?_ | refine wpo_skip rfl ?_ | refine wpo_nil ?_ | refine wp_seq ?_ | refine wp_region ?_ | refine wp_skip ?_ | refine wp_ret ?_ | refine wp_block ?_ | refine wp_exit ?_)
    refine wp_cond rfl (fun _ => ?_) (fun h => by cases h)
    repeat (first | refine wpo_v rfl rfl ?_ | refine wpo_skip rfl ?_ | refine wpo_nil ?_ | refine wp_seq ?_ | refine wp_region ?_ | refine wp_skip ?_ | refine wp_ret ?_ | refine wp_block ?_ | refine wp_exit ?_)
    refine fin rfl ?_
    have : l.length = 0 := by rw [ilt_eq, lenB_eq] at hb1; simp at hb1; omega
    simp [isNum, this]
  | false =>
    have hl1 : 1 ≤ l.length := by rw [ilt_eq, lenB_eq] at hb1; simp at hb1; omega
    refine wpo_v rfl (o_b hb1) ?_
    repeat (first | refine wpo_v rfl rfl ?_ | refine wpo_skip rfl ?_ | refine wpo_nil ?_ | refine wp_seq ?_ | refine wp_region ?_ | refine wp_skip ?_ | refine wp_ret ?_ | refine wp_block ?_ | refine wp_exit ?_)
    refine wp_cond rfl (fun hb2 => ?_) (fun hb2 => ?_)
    · repeat (first | refine wpo_v rfl rfl ?_ | refine wpo_skip rfl ?_ | refine wpo_nil ?_ | refine wp_seq ?_ | refine wp_region ?_ | refine wp_skip ?_ | refine wp_ret ?_ | refine wp_block ?_ | refine wp_exit ?_)
      refine fin rfl ?_
      have : 9 < l.length := by rw [ilt_eq, lenB_eq] at hb2; simp at hb2; omega
      simp [isNum]; omega
    · have hl9 : l.length ≤ 9 := by rw [ilt_eq, lenB_eq] at hb2; simp at hb2; omega
      repeat (first | refine wpo_v rfl rfl ?_ | refine wpo_skip rfl ?_ | refine wpo_nil ?_ | refine wp_seq ?_ | refine wp_region ?_ | refine wp_skip ?_ | refine wp_ret ?_ | refine wp_block ?_ | refine wp_exit ?_)
      refine wp_loop (fun k tm s' => s' = s.new (.cells (cellsB l) .sb 5) ∧ ∃ i, k = l.length - i ∧ i ≤ l.length ∧ (l.take i).all dig = true ∧ tm.length = 35 ∧ lk tm 15 = .slice (some ⟨s.next, 0, some 1⟩) (lenB l) (lenB l) ∧ lk tm 16 = .int .i64 (.ofNat (lenB l)) ∧ lk tm 17 = .int .i64 (.ofNat i) ∧ lk tm 2 = .int .i64 (.ofNat (valB (l.take i)))) l.length ⟨rfl, 0, by omega, by omega, rfl, rfl, rfl, rfl, rfl, rfl⟩ ?_
      rintro k tm s' ⟨rfl, i, hk, hi, hd, hlen, h15, h16, h17, h2⟩
      obtain ⟨g, rfl⟩ : ∃ g : Nat → Value, tm = g 0 :: g 1 :: g 2 :: g 3 :: g 4 :: g 5 :: g 6 :: g 7 :: g 8 :: g 9 :: g 10 :: g 11 :: g 12 :: g 13 :: g 14 :: g 15 :: g 16 :: g 17 :: g 18 :: g 19 :: g 20 :: g 21 :: g 22 :: g 23 :: g 24 :: g 25 :: g 26 :: g 27 :: g 28 :: g 29 :: g 30 :: g 31 :: g 32 :: g 33 :: g 34 :: [] := ⟨lk tm, (tab_lk tm).trans (by rw [hlen]; rfl)⟩
      change g 15 = _ at h15
      change g 16 = _ at h16
      change g 17 = _ at h17
      change g 2 = _ at h2
      rw [h15, h16, h17, h2]
      repeat (first | refine wpo_v rfl rfl ?_ | refine wpo_skip rfl ?_ | refine wpo_nil ?_ | refine wp_seq ?_ | refine wp_region ?_ | refine wp_skip ?_ | refine wp_ret ?_ | refine wp_block ?_ | refine wp_exit ?_)
      refine wp_cond rfl ?_ ?_
      · intro hlt
        have hlt' : i < l.length := by simpa [ilt_eq, lenB_eq] using hlt
        have hc : l[i]? = some l[i] := List.getElem?_eq_getElem hlt'
        generalize l[i] = c at hc
        repeat (first | refine wpo_v rfl rfl ?_ | refine wpo_skip rfl ?_ | refine wpo_nil ?_ | refine wp_seq ?_ | refine wp_region ?_ | refine wp_skip ?_ | refine wp_ret ?_ | refine wp_block ?_ | refine wp_exit ?_)
        refine wpo_v rfl (Eq.trans (show _ = oIndexAddr EE _ 52 (.slice (some ⟨s.next, 0, some 1⟩) (lenB l) (lenB l)) (.int .i64 (.ofNat i)) from rfl) (idx_slice (E := EE) (e := 5) (esz := 1) (eb := 1) rfl (by rw [lenB_eq]; exact hlt'))) ?_
        refine wpo_v rfl (Eq.trans (show _ = oLoad EE _ 5 (.pointer (some ⟨s.next, 0 + i * 1, none⟩)) from rfl) (load_cell (E := EE) (x := ⟨.int .u8, 1, [.int .u8 0], [], false⟩) (v := .int .u8 (.ofNat c.toNat)) rfl rfl rfl (by rw [new_get, if_pos rfl]) (by rw [show 0 + i * 1 = i by omega, cellsB_get, hc]; rfl))) ?_
        have bad : dig c = false → isNum l = false := not_num hc
        refine wpo_v rfl rfl ?_
        refine wpo_nil ?_
        refine wp_seq ?_
        refine wp_seq ?_
        refine wp_region ?_
        refine wpo_v rfl rfl ?_
        cases hb1 : ilt (Int.ofNat c.toNat) 48 with
        | true =>
          refine wpo_v rfl (o_b hb1) ?_
          repeat (first | refine wpo_v rfl rfl ?_ | refine wpo_skip rfl ?_ | refine wpo_nil ?_ | refine wp_seq ?_ | refine wp_region ?_ | refine wp_skip ?_ | refine wp_ret ?_ | refine wp_block ?_ | refine wp_exit ?_)
          refine wp_cond rfl (fun _ => ?_) (fun h => by cases h)
          repeat (first | refine wpo_v rfl rfl ?_ | refine wpo_skip rfl ?_ | refine wpo_nil ?_ | refine wp_seq ?_ | refine wp_region ?_ | refine wp_skip ?_ | refine wp_ret ?_ | refine wp_block ?_ | refine wp_exit ?_)
          refine fin rfl (bad ?_)
          rw [ilt_eq] at hb1; simp at hb1; simp [dig]; omega
        | false =>
          refine wpo_v rfl (o_b hb1) ?_
          repeat (first | refine wpo_v rfl rfl ?_ | refine wpo_skip rfl ?_ | refine wpo_nil ?_ | refine wp_seq ?_ | refine wp_region ?_ | refine wp_skip ?_ | refine wp_ret ?_ | refine wp_block ?_ | refine wp_exit ?_)
          refine wp_cond rfl (fun hb2 => ?_) (fun hb2 => ?_)
          · repeat (first | refine wpo_v rfl rfl ?_ | refine wpo_skip rfl ?_ | refine wpo_nil ?_ | refine wp_seq ?_ | refine wp_region ?_ | refine wp_skip ?_ | refine wp_ret ?_ | refine wp_block ?_ | refine wp_exit ?_)
            refine fin rfl (bad ?_)
            rw [ilt_eq] at hb2; simp at hb2; simp [dig]; omega
          · repeat (first | refine wpo_v rfl rfl ?_ | refine wpo_skip rfl ?_ | refine wpo_nil ?_ | refine wp_seq ?_ | refine wp_region ?_ | refine wp_skip ?_ | refine wp_ret ?_ | refine wp_block ?_ | refine wp_exit ?_)
            have hdc : dig c = true := by
              rw [ilt_eq] at hb1 hb2; simp at hb1 hb2; simp [dig]; omega
            have htk : l.take (i + 1) = l.take i ++ [c] := by
              obtain ⟨h1, h2⟩ := List.getElem?_eq_some_iff.1 hc
              rw [List.take_succ_eq_append_getElem h1, h2]
            have hd1 : (l.take (i + 1)).all dig = true := by rw [htk]; simp [hd, hdc]
            have hlt1 : valB (l.take (i + 1)) < 10 ^ 9 := Nat.lt_of_lt_of_le (valB_lt _ hd1) (Nat.pow_le_pow_right (by omega) (by simp; omega))
            refine ⟨l.length - (i + 1), by omega, rfl, i + 1, rfl, by omega, hd1, rfl, rfl, rfl, ?_, ?_⟩
            · refine (show _ = Value.int .i64 (wrapF .i64 (iadd (Int.ofNat i) 1)) from rfl).trans (int_congr ?_)
              rw [iadd_eq]
              exact wrapN _ (by simp only [Int.ofNat_eq_natCast]; omega) (by simp only [topOf]; omega)
            · have h48 : 48 ≤ c.toNat ∧ c.toNat ≤ 57 := by simpa [dig] using hdc
              refine (show _ = Value.int .i64 (wrapF .i64 (iadd (wrapF .i64 (10 * Int.ofNat (valB (l.take i)))) (wrapF .i64 (wrapF .u8 (isub (Int.ofNat c.toNat) 48))))) from rfl).trans (int_congr ?_)
              rw [htk, valB_snoc] at hlt1 ⊢
              rw [wrapN (k := .u8) (c.toNat - 48) (by rw [isub_eq]; simp only [Int.ofNat_eq_natCast]; omega) (by simp only [topOf]; omega),
                wrapN (k := .i64) (c.toNat - 48) rfl (by simp only [topOf]; omega), show wrapF .i64 (10 * Int.ofNat (valB (l.take i))) = Int.ofNat (valB (l.take i) * 10) from wrapN _ (by simp only [Int.ofNat_eq_natCast]; omega) (by simp only [topOf]; omega), iadd_eq]
              exact wrapN _ (by simp only [Int.ofNat_eq_natCast]; omega) (by simp only [topOf]; omega)
      · intro hge
        have hge' : ¬ i < l.length := by simpa [ilt_eq, lenB_eq] using hge
        have hi' : i = l.length := by omega
        repeat (first | refine wpo_v rfl rfl ?_ | refine wpo_skip rfl ?_ | refine wpo_nil ?_ | refine wp_seq ?_ | refine wp_region ?_ | refine wp_skip ?_ | refine wp_ret ?_ | refine wp_block ?_ | refine wp_exit ?_)
        refine ⟨.inr rfl, [.int .i64 (.ofNat (valB (l.take i))), .bool true], rfl, ?_⟩
        rw [hi', List.take_length] at hd ⊢
        have : isNum l = true := by simp [isNum, hd]; omega
        show Value.tuple ⟨[_, _]⟩ = _
        simp [numV, this]
end Go.AM

namespace Go.AM
open Go Go.Proofs
set_option maxRecDepth 100000
/-- words between blanks: one is under way -/
def wordsA (w : List UInt8) : List UInt8 → List (List UInt8)
  | [] => if w = [] then [] else [w]
  | c :: r => if c = 32 then (if w = [] then wordsA [] r else w :: wordsA [] r) else wordsA (w ++ [c]) r
def words (l : List UInt8) : List (List UInt8) := wordsA [] l
def strV (w : List UInt8) : Value := .string ⟨⟨w⟩⟩
/-- a slice of strings, whole in its block -/
def SlW (s : St) (v : Value) (ws : List (List UInt8)) (low : Nat) : Prop :=
  (ws = [] ∧ v = .slice none 0 0) ∨ ∃ b, low ≤ b ∧ v = .slice (some ⟨b, 0, some 1⟩) ws.length ws.length ∧ T.get s.heap b = some (.cells (ws.map strV) .rw 9) ∧ b < s.next
def Below (s s' : St) : Prop := s.next ≤ s'.next ∧ ∀ k, k < s.next → T.get s'.heap k = T.get s.heap k
theorem Below.refl (s : St) : Below s s := ⟨Nat.le_refl _, fun _ _ => rfl⟩
theorem Below.trans {a b c : St} (h : Below a b) (g : Below b c) : Below a c := ⟨Nat.le_trans h.1 g.1, fun k hk => (g.2 k (Nat.lt_of_lt_of_le hk h.1)).trans (h.2 k hk)⟩
theorem Below.new (s : St) (o : Ob) : Below s (s.new o) := ⟨Nat.le_succ _, fun k hk => by rw [new_get, if_neg (by omega)]⟩
theorem wordsA_len : ∀ (l w : List UInt8), (wordsA w l).length ≤ l.length + 1
  | [], w => by unfold wordsA; split <;> simp
  | c :: r, w => by
    unfold wordsA
    split
    · split
      · have := wordsA_len r []; simp; omega
      · have := wordsA_len r []; simp; omega
    · have := wordsA_len r (w ++ [c]); simp; omega
set_option maxHeartbeats 2000000
theorem c28 (l : List UInt8) (hl : l.length ≤ 4000) (s : St) : Call EE 28 [.string ⟨⟨l⟩⟩] s (fun v s' => SlW s' v (words l) s.next ∧ Below s s') := by
  refine call_of rfl (fn := Tryz.f28) rfl rfl ?_
  repeat (first | refine wpo_v rfl rfl ?_ | refine wpo_skip rfl ?_ | refine wpo_nil ?_ | refine wp_seq ?_ | refine wp_region ?_ | refine wp_skip ?_ | refine wp_ret ?_ | refine wp_block ?_ | refine wp_exit ?_)
  refine wp_loop (fun k tm s' => Below s s' ∧ ∃ i w ds o, k = l.length + 1 - i ∧ i ≤ l.length + 1 ∧ w.length ≤ l.length ∧ (i ≤ l.length → w.length ≤ i ∧ ds ++ wordsA w (l.drop i) = words l) ∧ (i = l.length + 1 → ds = words l) ∧ ds.length ≤ 4001 ∧ SlW s' o ds s.next ∧ tm.length = 36 ∧ lk tm 0 = .string ⟨⟨l⟩⟩ ∧ lk tm 3 = o ∧ lk tm 4 = strV w ∧ lk tm 5 = .int .i64 (.ofNat i)) (l.length + 1)
    ⟨Below.refl s, 0, [], [], .slice none 0 0, rfl, by omega, by simp, fun _ => ⟨by simp, rfl⟩, by omega, by simp, .inl ⟨rfl, rfl⟩, rfl, rfl, rfl, rfl, rfl⟩ ?_
  rintro k tm s1 ⟨hbel, i, w, ds, o, hk, hi, hw, hinv, hend, hds, ho, hlen, h0, h3, h4, h5⟩
  obtain ⟨g, rfl⟩ : ∃ g : Nat → Value, tm = g 0 :: g 1 :: g 2 :: g 3 :: g 4 :: g 5 :: g 6 :: g 7 :: g 8 :: g 9 :: g 10 :: g 11 :: g 12 :: g 13 :: g 14 :: g 15 :: g 16 :: g 17 :: g 18 :: g 19 :: g 20 :: g 21 :: g 22 :: g 23 :: g 24 :: g 25 :: g 26 :: g 27 :: g 28 :: g 29 :: g 30 :: g 31 :: g 32 :: g 33 :: g 34 :: g 35 :: [] := ⟨lk tm, (tab_lk tm).trans (by rw [hlen]; rfl)⟩
  change g 0 = _ at h0
  change g 3 = _ at h3
  change g 4 = _ at h4
  change g 5 = _ at h5
  rw [h0, h3, h4, h5]
  clear hlen h0 h3 h4 h5
  repeat (first | refine wpo_v rfl rfl ?_ | refine wpo_skip rfl ?_ | refine wpo_nil ?_ | refine wp_seq ?_ | refine wp_region ?_ | refine wp_skip ?_ | refine wp_ret ?_ | refine wp_block ?_ | refine wp_exit ?_)
  refine wp_cond rfl ?_ ?_
  · intro hle
    have hle' : i ≤ l.length := by
      have : (!ilt (Int.ofNat (lenB l)) (Int.ofNat i)) = true := hle
      rw [ilt_eq, lenB_eq] at this; simp at this; omega
    obtain ⟨hwi, hinv⟩ := hinv hle'
    have hstep : ∀ (s2 : St) (tm : List Value) (w' : List UInt8) (ds' : List (List UInt8)) (o' : Value), Below s s2 → w'.length ≤ l.length → (i + 1 ≤ l.length → w'.length ≤ i + 1 ∧ ds' ++ wordsA w' (l.drop (i + 1)) = words l) → (i + 1 = l.length + 1 → ds' = words l) → ds'.length ≤ 4001 → SlW s2 o' ds' s.next → tm.length = 36 → lk tm 0 = .string ⟨⟨l⟩⟩ → lk tm 3 = o' → lk tm 4 = strV w' → lk tm 5 = Value.int .i64 (wrapF .i64 (iadd (Int.ofNat i) (Int.ofNat 1))) →
        ∃ j, j < k ∧ Below s s2 ∧ ∃ i w ds o, j = l.length + 1 - i ∧ i ≤ l.length + 1 ∧ w.length ≤ l.length ∧ (i ≤ l.length → w.length ≤ i ∧ ds ++ wordsA w (l.drop i) = words l) ∧ (i = l.length + 1 → ds = words l) ∧ ds.length ≤ 4001 ∧ SlW s2 o ds s.next ∧ tm.length = 36 ∧ lk tm 0 = .string ⟨⟨l⟩⟩ ∧ lk tm 3 = o ∧ lk tm 4 = strV w ∧ lk tm 5 = .int .i64 (.ofNat i) := by
      intro s2 tm w' ds' o' g1 g2 g3 g4 g5 g6 g7 g8 g9 g10 g11
      exact ⟨l.length + 1 - (i + 1), by omega, g1, i + 1, w', ds', o', rfl, by omega, g2, g3, g4, g5, g6, g7, g8, g9, g10, by rw [g11, add_i (by omega)]⟩
    repeat (first | refine wp_seq ?_ | refine wp_region ?_ | refine wp_skip ?_ | refine wp_block ?_)
    refine wpo_v rfl rfl ?_
    refine wpo_v rfl rfl ?_
    refine wpo_v rfl rfl ?_
    cases hlt : ilt (Int.ofNat i) (Int.ofNat (lenB l)) with
    | true =>
      have hlt' : i < l.length := by rw [ilt_eq, lenB_eq] at hlt; simpa using hlt
      have hc : l[i]? = some l[i] := List.getElem?_eq_getElem hlt'
      have hdrop : l.drop i = l[i] :: l.drop (i + 1) := List.drop_eq_getElem_cons hlt'
      generalize l[i] = c at hc hdrop
      refine wpo_v rfl (o_b hlt) ?_
      repeat (first | refine wpo_v rfl rfl ?_ | refine wpo_skip rfl ?_ | refine wpo_nil ?_ | refine wp_seq ?_ | refine wp_region ?_ | refine wp_skip ?_ | refine wp_ret ?_ | refine wp_block ?_ | refine wp_exit ?_)
      refine wpo_v rfl (Eq.trans (show _ = oIndex EE _ 9 (.string ⟨⟨l⟩⟩) (.int .i64 (.ofNat i)) from rfl) (str_index rfl hc)) ?_
      repeat (first | refine wpo_v rfl rfl ?_ | refine wpo_skip rfl ?_ | refine wpo_nil ?_ | refine wp_seq ?_ | refine wp_region ?_ | refine wp_skip ?_ | refine wp_ret ?_ | refine wp_block ?_ | refine wp_exit ?_)
      refine wp_cond rfl (fun hne => ?_) (fun heq => ?_)
      · have hc32 : c ≠ 32 := by
          have : (!ieq (Int.ofNat c.toNat) 32) = true := hne
          rw [ieq_eq] at this; simp at this
          rintro rfl; exact this rfl
        repeat (first | refine wp_seq ?_ | refine wp_region ?_ | refine wp_skip ?_ | refine wp_block ?_)
        refine wpo_v rfl rfl ?_
        refine wpo_v rfl rfl ?_
        refine wpo_v rfl rfl ?_
        refine wpo_v rfl rfl ?_
        refine wpo_v rfl (Eq.trans (show _ = some (N.v (Value.int .i64 (wrapF .i64 (iadd (Int.ofNat i) (Int.ofNat 1)))), _) from rfl) (o_i (add_i (by omega)))) ?_
        refine wpo_v rfl (Eq.trans (show _ = oSlice EE _ 9 (.string ⟨⟨l⟩⟩) (some (.int .i64 (.ofNat i))) (some (.int .i64 (.ofNat (i + 1)))) none from rfl) (str_slice rfl (by omega) (by omega))) ?_
        have hcut : (l.take (i + 1)).drop i = [c] := by
          obtain ⟨h1, h2⟩ := List.getElem?_eq_some_iff.1 hc
          rw [List.take_succ_eq_append_getElem h1, List.drop_left' (by simp; omega), h2]
        refine wpo_v rfl (Eq.trans (show _ = valO _ (strop .add ⟨⟨w⟩⟩ ⟨⟨(l.take (i + 1)).drop i⟩⟩) from rfl) (valO_some (str_add (by rw [hcut]; simp; omega)))) ?_
        rw [hcut]
        repeat (first | refine wpo_v rfl rfl ?_ | refine wpo_skip rfl ?_ | refine wpo_nil ?_ | refine wp_seq ?_ | refine wp_region ?_ | refine wp_skip ?_ | refine wp_ret ?_ | refine wp_block ?_ | refine wp_exit ?_)
        refine hstep _ _ (w ++ [c]) ds o hbel (by simp; omega) (fun _ => ⟨by simp; omega, ?_⟩) (fun h => by omega) hds ho rfl rfl rfl rfl rfl
        rw [hdrop] at hinv
        rw [← hinv]
        show _ = ds ++ (if c = 32 then _ else wordsA (w ++ [c]) (l.drop (i + 1)))
        rw [if_neg hc32]
      · have hc32 : c = 32 := by
          have : (!ieq (Int.ofNat c.toNat) 32) = false := heq
          rw [ieq_eq] at this; simp at this
          exact UInt8.toNat_inj.1 (by show c.toNat = 32; omega)
        subst hc32
        repeat (first | refine wp_seq ?_ | refine wp_region ?_ | refine wp_skip ?_ | refine wp_block ?_)
        refine wpo_v rfl rfl ?_
        cases hbe : bytesEq w [] with
        | true =>
          have hw0 : w = [] := by rw [bytesEq_eq] at hbe; simpa using hbe
          subst hw0
          refine wpo_v rfl (o_b (show (!bytesEq [] []) = false from rfl)) ?_
          refine wpo_nil ?_
          refine wp_cond rfl (fun h => by cases h) (fun _ => ?_)
          repeat (first | refine wpo_v rfl rfl ?_ | refine wpo_skip rfl ?_ | refine wpo_nil ?_ | refine wp_seq ?_ | refine wp_region ?_ | refine wp_skip ?_ | refine wp_ret ?_ | refine wp_block ?_ | refine wp_exit ?_)
          refine hstep _ _ [] ds o hbel (by simp) (fun _ => ⟨by simp, ?_⟩) (fun h => by omega) hds ho rfl rfl rfl rfl rfl
          rw [hdrop] at hinv; exact hinv
        | false =>
          have hw0 : w ≠ [] := by rintro rfl; cases hbe
          refine wpo_v rfl (o_b (show (!bytesEq w []) = true by rw [hbe]; rfl)) ?_
          refine wpo_nil ?_
          refine wp_cond rfl (fun _ => ?_) (fun h => by cases h)
          repeat (first | refine wp_seq ?_ | refine wp_region ?_ | refine wp_skip ?_ | refine wp_block ?_)
          refine wpo_v rfl rfl ?_
          refine wpo_v rfl rfl ?_
          refine wpo_v rfl rfl ?_
          have hlen2 : (ds ++ [w]).length ≤ 4001 := by
            have h1 := wordsA_len l []
            rw [hdrop] at hinv
            have h2 : (words l).length ≤ l.length + 1 := h1
            rw [← hinv] at h2
            simp only [wordsA, if_true, if_neg hw0, List.length_append, List.length_cons] at h2
            simp; omega
          have hlen3 : ds.length + 1 ≤ 4001 := by simpa using hlen2
          rcases ho with ⟨rfl, rfl⟩ | ⟨b, hb1, rfl, hb2, hb3⟩
          · refine wpo_v rfl (Eq.trans (show _ = bAppend EE _ 9 1 16 none 0 0 false (.slice (some ⟨s1.next, 0, none⟩) 1 1) from rfl) (app_nil (ck := .rw) (e0 := 9) (v := strV w) (by rw [new_get, if_pos rfl]; rfl) (by omega))) ?_
            repeat (first | refine wpo_v rfl rfl ?_ | refine wpo_skip rfl ?_ | refine wpo_nil ?_ | refine wp_seq ?_ | refine wp_region ?_ | refine wp_skip ?_ | refine wp_ret ?_ | refine wp_block ?_ | refine wp_exit ?_)
            refine hstep _ _ [] ([] ++ [w]) (.slice (some ⟨s1.next + 1, 0, some 1⟩) 1 1) ?_ (by simp) (fun _ => ⟨by simp, ?_⟩) (fun h => by omega) (by simp) ?_ rfl rfl rfl rfl rfl
            · exact (hbel.trans (Below.new _ _)).trans (Below.new _ _)
            · rw [hdrop] at hinv
              rw [← hinv, List.append_assoc]
              show _ = ([] : List (List UInt8)) ++ (if (32 : UInt8) = 32 then (if w = [] then _ else w :: wordsA [] (l.drop (i + 1))) else _)
              rw [if_pos rfl, if_neg hw0]; rfl
            · refine .inr ⟨s1.next + 1, by have := hbel.1; omega, rfl, ?_, ?_⟩
              · exact (new_get _ _ _).trans (if_pos rfl)
              · show s1.next + 1 < s1.next + 1 + 1; omega
          · refine wpo_v rfl (Eq.trans (show _ = bAppend EE _ 9 1 16 (some ⟨b, 0, some 1⟩) ds.length ds.length false (.slice (some ⟨s1.next, 0, none⟩) 1 1) from rfl) (app_kill (ck := .rw) (ck0 := .rw) (e0 := 9) (v := strV w) (xs := ds.map strV) (by rw [new_get, if_pos rfl]; rfl) (by rw [new_get, if_neg (by omega)]; exact hb2) (by simp) (by simp) (by omega))) ?_
            repeat (first | refine wpo_v rfl rfl ?_ | refine wpo_skip rfl ?_ | refine wpo_nil ?_ | refine wp_seq ?_ | refine wp_region ?_ | refine wp_skip ?_ | refine wp_ret ?_ | refine wp_block ?_ | refine wp_exit ?_)
            refine hstep _ _ [] (ds ++ [w]) (.slice (some ⟨s1.next + 1, 0, some 1⟩) (ds.length + 1) (ds.length + 1)) ?_ (by simp) (fun _ => ⟨by simp, ?_⟩) (fun h => by omega) hlen2 ?_ rfl rfl rfl rfl rfl
            · refine ⟨by have := hbel.1; show s.next ≤ s1.next + 1 + 1; omega, fun k hk => ?_⟩
              have h1 := hbel.1
              rw [new_get, if_neg (by show k ≠ s1.next + 1; omega), put_get, if_neg (by omega), new_get, if_neg (by omega)]
              exact hbel.2 k hk
            · rw [hdrop] at hinv
              rw [← hinv, List.append_assoc]
              show _ = ds ++ (if (32 : UInt8) = 32 then (if w = [] then _ else w :: wordsA [] (l.drop (i + 1))) else _)
              rw [if_pos rfl, if_neg hw0]; rfl
            · refine .inr ⟨s1.next + 1, by have := hbel.1; omega, by simp, ?_, ?_⟩
              · exact (new_get _ _ _).trans ((if_pos rfl).trans (by rw [List.map_append]; rfl))
              · show s1.next + 1 < s1.next + 1 + 1; omega
    | false =>
      have hlt' : ¬ i < l.length := by rw [ilt_eq, lenB_eq] at hlt; simpa using hlt
      have hil : i = l.length := by omega
      refine wpo_v rfl (o_b hlt) ?_
      repeat (first | refine wpo_v rfl rfl ?_ | refine wpo_skip rfl ?_ | refine wpo_nil ?_ | refine wp_seq ?_ | refine wp_region ?_ | refine wp_skip ?_ | refine wp_ret ?_ | refine wp_block ?_ | refine wp_exit ?_)
      refine wp_cond rfl (fun h => by cases h) (fun _ => ?_)
      repeat (first | refine wp_seq ?_ | refine wp_region ?_ | refine wp_skip ?_ | refine wp_block ?_)
      refine wpo_v rfl rfl ?_
      cases hbe : bytesEq w [] with
      | true =>
        have hw0 : w = [] := by rw [bytesEq_eq] at hbe; simpa using hbe
        subst hw0
        refine wpo_v rfl (o_b (show (!bytesEq [] []) = false from rfl)) ?_
        refine wpo_nil ?_
        refine wp_cond rfl (fun h => by cases h) (fun _ => ?_)
        repeat (first | refine wpo_v rfl rfl ?_ | refine wpo_skip rfl ?_ | refine wpo_nil ?_ | refine wp_seq ?_ | refine wp_region ?_ | refine wp_skip ?_ | refine wp_ret ?_ | refine wp_block ?_ | refine wp_exit ?_)
        refine hstep _ _ [] ds o hbel (by simp) (fun h => by omega) (fun _ => ?_) hds ho rfl rfl rfl rfl rfl
        rw [hil, List.drop_length] at hinv; simpa [wordsA] using hinv
      | false =>
        have hw0 : w ≠ [] := by rintro rfl; cases hbe
        refine wpo_v rfl (o_b (show (!bytesEq w []) = true by rw [hbe]; rfl)) ?_
        refine wpo_nil ?_
        refine wp_cond rfl (fun _ => ?_) (fun h => by cases h)
        repeat (first | refine wp_seq ?_ | refine wp_region ?_ | refine wp_skip ?_ | refine wp_block ?_)
        refine wpo_v rfl rfl ?_
        refine wpo_v rfl rfl ?_
        refine wpo_v rfl rfl ?_
        have hlen2 : (ds ++ [w]).length ≤ 4001 := by
          have h2 : (words l).length ≤ l.length + 1 := wordsA_len l []
          rw [hil, List.drop_length] at hinv
          rw [← hinv] at h2
          simp only [wordsA, if_neg hw0, List.length_append, List.length_cons, List.length_nil] at h2
          simp; omega
        have hlen3 : ds.length + 1 ≤ 4001 := by simpa using hlen2
        rcases ho with ⟨rfl, rfl⟩ | ⟨b, hb1, rfl, hb2, hb3⟩
        · refine wpo_v rfl (Eq.trans (show _ = bAppend EE _ 9 1 16 none 0 0 false (.slice (some ⟨s1.next, 0, none⟩) 1 1) from rfl) (app_nil (ck := .rw) (e0 := 9) (v := strV w) (by rw [new_get, if_pos rfl]; rfl) (by omega))) ?_
          repeat (first | refine wpo_v rfl rfl ?_ | refine wpo_skip rfl ?_ | refine wpo_nil ?_ | refine wp_seq ?_ | refine wp_region ?_ | refine wp_skip ?_ | refine wp_ret ?_ | refine wp_block ?_ | refine wp_exit ?_)
          refine hstep _ _ [] ([] ++ [w]) (.slice (some ⟨s1.next + 1, 0, some 1⟩) 1 1) ?_ (by simp) (fun h => by omega) (fun _ => ?_) (by simp) ?_ rfl rfl rfl rfl rfl
          · exact (hbel.trans (Below.new _ _)).trans (Below.new _ _)
          · rw [hil, List.drop_length] at hinv
            rw [← hinv]
            show _ = ([] : List (List UInt8)) ++ (if w = [] then [] else [w])
            rw [if_neg hw0]
          · refine .inr ⟨s1.next + 1, by have := hbel.1; omega, rfl, ?_, ?_⟩
            · exact (new_get _ _ _).trans (if_pos rfl)
            · show s1.next + 1 < s1.next + 1 + 1; omega
        · refine wpo_v rfl (Eq.trans (show _ = bAppend EE _ 9 1 16 (some ⟨b, 0, some 1⟩) ds.length ds.length false (.slice (some ⟨s1.next, 0, none⟩) 1 1) from rfl) (app_kill (ck := .rw) (ck0 := .rw) (e0 := 9) (v := strV w) (xs := ds.map strV) (by rw [new_get, if_pos rfl]; rfl) (by rw [new_get, if_neg (by omega)]; exact hb2) (by simp) (by simp) (by omega))) ?_
          repeat (first | refine wpo_v rfl rfl ?_ | refine wpo_skip rfl ?_ | refine wpo_nil ?_ | refine wp_seq ?_ | refine wp_region ?_ | refine wp_skip ?_ | refine wp_ret ?_ | refine wp_block ?_ | refine wp_exit ?_)
          refine hstep _ _ [] (ds ++ [w]) (.slice (some ⟨s1.next + 1, 0, some 1⟩) (ds.length + 1) (ds.length + 1)) ?_ (by simp) (fun h => by omega) (fun _ => ?_) hlen2 ?_ rfl rfl rfl rfl rfl
          · refine ⟨by have := hbel.1; show s.next ≤ s1.next + 1 + 1; omega, fun k hk => ?_⟩
            have h1 := hbel.1
            rw [new_get, if_neg (by show k ≠ s1.next + 1; omega), put_get, if_neg (by omega), new_get, if_neg (by omega)]
            exact hbel.2 k hk
          · rw [hil, List.drop_length] at hinv
            rw [← hinv]
            show _ = ds ++ (if w = [] then [] else [w])
            rw [if_neg hw0]
          · refine .inr ⟨s1.next + 1, by have := hbel.1; omega, by simp, ?_, ?_⟩
            · exact (new_get _ _ _).trans ((if_pos rfl).trans (by rw [List.map_append]; rfl))
            · show s1.next + 1 < s1.next + 1 + 1; omega
  · intro hgt
    have hgt' : ¬ i ≤ l.length := by
      have : (!ilt (Int.ofNat (lenB l)) (Int.ofNat i)) = false := hgt
      rw [ilt_eq, lenB_eq] at this; simp at this; omega
    have hds' := hend (by omega)
    repeat (first | refine wpo_v rfl rfl ?_ | refine wpo_skip rfl ?_ | refine wpo_nil ?_ | refine wp_seq ?_ | refine wp_region ?_ | refine wp_skip ?_ | refine wp_ret ?_ | refine wp_block ?_ | refine wp_exit ?_)
    refine ⟨.inr rfl, [o], rfl, ?_, hbel⟩
    rw [← hds']; exact ho
end Go.AM

namespace Go.AM
open Go Go.Proofs
set_option maxRecDepth 100000
set_option maxHeartbeats 1000000
theorem c277 (l : List UInt8) (s : St) : Call EE 277 [.string ⟨⟨l⟩⟩, .int .u8 (.ofNat 32)] s (fun v s' => v = .int .i64 (idxB 32 l 0) ∧ s' = s) := by
  refine call_of rfl (fn := Tryz.f277) rfl rfl ?_
  repeat (first | refine wpo_v rfl rfl ?_ | refine wpo_skip rfl ?_ | refine wpo_nil ?_ | refine wp_seq ?_ | refine wp_region ?_ | refine wp_skip ?_ | refine wp_ret ?_ | refine wp_block ?_ | refine wp_exit ?_)
  exact ⟨.inr rfl, _, rfl, rfl, rfl⟩
theorem c241 (l : List UInt8) (hl : l.length ≤ 4000) (s : St) : Call EE 241 [.string ⟨⟨l⟩⟩, .string ⟨⟨[32]⟩⟩] s (fun v s' => v = .int .i64 (idxB 32 l 0) ∧ s' = s) := by
  refine call_of rfl (fn := Tryz.f241) rfl rfl ?_
  repeat (first | refine wpo_v rfl rfl ?_ | refine wpo_skip rfl ?_ | refine wpo_nil ?_ | refine wp_seq ?_ | refine wp_region ?_ | refine wp_skip ?_ | refine wp_ret ?_ | refine wp_block ?_ | refine wp_exit ?_)
  refine wp_cond rfl (fun hb => ?_) (fun hb => ?_)
  · repeat (first | refine wpo_v rfl rfl ?_ | refine wpo_skip rfl ?_ | refine wpo_nil ?_ | refine wp_seq ?_ | refine wp_region ?_ | refine wp_skip ?_ | refine wp_ret ?_ | refine wp_block ?_ | refine wp_exit ?_)
    have : [32] = l := by have h : bytesEq [32] l = true := hb; rw [bytesEq_eq] at h; simpa using h
    subst this
    exact ⟨.inr rfl, _, rfl, rfl, rfl⟩
  · repeat (first | refine wpo_v rfl rfl ?_ | refine wpo_skip rfl ?_ | refine wpo_nil ?_ | refine wp_seq ?_ | refine wp_region ?_ | refine wp_skip ?_ | refine wp_ret ?_ | refine wp_block ?_ | refine wp_exit ?_)
    refine wp_cond rfl (fun _ => ?_) (fun h => by cases h)
    repeat (first | refine wpo_v rfl rfl ?_ | refine wpo_skip rfl ?_ | refine wpo_nil ?_ | refine wp_seq ?_ | refine wp_region ?_ | refine wp_skip ?_ | refine wp_ret ?_ | refine wp_block ?_ | refine wp_exit ?_)
    refine wpo_call rfl rfl ?_
    refine (c277 l s).mono ?_
    rintro v s' ⟨rfl, rfl⟩
    repeat (first | refine wpo_v rfl rfl ?_ | refine wpo_skip rfl ?_ | refine wpo_nil ?_ | refine wp_seq ?_ | refine wp_region ?_ | refine wp_skip ?_ | refine wp_ret ?_ | refine wp_block ?_ | refine wp_exit ?_)
    exact ⟨.inr rfl, _, rfl, rfl, rfl⟩
theorem c193 (l : List UInt8) (hl : l.length ≤ 4000) (s : St) : Call EE 193 [.string ⟨⟨l⟩⟩, .string ⟨⟨[32]⟩⟩] s (fun v s' => v = .int .i64 (idxB 32 l 0) ∧ s' = s) := by
  refine call_of rfl (fn := Tryz.f193) rfl rfl ?_
  repeat (first | refine wpo_v rfl rfl ?_ | refine wpo_skip rfl ?_ | refine wpo_nil ?_ | refine wp_seq ?_ | refine wp_region ?_ | refine wp_skip ?_ | refine wp_ret ?_ | refine wp_block ?_ | refine wp_exit ?_)
  refine wpo_call rfl rfl ?_
  refine (c241 l hl s).mono ?_
  rintro v s' ⟨rfl, rfl⟩
  repeat (first | refine wpo_v rfl rfl ?_ | refine wpo_skip rfl ?_ | refine wpo_nil ?_ | refine wp_seq ?_ | refine wp_region ?_ | refine wp_skip ?_ | refine wp_ret ?_ | refine wp_block ?_ | refine wp_exit ?_)
  exact ⟨.inr rfl, _, rfl, rfl, rfl⟩
theorem c192 (l : List UInt8) (_hl : l.length ≤ 4000) (s : St) : Call EE 192 [.string ⟨⟨l⟩⟩, .string ⟨⟨[32]⟩⟩] s (fun v s' => v = .int .i64 (.ofNat (cntB 32 l)) ∧ s' = s) := by
  refine call_of rfl (fn := Tryz.f192) rfl rfl ?_
  repeat (first | refine wpo_v rfl rfl ?_ | refine wpo_skip rfl ?_ | refine wpo_nil ?_ | refine wp_seq ?_ | refine wp_region ?_ | refine wp_skip ?_ | refine wp_ret ?_ | refine wp_block ?_ | refine wp_exit ?_)
  refine wp_cond rfl (fun h => by cases h) (fun _ => ?_)
  repeat (first | refine wpo_v rfl rfl ?_ | refine wpo_skip rfl ?_ | refine wpo_nil ?_ | refine wp_seq ?_ | refine wp_region ?_ | refine wp_skip ?_ | refine wp_ret ?_ | refine wp_block ?_ | refine wp_exit ?_)
  refine wp_cond rfl (fun _ => ?_) (fun h => by cases h)
  repeat (first | refine wpo_v rfl rfl ?_ | refine wpo_skip rfl ?_ | refine wpo_nil ?_ | refine wp_seq ?_ | refine wp_region ?_ | refine wp_skip ?_ | refine wp_ret ?_ | refine wp_block ?_ | refine wp_exit ?_)
  exact ⟨.inr rfl, _, rfl, rfl, rfl⟩
theorem c70 (w : List UInt8) (s : St) : Call EE 70 [strV w] s (fun v s' => v = .bool (bytesEq w []) ∧ s' = s) := by
  refine call_of rfl (fn := Tryz.f70) rfl rfl ?_
  repeat (first | refine wpo_v rfl rfl ?_ | refine wpo_skip rfl ?_ | refine wpo_nil ?_ | refine wp_seq ?_ | refine wp_region ?_ | refine wp_skip ?_ | refine wp_ret ?_ | refine wp_block ?_ | refine wp_exit ?_)
  exact ⟨.inr rfl, _, rfl, rfl, rfl⟩
/-! ### pieces between blanks -/
def piecesA (w : List UInt8) : List UInt8 → List (List UInt8)
  | [] => [w]
  | c :: r => if c = 32 then w :: piecesA [] r else piecesA (w ++ [c]) r
def pieces (l : List UInt8) : List (List UInt8) := piecesA [] l
noncomputable def full (w : List UInt8) : Bool := !bytesEq w []
theorem full_iff (w : List UInt8) : full w = true ↔ w ≠ [] := by
  unfold full; rw [bytesEq_eq]; cases w <;> simp
theorem piecesA_words : ∀ (l w : List UInt8), (piecesA w l).filter full = wordsA w l
  | [], w => by
    unfold piecesA wordsA
    by_cases hw : w = []
    · subst hw; rfl
    · rw [if_neg hw, List.filter_cons_of_pos ((full_iff w).2 hw)]; rfl
  | c :: r, w => by
    unfold piecesA wordsA
    by_cases hc : c = 32
    · rw [if_pos hc, if_pos hc]
      by_cases hw : w = []
      · subst hw; rw [if_pos rfl, List.filter_cons_of_neg (by decide)]; exact piecesA_words r []
      · rw [if_neg hw, List.filter_cons_of_pos ((full_iff w).2 hw), piecesA_words r []]
    · rw [if_neg hc, if_neg hc]; exact piecesA_words r _
theorem piecesA_len : ∀ (l w : List UInt8), (piecesA w l).length = cntB 32 l + 1
  | [], w => rfl
  | c :: r, w => by
    have h : cntB 32 (c :: r) = (match Nat.beq c.toNat (32 : UInt8).toNat with | true => Nat.succ (cntB 32 r) | false => cntB 32 r) := rfl
    unfold piecesA
    rw [h]
    by_cases hc : c = 32
    · subst hc
      rw [if_pos rfl, List.length_cons, piecesA_len r []]; rfl
    · rw [if_neg hc, piecesA_len r _]
      have : Nat.beq c.toNat (32 : UInt8).toNat = false := beq_false' (fun h => hc (UInt8.toNat_inj.1 h))
      rw [this]
/-- the first blank -/
theorem idx_cut : ∀ (l w : List UInt8) (i : Nat), 0 < cntB 32 l → ∃ a r, l = a ++ 32 :: r ∧ idxB 32 l i = Int.ofNat (i + a.length) ∧ piecesA w l = (w ++ a) :: piecesA [] r ∧ cntB 32 l = cntB 32 r + 1
  | [], w, i, h => by cases h
  | c :: l, w, i, h => by
    have hcnt : cntB 32 (c :: l) = (match Nat.beq c.toNat (32 : UInt8).toNat with | true => Nat.succ (cntB 32 l) | false => cntB 32 l) := rfl
    have hidx : idxB 32 (c :: l) i = (match Nat.beq c.toNat (32 : UInt8).toNat with | true => Int.ofNat i | false => idxB 32 l (Nat.succ i)) := rfl
    by_cases hc : c = 32
    · subst hc
      refine ⟨[], l, rfl, by rw [hidx]; rfl, ?_, by rw [hcnt]; rfl⟩
      show (if (32 : UInt8) = 32 then w :: piecesA [] l else _) = _
      rw [if_pos rfl]; simp
    · have hb : Nat.beq c.toNat (32 : UInt8).toNat = false := beq_false' (fun h => hc (UInt8.toNat_inj.1 h))
      rw [hb] at hcnt hidx
      simp only at hcnt hidx
      rw [hcnt] at h
      obtain ⟨a, r, h1, h2, h3, h4⟩ := idx_cut l (w ++ [c]) (i + 1) h
      refine ⟨c :: a, r, by rw [h1]; rfl, ?_, ?_, by rw [hcnt]; exact h4⟩
      · rw [hidx]
        show idxB 32 l (i + 1) = _
        rw [h2]; simp; omega
      · have : piecesA w (c :: l) = piecesA (w ++ [c]) l := by
          show (if c = 32 then _ else piecesA (w ++ [c]) l) = _
          rw [if_neg hc]
        rw [this, h3]; simp
theorem pieces_none : ∀ (l w : List UInt8), cntB 32 l = 0 → piecesA w l = [w ++ l]
  | [], w, _ => by simp [piecesA]
  | c :: l, w, h => by
    have hcnt : cntB 32 (c :: l) = (match Nat.beq c.toNat (32 : UInt8).toNat with | true => Nat.succ (cntB 32 l) | false => cntB 32 l) := rfl
    by_cases hc : c = 32
    · subst hc; rw [hcnt] at h; cases h
    · have hb : Nat.beq c.toNat (32 : UInt8).toNat = false := beq_false' (fun h => hc (UInt8.toNat_inj.1 h))
      rw [hb] at hcnt
      rw [hcnt] at h
      unfold piecesA
      rw [if_neg hc, pieces_none l _ h]; simp
theorem cnt_le : ∀ l : List UInt8, cntB 32 l ≤ l.length
  | [] => Nat.le_refl _
  | c :: l => by
    have hcnt : cntB 32 (c :: l) = (match Nat.beq c.toNat (32 : UInt8).toNat with | true => Nat.succ (cntB 32 l) | false => cntB 32 l) := rfl
    have := cnt_le l
    rw [hcnt]
    cases Nat.beq c.toNat (32 : UInt8).toNat <;> simp <;> omega
end Go.AM

namespace Go.AM
open Go Go.Proofs
set_option maxRecDepth 100000
set_option maxHeartbeats 2000000
theorem ilt_nat (a b : Nat) : ilt (Int.ofNat a) (Int.ofNat b) = decide (a < b) := by rw [ilt_eq]; simp
theorem mk_slice {E : Env} {s : St} {t e esz eb l c : Nat} {k k' : IntKind} {z : List Value} (hk : tkOf E t = .slice e esz eb) (hl : l ≤ c) (hf : c * (eb + 1) < 1099511627776) (hz : zeroOf E e = some z) (hzl : z.length = esz) (h0 : esz ≠ 0) :
    oMakeSlice E s t (.int k (.ofNat l)) (.int k' (.ofNat c)) = some (.v (.slice (some ⟨s.next, 0, none⟩) l c), s.new (.cells (rep z c) .rw e)) := by
  unfold oMakeSlice
  rw [hk]
  simp only [upTo, ble_true hl, fits_ok hf, hz, lenV_eq, hzl, Nat.beq_refl, beq_false' h0]
theorem rep_one (v : Value) (n : Nat) : rep [v] n = List.replicate n v := by
  induction n with
  | zero => rfl
  | succ n ih => rw [rep_succ, ih]; rfl
theorem c122 (l : List UInt8) (hl : l.length ≤ 4000) (s : St) : Call EE 122 [.string ⟨⟨l⟩⟩, .string ⟨⟨[32]⟩⟩, .int .i64 0, .int .i64 (-1)] s
    (fun v s' => v = .slice (some ⟨s.next, 0, none⟩) (pieces l).length (pieces l).length ∧ T.get s'.heap s.next = some (.cells ((pieces l).map strV) .rw 9) ∧ Below s s' ∧ s'.next = s.next + 1) := by
  refine call_of rfl (fn := Tryz.f122) rfl rfl ?_
  have hcl := cnt_le l
  have hpl := piecesA_len l []
  change (pieces l).length = _ at hpl
  repeat (first | refine wpo_v rfl rfl ?_ | refine wpo_skip rfl ?_ | refine wpo_nil ?_ | refine wp_seq ?_ | refine wp_region ?_ | refine wp_skip ?_ | refine wp_ret ?_ | refine wp_block ?_ | refine wp_exit ?_)
  refine wp_cond rfl (fun h => by cases h) (fun _ => ?_)
  repeat (first | refine wpo_v rfl rfl ?_ | refine wpo_skip rfl ?_ | refine wpo_nil ?_ | refine wp_seq ?_ | refine wp_region ?_ | refine wp_skip ?_ | refine wp_ret ?_ | refine wp_block ?_ | refine wp_exit ?_)
  refine wp_cond rfl (fun h => by cases h) (fun _ => ?_)
  repeat (first | refine wpo_v rfl rfl ?_ | refine wpo_skip rfl ?_ | refine wpo_nil ?_ | refine wp_seq ?_ | refine wp_region ?_ | refine wp_skip ?_ | refine wp_ret ?_ | refine wp_block ?_ | refine wp_exit ?_)
  refine wp_cond rfl (fun _ => ?_) (fun h => by cases h)
  repeat (first | refine wpo_v rfl rfl ?_ | refine wpo_skip rfl ?_ | refine wpo_nil ?_ | refine wp_seq ?_ | refine wp_region ?_ | refine wp_skip ?_ | refine wp_ret ?_ | refine wp_block ?_ | refine wp_exit ?_)
  refine wpo_call rfl rfl ?_
  refine (c192 l hl s).mono ?_
  rintro v s1 ⟨rfl, rfl⟩
  refine wpo_v rfl (Eq.trans (show _ = some (N.v (Value.int .i64 (wrapF .i64 (iadd (Int.ofNat (cntB 32 l)) (Int.ofNat 1)))), _) from rfl) (o_i (add_i (by omega)))) ?_
  refine wpo_v rfl rfl ?_
  refine wpo_nil ?_
  repeat (first | refine wp_seq ?_ | refine wp_region ?_ | refine wp_skip ?_ | refine wp_block ?_)
  refine wpo_v rfl rfl ?_
  refine wpo_v rfl rfl ?_
  refine wpo_v rfl rfl ?_
  refine wpo_v rfl (Eq.trans (show _ = some (N.v (Value.int .i64 (wrapF .i64 (iadd (Int.ofNat (lenB l)) (Int.ofNat 1)))), _) from rfl) (o_i (add_i (by rw [lenB_eq]; omega)))) ?_
  have hmin : ∀ s : St, bMin s [.int .i64 (.ofNat (cntB 32 l + 1)), .int .i64 (.ofNat (lenB l + 1))] = some (.v (.int .i64 (.ofNat (cntB 32 l + 1))), s) := by
    intro s
    show some (N.v (Value.int .i64 (match ilt (Int.ofNat (lenB l + 1)) (Int.ofNat (cntB 32 l + 1)) with | true => Int.ofNat (lenB l + 1) | false => Int.ofNat (cntB 32 l + 1))), s) = _
    rw [ilt_nat, decide_eq_false (by rw [lenB_eq]; omega)]
  refine wpo_v rfl (Eq.trans (show _ = bMin _ [.int .i64 (.ofNat (cntB 32 l + 1)), .int .i64 (.ofNat (lenB l + 1))] from rfl) (hmin _)) ?_
  repeat (first | refine wpo_v rfl rfl ?_ | refine wpo_skip rfl ?_ | refine wpo_nil ?_ | refine wp_seq ?_ | refine wp_region ?_ | refine wp_skip ?_ | refine wp_ret ?_ | refine wp_block ?_ | refine wp_exit ?_)
  refine wpo_v rfl (Eq.trans (show _ = oMakeSlice EE _ 77 (.int .i64 (.ofNat (cntB 32 l + 1))) (.int .i64 (.ofNat (cntB 32 l + 1))) from rfl) (mk_slice (E := EE) (e := 9) (esz := 1) (eb := 16) (z := [.string ⟨⟨[]⟩⟩]) rfl (Nat.le_refl _) (by omega) rfl rfl (by omega))) ?_
  refine wpo_v rfl rfl ?_
  refine wpo_nil ?_
  repeat (first | refine wp_seq ?_ | refine wp_region ?_ | refine wp_skip ?_ | refine wp_block ?_)
  refine wpo_v rfl rfl ?_
  refine wpo_v rfl (Eq.trans (show _ = some (N.v (Value.int .i64 (wrapF .i64 (isub (Int.ofNat (cntB 32 l + 1)) (Int.ofNat 1)))), _) from rfl) (o_i (sub_i (b := 1) (by omega) (by omega)))) ?_
  repeat (first | refine wpo_v rfl rfl ?_ | refine wpo_skip rfl ?_ | refine wpo_nil ?_ | refine wp_seq ?_ | refine wp_region ?_ | refine wp_skip ?_ | refine wp_ret ?_ | refine wp_block ?_ | refine wp_exit ?_)
  rw [rep_one]
  have hstart : T.get (s1.new (.cells (List.replicate (cntB 32 l + 1) (.string ⟨⟨[]⟩⟩)) .rw 9)).heap s1.next = some (.cells (List.replicate (cntB 32 l + 1) (.string ⟨⟨[]⟩⟩)) .rw 9) := by rw [new_get, if_pos rfl]
  refine wp_loop (fun k tm s' => ∃ i ds r, k = cntB 32 l - i ∧ i + cntB 32 r = cntB 32 l ∧ ds.length = i ∧ ds ++ piecesA [] r = pieces l ∧ r.length ≤ l.length ∧ T.get s'.heap s1.next = some (.cells (ds.map strV ++ List.replicate (cntB 32 r + 1) (strV [])) .rw 9) ∧ Below s1 s' ∧ s'.next = s1.next + 1 ∧ tm.length = 66 ∧ lk tm 0 = .string ⟨⟨r⟩⟩ ∧ lk tm 1 = .string ⟨⟨[32]⟩⟩ ∧ lk tm 2 = .int .i64 (.ofNat 0) ∧ lk tm 3 = .int .i64 (.ofNat (cntB 32 l)) ∧ lk tm 9 = .slice (some ⟨s1.next, 0, none⟩) (cntB 32 l + 1) (cntB 32 l + 1) ∧ lk tm 10 = .int .i64 (.ofNat i)) (cntB 32 l)
    ⟨0, [], l, rfl, by omega, rfl, rfl, Nat.le_refl _, hstart, Below.new _ _, rfl, rfl, rfl, rfl, rfl, rfl, rfl, rfl⟩ ?_
  rintro k tm s2 ⟨i, ds, r, hk, hir, hds, hpc, hrl, hcell, hbel, hnx, hlen, h0, h1, h2, h3, h9, h10⟩
  obtain ⟨g, rfl⟩ : ∃ g : Nat → Value, tm = g 0 :: g 1 :: g 2 :: g 3 :: g 4 :: g 5 :: g 6 :: g 7 :: g 8 :: g 9 :: g 10 :: g 11 :: g 12 :: g 13 :: g 14 :: g 15 :: g 16 :: g 17 :: g 18 :: g 19 :: g 20 :: g 21 :: g 22 :: g 23 :: g 24 :: g 25 :: g 26 :: g 27 :: g 28 :: g 29 :: g 30 :: g 31 :: g 32 :: g 33 :: g 34 :: g 35 :: g 36 :: g 37 :: g 38 :: g 39 :: g 40 :: g 41 :: g 42 :: g 43 :: g 44 :: g 45 :: g 46 :: g 47 :: g 48 :: g 49 :: g 50 :: g 51 :: g 52 :: g 53 :: g 54 :: g 55 :: g 56 :: g 57 :: g 58 :: g 59 :: g 60 :: g 61 :: g 62 :: g 63 :: g 64 :: g 65 :: [] := ⟨lk tm, (tab_lk tm).trans (by rw [hlen]; rfl)⟩
  change g 0 = _ at h0
  change g 1 = _ at h1
  change g 2 = _ at h2
  change g 3 = _ at h3
  change g 9 = _ at h9
  change g 10 = _ at h10
  rw [h0, h1, h2, h3, h9, h10]
  clear hlen h0 h1 h2 h3 h9 h10
  repeat (first | refine wpo_v rfl rfl ?_ | refine wpo_skip rfl ?_ | refine wpo_nil ?_ | refine wp_seq ?_ | refine wp_region ?_ | refine wp_skip ?_ | refine wp_ret ?_ | refine wp_block ?_ | refine wp_exit ?_)
  refine wp_cond rfl (fun hlt => ?_) (fun hge => ?_)
  · have hlt' : i < cntB 32 l := by have h : ilt (Int.ofNat i) (Int.ofNat (cntB 32 l)) = true := hlt; rw [ilt_nat] at h; simpa using h
    obtain ⟨a, r', hcut, hidx, hpa, hcnt⟩ := idx_cut r [] 0 (by omega)
    repeat (first | refine wpo_v rfl rfl ?_ | refine wpo_skip rfl ?_ | refine wpo_nil ?_ | refine wp_seq ?_ | refine wp_region ?_ | refine wp_skip ?_ | refine wp_ret ?_ | refine wp_block ?_ | refine wp_exit ?_)
    refine wpo_call rfl rfl ?_
    refine (c193 r (by omega) s2).mono ?_
    rintro v s3 ⟨rfl, rfl⟩
    rw [hidx, Nat.zero_add]
    have hal : a.length < r.length := by rw [hcut]; simp
    repeat (first | refine wpo_v rfl rfl ?_ | refine wpo_skip rfl ?_ | refine wpo_nil ?_ | refine wp_seq ?_ | refine wp_region ?_ | refine wp_skip ?_ | refine wp_ret ?_ | refine wp_block ?_ | refine wp_exit ?_)
    refine wp_cond (b := false) (by show Value.bool (ilt (Int.ofNat a.length) (Int.ofNat 0)) = _; rw [ilt_nat]; simp) (fun h => by cases h) (fun _ => ?_)
    repeat (first | refine wp_seq ?_ | refine wp_region ?_ | refine wp_skip ?_ | refine wp_block ?_)
    refine wpo_v rfl rfl ?_
    refine wpo_v rfl rfl ?_
    refine wpo_v rfl rfl ?_
    refine wpo_v rfl rfl ?_
    refine wpo_v rfl rfl ?_
    refine wpo_v rfl (Eq.trans (show _ = some (N.v (Value.int .i64 (wrapF .i64 (iadd (Int.ofNat a.length) (Int.ofNat 0)))), _) from rfl) (o_i (add_i (by omega)))) ?_
    refine wpo_v rfl (Eq.trans (show _ = oSlice EE _ 9 (.string ⟨⟨r⟩⟩) none (some (.int .i64 (.ofNat (a.length + 0)))) none from rfl) (str_to (E := EE) rfl (by omega))) ?_
    refine wpo_v rfl (Eq.trans (show _ = oIndexAddr EE _ 77 (.slice (some ⟨s1.next, 0, none⟩) (cntB 32 l + 1) (cntB 32 l + 1)) (.int .i64 (.ofNat i)) from rfl) (idx_slice (E := EE) (e := 9) (esz := 1) (eb := 16) rfl (by omega))) ?_
    have hta : r.take (a.length + 0) = a := by rw [hcut, Nat.add_zero, List.take_left']; rfl
    refine wpo_v rfl (Eq.trans (show _ = oStore EE _ 9 (.pointer (some ⟨s1.next, 0 + i * 1, none⟩)) (.string ⟨⟨r.take (a.length + 0)⟩⟩) from rfl) (store_cell (E := EE) (x := ⟨.str, 1, [.string ⟨⟨[]⟩⟩], [], false⟩) rfl rfl rfl hcell (by simp) (by simp; omega))) ?_
    refine wpo_nil ?_
    repeat (first | refine wp_seq ?_ | refine wp_region ?_ | refine wp_skip ?_ | refine wp_block ?_)
    refine wpo_v rfl rfl ?_
    refine wpo_v rfl rfl ?_
    refine wpo_v rfl rfl ?_
    refine wpo_v rfl rfl ?_
    refine wpo_v rfl (Eq.trans (show _ = some (N.v (Value.int .i64 (wrapF .i64 (iadd (Int.ofNat a.length) (Int.ofNat 1)))), _) from rfl) (o_i (add_i (by omega)))) ?_
    refine wpo_v rfl (Eq.trans (show _ = oSlice EE _ 9 (.string ⟨⟨r⟩⟩) (some (.int .i64 (.ofNat (a.length + 1)))) none none from rfl) (str_from (E := EE) rfl (by omega))) ?_
    repeat (first | refine wpo_v rfl rfl ?_ | refine wpo_skip rfl ?_ | refine wpo_nil ?_ | refine wp_seq ?_ | refine wp_region ?_ | refine wp_skip ?_ | refine wp_ret ?_ | refine wp_block ?_ | refine wp_exit ?_)
    have hdr : r.drop (a.length + 1) = r' := by rw [hcut, ← List.drop_drop, List.drop_left']; rfl; rfl
    refine ⟨cntB 32 l - (i + 1), by omega, i + 1, ds ++ [a], r', rfl, by omega, by simp [hds], ?_, ?_, ?_, ?_, ?_, rfl, ?_, rfl, rfl, rfl, rfl, ?_⟩
    · rw [← hpc, hpa]; simp
    · rw [hcut] at hrl; simp at hrl; omega
    · rw [put_get, if_pos rfl, hta]
      congr 2
      rw [show 0 + i * 1 = (ds.map strV).length by simp [hds], List.set_append_right _ _ (Nat.le_refl _), Nat.sub_self, hcnt]
      simp [List.replicate_succ, strV]
    · exact ⟨by show s1.next ≤ s3.next; omega, fun k hk => by rw [put_get, if_neg (by omega)]; exact hbel.2 k hk⟩
    · show s3.next = _; exact hnx
    · show Value.string ⟨⟨r.drop (a.length + 1)⟩⟩ = _; rw [hdr]
    · show Value.int .i64 (wrapF .i64 (iadd (Int.ofNat i) (Int.ofNat 1))) = _; rw [add_i (by omega)]
  · have hge' : ¬ i < cntB 32 l := by have h : ilt (Int.ofNat i) (Int.ofNat (cntB 32 l)) = false := hge; rw [ilt_nat] at h; simpa using h
    have hr0 : cntB 32 r = 0 := by omega
    repeat (first | refine wpo_v rfl rfl ?_ | refine wpo_skip rfl ?_ | refine wpo_nil ?_ | refine wp_seq ?_ | refine wp_region ?_ | refine wp_skip ?_ | refine wp_ret ?_ | refine wp_block ?_ | refine wp_exit ?_)
    refine wpo_v rfl (Eq.trans (show _ = oIndexAddr EE _ 77 (.slice (some ⟨s1.next, 0, none⟩) (cntB 32 l + 1) (cntB 32 l + 1)) (.int .i64 (.ofNat i)) from rfl) (idx_slice (E := EE) (e := 9) (esz := 1) (eb := 16) rfl (by omega))) ?_
    refine wpo_v rfl (Eq.trans (show _ = oStore EE _ 9 (.pointer (some ⟨s1.next, 0 + i * 1, none⟩)) (.string ⟨⟨r⟩⟩) from rfl) (store_cell (E := EE) (x := ⟨.str, 1, [.string ⟨⟨[]⟩⟩], [], false⟩) rfl rfl rfl hcell (by simp) (by simp; omega))) ?_
    refine wpo_nil ?_
    repeat (first | refine wp_seq ?_ | refine wp_region ?_ | refine wp_skip ?_ | refine wp_block ?_)
    refine wpo_v rfl rfl ?_
    refine wpo_v rfl rfl ?_
    refine wpo_v rfl (Eq.trans (show _ = some (N.v (Value.int .i64 (wrapF .i64 (iadd (Int.ofNat i) (Int.ofNat 1)))), _) from rfl) (o_i (add_i (by omega)))) ?_
    refine wpo_v rfl (Eq.trans (show _ = oSlice EE _ 77 (.slice (some ⟨s1.next, 0, none⟩) (cntB 32 l + 1) (cntB 32 l + 1)) none (some (.int .i64 (.ofNat (i + 1)))) none from rfl) (sl_to (E := EE) (e := 9) (esz := 1) (eb := 16) rfl (by omega))) ?_
    repeat (first | refine wpo_v rfl rfl ?_ | refine wpo_skip rfl ?_ | refine wpo_nil ?_ | refine wp_seq ?_ | refine wp_region ?_ | refine wp_skip ?_ | refine wp_ret ?_ | refine wp_block ?_ | refine wp_exit ?_)
    have hpr : pieces l = ds ++ [r] := by rw [← hpc, pieces_none r [] hr0]; rfl
    have hlen2 : (pieces l).length = i + 1 := by rw [hpr]; simp [hds]
    refine ⟨.inr rfl, _, rfl, ?_, ?_, ?_, ?_⟩
    · rw [hlen2, show cntB 32 l + 1 = i + 1 by omega]; rfl
    · rw [put_get, if_pos rfl, hpr, hr0]
      congr 2
      rw [show 0 + i * 1 = (ds.map strV).length by simp [hds], List.set_append_right _ _ (Nat.le_refl _), Nat.sub_self]
      simp [strV]
    · exact ⟨by show s1.next ≤ s2.next; omega, fun k hk => by rw [put_get, if_neg (by omega)]; exact hbel.2 k hk⟩
    · show s2.next = _; exact hnx
end Go.AM

namespace Go.AM
open Go Go.Proofs
set_option maxRecDepth 100000
set_option maxHeartbeats 2000000
theorem c69 (l : List UInt8) (hl : l.length ≤ 4000) (s : St) : Call EE 69 [.string ⟨⟨l⟩⟩, .string ⟨⟨[32]⟩⟩] s
    (fun v s' => v = .slice (some ⟨s.next, 0, none⟩) (pieces l).length (pieces l).length ∧ T.get s'.heap s.next = some (.cells ((pieces l).map strV) .rw 9) ∧ Below s s' ∧ s'.next = s.next + 1) := by
  refine call_of rfl (fn := Tryz.f69) rfl rfl ?_
  repeat (first | refine wpo_v rfl rfl ?_ | refine wpo_skip rfl ?_ | refine wpo_nil ?_ | refine wp_seq ?_ | refine wp_region ?_ | refine wp_skip ?_ | refine wp_ret ?_ | refine wp_block ?_ | refine wp_exit ?_)
  refine wpo_call rfl rfl ?_
  refine (c122 l hl s).mono ?_
  rintro v s' ⟨rfl, h1, h2, h3⟩
  repeat (first | refine wpo_v rfl rfl ?_ | refine wpo_skip rfl ?_ | refine wpo_nil ?_ | refine wp_seq ?_ | refine wp_region ?_ | refine wp_skip ?_ | refine wp_ret ?_ | refine wp_block ?_ | refine wp_exit ?_)
  exact ⟨.inr rfl, _, rfl, rfl, h1, h2, h3⟩
/-- the function value that asks for the empty word -/
noncomputable def del70 : Value := .func (.func 70) ⟨[]⟩ ⟨[]⟩
theorem c121 (ps : List (List UInt8)) (hp : ps.length ≤ 5000) (b : Nat) (s : St) (hb : T.get s.heap b = some (.cells (ps.map strV) .rw 9)) :
    Call EE 121 [.slice (some ⟨b, 0, none⟩) ps.length ps.length, del70] s (fun v s' => s' = s ∧ ((v = .int .i64 (-1) ∧ ∀ w ∈ ps, full w = true) ∨ ∃ i w, v = .int .i64 (.ofNat i) ∧ ps[i]? = some w ∧ full w = false ∧ ∀ w ∈ ps.take i, full w = true)) := by
  refine call_of rfl (fn := Tryz.f121) rfl rfl ?_
  repeat (first | refine wpo_v rfl rfl ?_ | refine wpo_skip rfl ?_ | refine wpo_nil ?_ | refine wp_seq ?_ | refine wp_region ?_ | refine wp_skip ?_ | refine wp_ret ?_ | refine wp_block ?_ | refine wp_exit ?_)
  refine wp_loop (fun k tm s' => s' = s ∧ ∃ i, k = ps.length - i ∧ i ≤ ps.length ∧ (∀ w ∈ ps.take i, full w = true) ∧ tm.length = 19 ∧ lk tm 0 = .slice (some ⟨b, 0, none⟩) ps.length ps.length ∧ lk tm 1 = del70 ∧ lk tm 7 = .int .i64 (.ofNat ps.length) ∧ lk tm 8 = .int .i64 (.ofNat i)) ps.length
    ⟨rfl, 0, rfl, by omega, by simp, rfl, rfl, rfl, rfl, rfl⟩ ?_
  rintro k tm s' ⟨rfl, i, hk, hi, hf, hlen, h0, h1, h7, h8⟩
  obtain ⟨g, rfl⟩ : ∃ g : Nat → Value, tm = g 0 :: g 1 :: g 2 :: g 3 :: g 4 :: g 5 :: g 6 :: g 7 :: g 8 :: g 9 :: g 10 :: g 11 :: g 12 :: g 13 :: g 14 :: g 15 :: g 16 :: g 17 :: g 18 :: [] := ⟨lk tm, (tab_lk tm).trans (by rw [hlen]; rfl)⟩
  change g 0 = _ at h0
  change g 1 = _ at h1
  change g 7 = _ at h7
  change g 8 = _ at h8
  rw [h0, h1, h7, h8]
  clear hlen h0 h1 h7 h8
  repeat (first | refine wpo_v rfl rfl ?_ | refine wpo_skip rfl ?_ | refine wpo_nil ?_ | refine wp_seq ?_ | refine wp_region ?_ | refine wp_skip ?_ | refine wp_ret ?_ | refine wp_block ?_ | refine wp_exit ?_)
  refine wp_cond rfl (fun hlt => ?_) (fun hge => ?_)
  · have hlt' : i < ps.length := by have h : ilt (Int.ofNat i) (Int.ofNat ps.length) = true := hlt; rw [ilt_nat] at h; simpa using h
    have hc : ps[i]? = some ps[i] := List.getElem?_eq_getElem hlt'
    generalize ps[i] = w at hc
    repeat (first | refine wpo_v rfl rfl ?_ | refine wpo_skip rfl ?_ | refine wpo_nil ?_ | refine wp_seq ?_ | refine wp_region ?_ | refine wp_skip ?_ | refine wp_ret ?_ | refine wp_block ?_ | refine wp_exit ?_)
    refine wpo_v rfl (Eq.trans (show _ = oIndexAddr EE _ 77 (.slice (some ⟨b, 0, none⟩) ps.length ps.length) (.int .i64 (.ofNat i)) from rfl) (idx_slice (E := EE) (e := 9) (esz := 1) (eb := 16) rfl hlt')) ?_
    refine wpo_v rfl (Eq.trans (show _ = oLoad EE _ 9 (.pointer (some ⟨b, 0 + i * 1, none⟩)) from rfl) (load_cell (E := EE) (x := ⟨.str, 1, [.string ⟨⟨[]⟩⟩], [], false⟩) (v := strV w) rfl rfl rfl hb (by rw [show 0 + i * 1 = i by omega, List.getElem?_map, hc]; rfl))) ?_
    refine wpo_call rfl rfl ?_
    refine (c70 w s').mono ?_
    rintro v s' ⟨rfl, rfl⟩
    repeat (first | refine wpo_v rfl rfl ?_ | refine wpo_skip rfl ?_ | refine wpo_nil ?_ | refine wp_seq ?_ | refine wp_region ?_ | refine wp_skip ?_ | refine wp_ret ?_ | refine wp_block ?_ | refine wp_exit ?_)
    refine wp_cond rfl (fun he => ?_) (fun hn => ?_)
    · repeat (first | refine wpo_v rfl rfl ?_ | refine wpo_skip rfl ?_ | refine wpo_nil ?_ | refine wp_seq ?_ | refine wp_region ?_ | refine wp_skip ?_ | refine wp_ret ?_ | refine wp_block ?_ | refine wp_exit ?_)
      refine ⟨.inr rfl, _, rfl, rfl, .inr ⟨i, w, rfl, hc, ?_, hf⟩⟩
      have h : bytesEq w [] = true := he
      unfold full; rw [h]; rfl
    · repeat (first | refine wpo_v rfl rfl ?_ | refine wpo_skip rfl ?_ | refine wpo_nil ?_ | refine wp_seq ?_ | refine wp_region ?_ | refine wp_skip ?_ | refine wp_ret ?_ | refine wp_block ?_ | refine wp_exit ?_)
      have hw : full w = true := by
        have h : bytesEq w [] = false := hn
        unfold full; rw [h]; rfl
      refine ⟨ps.length - (i + 1), by omega, rfl, i + 1, rfl, by omega, ?_, rfl, rfl, rfl, rfl, ?_⟩
      · intro x hx
        obtain ⟨h1, h2⟩ := List.getElem?_eq_some_iff.1 hc
        rw [List.take_succ_eq_append_getElem h1, h2, List.mem_append] at hx
        rcases hx with hx | hx
        · exact hf x hx
        · simp at hx; subst hx; exact hw
      · show Value.int .i64 (wrapF .i64 (iadd (Int.ofNat i) (Int.ofNat 1))) = _; rw [add_i (by omega)]
  · have hge' : ¬ i < ps.length := by have h : ilt (Int.ofNat i) (Int.ofNat ps.length) = false := hge; rw [ilt_nat] at h; simpa using h
    repeat (first | refine wpo_v rfl rfl ?_ | refine wpo_skip rfl ?_ | refine wpo_nil ?_ | refine wp_seq ?_ | refine wp_region ?_ | refine wp_skip ?_ | refine wp_ret ?_ | refine wp_block ?_ | refine wp_exit ?_)
    refine ⟨.inr rfl, _, rfl, rfl, .inl ⟨rfl, ?_⟩⟩
    rw [show i = ps.length by omega, List.take_length] at hf; exact hf
/-- a slice of strings -/
def SlG (s : St) (v : Value) (ws : List (List UInt8)) : Prop :=
  (ws = [] ∧ ∃ base cap, v = .slice base 0 cap) ∨ ∃ b sp cap xs, v = .slice (some ⟨b, 0, sp⟩) ws.length cap ∧ T.get s.heap b = some (.cells xs .rw 9) ∧ b < s.next ∧ ∀ (j : Nat) (w : List UInt8), ws[j]? = some w → xs[j]? = some (strV w)
theorem c68 (ps : List (List UInt8)) (hp : ps.length ≤ 5000) (b : Nat) (s : St) (hbn : b < s.next) (hb : T.get s.heap b = some (.cells (ps.map strV) .rw 9)) :
    Call EE 68 [.slice (some ⟨b, 0, none⟩) ps.length ps.length, del70] s (fun v s' => SlG s' v (ps.filter full) ∧ s'.next = s.next ∧ ∀ k, k ≠ b → T.get s'.heap k = T.get s.heap k) := by
  refine call_of rfl (fn := Tryz.f68) rfl rfl ?_
  repeat (first | refine wpo_v rfl rfl ?_ | refine wpo_skip rfl ?_ | refine wpo_nil ?_ | refine wp_seq ?_ | refine wp_region ?_ | refine wp_skip ?_ | refine wp_ret ?_ | refine wp_block ?_ | refine wp_exit ?_)
  refine wpo_call rfl rfl ?_
  refine (c121 ps hp b s hb).mono ?_
  rintro v s1 ⟨rfl, hv⟩
  rcases hv with ⟨rfl, hall⟩ | ⟨i0, w0, rfl, hw0, hw0f, hpre⟩
  · repeat (first | refine wpo_v rfl rfl ?_ | refine wpo_skip rfl ?_ | refine wpo_nil ?_ | refine wp_seq ?_ | refine wp_region ?_ | refine wp_skip ?_ | refine wp_ret ?_ | refine wp_block ?_ | refine wp_exit ?_)
    refine wp_cond rfl (fun _ => ?_) (fun h => by cases h)
    repeat (first | refine wpo_v rfl rfl ?_ | refine wpo_skip rfl ?_ | refine wpo_nil ?_ | refine wp_seq ?_ | refine wp_region ?_ | refine wp_skip ?_ | refine wp_ret ?_ | refine wp_block ?_ | refine wp_exit ?_)
    refine ⟨.inr rfl, _, rfl, .inr ⟨b, none, ps.length, ps.map strV, ?_, hb, hbn, ?_⟩, rfl, fun _ _ => rfl⟩
    · rw [List.filter_eq_self.2 hall]; rfl
    · intro j w hj
      rw [List.filter_eq_self.2 hall] at hj
      rw [List.getElem?_map, hj]; rfl
  · have hi0 : i0 < ps.length := (List.getElem?_eq_some_iff.1 hw0).1
    repeat (first | refine wpo_v rfl rfl ?_ | refine wpo_skip rfl ?_ | refine wpo_nil ?_ | refine wp_seq ?_ | refine wp_region ?_ | refine wp_skip ?_ | refine wp_ret ?_ | refine wp_block ?_ | refine wp_exit ?_)
    refine wp_cond (b := false) (by show Value.bool (ieq (Int.ofNat i0) (-1)) = _; rw [ieq_eq]; simp) (fun h => by cases h) (fun _ => ?_)
    repeat (first | refine wp_seq ?_ | refine wp_region ?_ | refine wp_skip ?_ | refine wp_block ?_)
    refine wpo_v rfl rfl ?_
    refine wpo_v rfl (Eq.trans (show _ = some (N.v (Value.int .i64 (wrapF .i64 (iadd (Int.ofNat i0) (Int.ofNat 1)))), _) from rfl) (o_i (add_i (by omega)))) ?_
    repeat (first | refine wpo_v rfl rfl ?_ | refine wpo_skip rfl ?_ | refine wpo_nil ?_ | refine wp_seq ?_ | refine wp_region ?_ | refine wp_skip ?_ | refine wp_ret ?_ | refine wp_block ?_ | refine wp_exit ?_)
    have hkept0 : (ps.take (i0 + 1)).filter full = ps.take i0 := by
      obtain ⟨h1, h2⟩ := List.getElem?_eq_some_iff.1 hw0
      rw [List.take_succ_eq_append_getElem h1, h2, List.filter_append, List.filter_eq_self.2 hpre, List.filter_cons_of_neg (by rw [hw0f]; simp)]
      simp
    refine wp_loop (fun k tm s' => ∃ (i j : Nat) (xs : List Value), k = ps.length - j ∧ i < j ∧ j ≤ ps.length ∧ i = ((ps.take j).filter full).length ∧ T.get s'.heap b = some (.cells xs .rw 9) ∧ xs.length = ps.length ∧ (∀ (t : Nat) (w : List UInt8), ((ps.take j).filter full)[t]? = some w → xs[t]? = some (strV w)) ∧ (∀ (t : Nat) (w : List UInt8), j ≤ t → ps[t]? = some w → xs[t]? = some (strV w)) ∧ s'.next = s1.next ∧ (∀ k, k ≠ b → T.get s'.heap k = T.get s1.heap k) ∧
        tm.length = 42 ∧ lk tm 0 = .slice (some ⟨b, 0, none⟩) ps.length ps.length ∧ lk tm 1 = del70 ∧ lk tm 5 = .int .i64 (.ofNat i) ∧ lk tm 6 = .int .i64 (.ofNat j)) (ps.length - (i0 + 1))
      ⟨i0, i0 + 1, ps.map strV, rfl, by omega, by omega, by rw [hkept0]; simp; omega, hb, by simp, ?_, ?_, rfl, fun _ _ => rfl, rfl, rfl, rfl, rfl, rfl⟩ ?_
    · intro t w ht
      rw [hkept0] at ht
      rw [List.getElem?_map]
      have : t < i0 := by
        have := (List.getElem?_eq_some_iff.1 ht).1
        simp at this; omega
      rw [List.getElem?_take_of_lt this] at ht
      rw [ht]; rfl
    · intro t w _ ht
      rw [List.getElem?_map, ht]; rfl
    rintro k tm s2 ⟨i, j, xs, hk, hij, hj, hil, hcell, hxl, hA, hB, hnx, hoth, hlen, h0, h1, h5, h6⟩
    obtain ⟨g, rfl⟩ : ∃ g : Nat → Value, tm = g 0 :: g 1 :: g 2 :: g 3 :: g 4 :: g 5 :: g 6 :: g 7 :: g 8 :: g 9 :: g 10 :: g 11 :: g 12 :: g 13 :: g 14 :: g 15 :: g 16 :: g 17 :: g 18 :: g 19 :: g 20 :: g 21 :: g 22 :: g 23 :: g 24 :: g 25 :: g 26 :: g 27 :: g 28 :: g 29 :: g 30 :: g 31 :: g 32 :: g 33 :: g 34 :: g 35 :: g 36 :: g 37 :: g 38 :: g 39 :: g 40 :: g 41 :: [] := ⟨lk tm, (tab_lk tm).trans (by rw [hlen]; rfl)⟩
    change g 0 = _ at h0
    change g 1 = _ at h1
    change g 5 = _ at h5
    change g 6 = _ at h6
    rw [h0, h1, h5, h6]
    clear hlen h0 h1 h5 h6
    repeat (first | refine wpo_v rfl rfl ?_ | refine wpo_skip rfl ?_ | refine wpo_nil ?_ | refine wp_seq ?_ | refine wp_region ?_ | refine wp_skip ?_ | refine wp_ret ?_ | refine wp_block ?_ | refine wp_exit ?_)
    refine wp_cond rfl (fun hlt => ?_) (fun hge => ?_)
    · have hlt' : j < ps.length := by have h : ilt (Int.ofNat j) (Int.ofNat ps.length) = true := hlt; rw [ilt_nat] at h; simpa using h
      have hc : ps[j]? = some ps[j] := List.getElem?_eq_getElem hlt'
      generalize ps[j] = w at hc
      have htk : ps.take (j + 1) = ps.take j ++ [w] := by
        obtain ⟨h1, h2⟩ := List.getElem?_eq_some_iff.1 hc
        rw [List.take_succ_eq_append_getElem h1, h2]
      repeat (first | refine wpo_v rfl rfl ?_ | refine wpo_skip rfl ?_ | refine wpo_nil ?_ | refine wp_seq ?_ | refine wp_region ?_ | refine wp_skip ?_ | refine wp_ret ?_ | refine wp_block ?_ | refine wp_exit ?_)
      refine wpo_v rfl (Eq.trans (show _ = oIndexAddr EE _ 77 (.slice (some ⟨b, 0, none⟩) ps.length ps.length) (.int .i64 (.ofNat j)) from rfl) (idx_slice (E := EE) (e := 9) (esz := 1) (eb := 16) rfl hlt')) ?_
      refine wpo_v rfl (Eq.trans (show _ = oLoad EE _ 9 (.pointer (some ⟨b, 0 + j * 1, none⟩)) from rfl) (load_cell (E := EE) (x := ⟨.str, 1, [.string ⟨⟨[]⟩⟩], [], false⟩) (v := strV w) rfl rfl rfl hcell (by rw [show 0 + j * 1 = j by omega]; exact hB j w (Nat.le_refl _) hc))) ?_
      repeat (first | refine wpo_v rfl rfl ?_ | refine wpo_skip rfl ?_ | refine wpo_nil ?_ | refine wp_seq ?_ | refine wp_region ?_ | refine wp_skip ?_ | refine wp_ret ?_ | refine wp_block ?_ | refine wp_exit ?_)
      refine wpo_call rfl rfl ?_
      refine (c70 w s2).mono ?_
      rintro v s3 ⟨rfl, rfl⟩
      repeat (first | refine wpo_v rfl rfl ?_ | refine wpo_skip rfl ?_ | refine wpo_nil ?_ | refine wp_seq ?_ | refine wp_region ?_ | refine wp_skip ?_ | refine wp_ret ?_ | refine wp_block ?_ | refine wp_exit ?_)
      refine wp_cond rfl (fun he => ?_) (fun hn => ?_)
      · have hw : full w = true := he
        repeat (first | refine wpo_v rfl rfl ?_ | refine wpo_skip rfl ?_ | refine wpo_nil ?_ | refine wp_seq ?_ | refine wp_region ?_ | refine wp_skip ?_ | refine wp_ret ?_ | refine wp_block ?_ | refine wp_exit ?_)
        refine wpo_v rfl (Eq.trans (show _ = oIndexAddr EE _ 77 (.slice (some ⟨b, 0, none⟩) ps.length ps.length) (.int .i64 (.ofNat i)) from rfl) (idx_slice (E := EE) (e := 9) (esz := 1) (eb := 16) rfl (by omega))) ?_
        refine wpo_v rfl (Eq.trans (show _ = oStore EE _ 9 (.pointer (some ⟨b, 0 + i * 1, none⟩)) (strV w) from rfl) (store_cell (E := EE) (x := ⟨.str, 1, [.string ⟨⟨[]⟩⟩], [], false⟩) rfl rfl rfl hcell (by simp) (by omega))) ?_
        refine wpo_nil ?_
        repeat (first | refine wp_seq ?_ | refine wp_region ?_ | refine wp_skip ?_ | refine wp_block ?_)
        refine wpo_v rfl rfl ?_
        refine wpo_v rfl (Eq.trans (show _ = some (N.v (Value.int .i64 (wrapF .i64 (iadd (Int.ofNat i) (Int.ofNat 1)))), _) from rfl) (o_i (add_i (by omega)))) ?_
        repeat (first | refine wpo_v rfl rfl ?_ | refine wpo_skip rfl ?_ | refine wpo_nil ?_ | refine wp_seq ?_ | refine wp_region ?_ | refine wp_skip ?_ | refine wp_ret ?_ | refine wp_block ?_ | refine wp_exit ?_)
        have hkept : (ps.take (j + 1)).filter full = (ps.take j).filter full ++ [w] := by rw [htk, List.filter_append, List.filter_cons_of_pos hw]; rfl
        refine ⟨ps.length - (j + 1), by omega, i + 1, j + 1, xs.set (0 + i * 1) (strV w), rfl, by omega, by omega, by rw [hkept]; simp; omega, by rw [put_get, if_pos rfl], by simp; exact hxl, ?_, ?_, hnx, ?_, rfl, rfl, rfl, rfl, ?_⟩
        · intro t u ht
          rw [show 0 + i * 1 = i by omega]
          rw [hkept] at ht
          by_cases hti : t = i
          · subst hti
            rw [hil, List.getElem?_append_right (Nat.le_refl _), Nat.sub_self] at ht
            simp at ht; subst ht
            rw [List.getElem?_set_self (by omega)]
          · rw [List.getElem?_set_ne (by omega)]
            apply hA
            have : t < ((ps.take j).filter full ++ [w]).length := (List.getElem?_eq_some_iff.1 ht).1
            simp only [List.length_append, List.length_cons, List.length_nil] at this
            rw [List.getElem?_append_left (by omega)] at ht; exact ht
        · intro t u htj ht
          rw [List.getElem?_set_ne (by omega)]
          exact hB t u (by omega) ht
        · intro k hk
          rw [put_get, if_neg hk]; exact hoth k hk
        · show Value.int .i64 (wrapF .i64 (iadd (Int.ofNat j) (Int.ofNat 1))) = _; rw [add_i (by omega)]
      · have hw : full w = false := hn
        repeat (first | refine wpo_v rfl rfl ?_ | refine wpo_skip rfl ?_ | refine wpo_nil ?_ | refine wp_seq ?_ | refine wp_region ?_ | refine wp_skip ?_ | refine wp_ret ?_ | refine wp_block ?_ | refine wp_exit ?_)
        have hkept : (ps.take (j + 1)).filter full = (ps.take j).filter full := by rw [htk, List.filter_append, List.filter_cons_of_neg (by rw [hw]; simp)]; simp
        refine ⟨ps.length - (j + 1), by omega, i, j + 1, xs, rfl, by omega, by omega, by rw [hkept]; exact hil, hcell, hxl, by rw [hkept]; exact hA, fun t u htj ht => hB t u (by omega) ht, hnx, hoth, rfl, rfl, rfl, rfl, ?_⟩
        show Value.int .i64 (wrapF .i64 (iadd (Int.ofNat j) (Int.ofNat 1))) = _; rw [add_i (by omega)]
    · have hge' : ¬ j < ps.length := by have h : ilt (Int.ofNat j) (Int.ofNat ps.length) = false := hge; rw [ilt_nat] at h; simpa using h
      have hjl : j = ps.length := by omega
      subst hjl
      rw [List.take_length] at hil hA
      repeat (first | refine wpo_v rfl rfl ?_ | refine wpo_skip rfl ?_ | refine wpo_nil ?_ | refine wp_seq ?_ | refine wp_region ?_ | refine wp_skip ?_ | refine wp_ret ?_ | refine wp_block ?_ | refine wp_exit ?_)
      refine wpo_v rfl (Eq.trans (show _ = oSlice EE _ 77 (.slice (some ⟨b, 0, none⟩) ps.length ps.length) (some (.int .i64 (.ofNat i))) none none from rfl) (sl_from (E := EE) (e := 9) (esz := 1) (eb := 16) rfl (by omega) (Nat.le_refl _) (by omega))) ?_
      refine wpo_v rfl (Eq.trans (show _ = bClear EE _ 9 1 (some ⟨b, 0 + i * 1, none⟩) (ps.length - i) from rfl) (clear_ok (E := EE) (z := [.string ⟨⟨[]⟩⟩]) hcell (by simp) rfl rfl (by omega) (by omega))) ?_
      refine wpo_nil ?_
      repeat (first | refine wp_seq ?_ | refine wp_region ?_ | refine wp_skip ?_ | refine wp_block ?_)
      refine wpo_v rfl rfl ?_
      refine wpo_v rfl rfl ?_
      refine wpo_v rfl (Eq.trans (show _ = oSlice EE _ 77 (.slice (some ⟨b, 0, none⟩) ps.length ps.length) none (some (.int .i64 (.ofNat i))) none from rfl) (sl_to (E := EE) (e := 9) (esz := 1) (eb := 16) rfl (by omega))) ?_
      repeat (first | refine wpo_v rfl rfl ?_ | refine wpo_skip rfl ?_ | refine wpo_nil ?_ | refine wp_seq ?_ | refine wp_region ?_ | refine wp_skip ?_ | refine wp_ret ?_ | refine wp_block ?_ | refine wp_exit ?_)
      refine ⟨.inr rfl, _, rfl, .inr ⟨b, none, ps.length, _, ?_, (put_get _ _ _ _).trans (if_pos rfl), ?_, ?_⟩, hnx, ?_⟩
      · rw [← hil]; rfl
      · show b < s2.next; omega
      · intro t w ht
        have h1 := hA t w ht
        have h2 : t < (ps.filter full).length := (List.getElem?_eq_some_iff.1 ht).1
        rw [List.append_assoc, List.getElem?_append_left (by simp; omega), List.getElem?_take_of_lt (by omega)]
        exact h1
      · intro k hk
        rw [put_get, if_neg hk]; exact hoth k hk
/-- script.Words -/
theorem c27 (l : List UInt8) (hl : l.length ≤ 4000) (s : St) : Call EE 27 [.string ⟨⟨l⟩⟩] s (fun v s' => SlG s' v (words l) ∧ Below s s') := by
  refine call_of rfl (fn := Tryz.f27) rfl rfl ?_
  repeat (first | refine wpo_v rfl rfl ?_ | refine wpo_skip rfl ?_ | refine wpo_nil ?_ | refine wp_seq ?_ | refine wp_region ?_ | refine wp_skip ?_ | refine wp_ret ?_ | refine wp_block ?_ | refine wp_exit ?_)
  refine wpo_call rfl rfl ?_
  refine (c69 l hl s).mono ?_
  rintro v s1 ⟨rfl, h1, h2, h3⟩
  refine wpo_call rfl rfl ?_
  have hpl : (pieces l).length ≤ 5000 := by
    have h : (pieces l).length = _ := piecesA_len l []
    have := cnt_le l
    omega
  refine (c68 (pieces l) hpl s.next s1 (by omega) h1).mono ?_
  rintro v s2 ⟨g1, g2, g3⟩
  repeat (first | refine wpo_v rfl rfl ?_ | refine wpo_skip rfl ?_ | refine wpo_nil ?_ | refine wp_seq ?_ | refine wp_region ?_ | refine wp_skip ?_ | refine wp_ret ?_ | refine wp_block ?_ | refine wp_exit ?_)
  refine ⟨.inr rfl, [v], rfl, ?_, by omega, fun k hk => ?_⟩
  · have : (pieces l).filter full = words l := piecesA_words l []
    rw [← this]; exact g1
  · rw [g3 k (by omega)]; exact h2.2 k hk
end Go.AM

namespace Go.AM
open Go Go.Proofs
set_option maxRecDepth 100000
set_option maxHeartbeats 2000000
theorem isTrue_ok {q : Option (Res × St)} (h : isTrue q = true) : ∃ s', q = some (.out (.ret (.bool true)) none, s') := by
  unfold isTrue at h
  split at h
  · exact ⟨_, rfl⟩
  · cases h
theorem c26 : Call EE 26 [] s0 (fun v _ => v = .bool true) := by
  obtain ⟨s', h⟩ := isTrue_ok k1
  exact ⟨_, s', ⟨_, h⟩, rfl⟩
theorem SlG.below {s s' : St} {v : Value} {ws : List (List UInt8)} (h : SlG s v ws) (hb : Below s s') : SlG s' v ws := by
  rcases h with h | ⟨b, sp, cap, xs, h1, h2, h3, h4⟩
  · exact .inl h
  · exact .inr ⟨b, sp, cap, xs, h1, by rw [hb.2 b h3]; exact h2, by have := hb.1; omega, h4⟩
theorem SlW.gen {s : St} {v : Value} {ws : List (List UInt8)} {n : Nat} (h : SlW s v ws n) : SlG s v ws := by
  rcases h with ⟨h1, h2⟩ | ⟨b, h1, h2, h3, h4⟩
  · exact .inl ⟨h1, _, _, h2⟩
  · refine .inr ⟨b, some 1, _, _, h2, h3, h4, ?_⟩
    intro j w hj
    rw [List.getElem?_map, hj]; rfl
theorem SlG.sl {s : St} {v : Value} {ws : List (List UInt8)} (h : SlG s v ws) : ∃ base cap, v = .slice base ws.length cap := by
  rcases h with ⟨rfl, base, cap, h⟩ | ⟨b, sp, cap, xs, h1, _⟩
  · exact ⟨base, cap, h⟩
  · exact ⟨_, cap, h1⟩
theorem bytesEq_self (w : List UInt8) : bytesEq w w = true := by rw [bytesEq_eq]; simp
theorem c5 (l : List UInt8) : Call EE 5 [.string ⟨⟨l⟩⟩] s0 (fun v _ => v = .bool true) := by
  refine call_of rfl (fn := Tryz.f5) rfl rfl ?_
  repeat (first | refine wpo_v rfl rfl ?_ | refine wpo_skip rfl ?_ | refine wpo_nil ?_ | refine wp_seq ?_ | refine wp_region ?_ | refine wp_skip ?_ | refine wp_ret ?_ | refine wp_block ?_ | refine wp_exit ?_)
  refine wpo_call rfl rfl ?_
  refine c26.mono ?_
  rintro v s1 rfl
  repeat (first | refine wpo_v rfl rfl ?_ | refine wpo_skip rfl ?_ | refine wpo_nil ?_ | refine wp_seq ?_ | refine wp_region ?_ | refine wp_skip ?_ | refine wp_ret ?_ | refine wp_block ?_ | refine wp_exit ?_)
  refine wp_cond rfl (fun h => by cases h) (fun _ => ?_)
  repeat (first | refine wpo_v rfl rfl ?_ | refine wpo_skip rfl ?_ | refine wpo_nil ?_ | refine wp_seq ?_ | refine wp_region ?_ | refine wp_skip ?_ | refine wp_ret ?_ | refine wp_block ?_ | refine wp_exit ?_)
  refine wp_cond rfl (fun hgt => ?_) (fun hle => ?_)
  · repeat (first | refine wpo_v rfl rfl ?_ | refine wpo_skip rfl ?_ | refine wpo_nil ?_ | refine wp_seq ?_ | refine wp_region ?_ | refine wp_skip ?_ | refine wp_ret ?_ | refine wp_block ?_ | refine wp_exit ?_)
    exact ⟨.inr rfl, _, rfl, rfl⟩
  have hl : l.length ≤ 4000 := by
    have h : ilt (Int.ofNat 4000) (Int.ofNat (lenB l)) = false := hle
    rw [ilt_nat, lenB_eq] at h; simpa using h
  repeat (first | refine wpo_v rfl rfl ?_ | refine wpo_skip rfl ?_ | refine wpo_nil ?_ | refine wp_seq ?_ | refine wp_region ?_ | refine wp_skip ?_ | refine wp_ret ?_ | refine wp_block ?_ | refine wp_exit ?_)
  refine wpo_call rfl rfl ?_
  refine (c27 l hl s1).mono ?_
  rintro va s2 ⟨ha, _⟩
  repeat (first | refine wpo_v rfl rfl ?_ | refine wpo_skip rfl ?_ | refine wpo_nil ?_ | refine wp_seq ?_ | refine wp_region ?_ | refine wp_skip ?_ | refine wp_ret ?_ | refine wp_block ?_ | refine wp_exit ?_)
  refine wpo_call rfl rfl ?_
  refine (c28 l hl s2).mono ?_
  rintro vb s3 ⟨hb', hbel⟩
  have ha := ha.below hbel
  have hb := hb'.gen
  clear hb'
  have hwl : (words l).length ≤ l.length + 1 := wordsA_len l []
  generalize words l = ws at ha hb hwl
  obtain ⟨ba, ca, rfl⟩ := ha.sl
  obtain ⟨bb, cb, rfl⟩ := hb.sl
  repeat (first | refine wpo_v rfl rfl ?_ | refine wpo_skip rfl ?_ | refine wpo_nil ?_ | refine wp_seq ?_ | refine wp_region ?_ | refine wp_skip ?_ | refine wp_ret ?_ | refine wp_block ?_ | refine wp_exit ?_)
  refine wp_loop (fun k tm s' => s' = s3 ∧ ∃ i, k = ws.length - i ∧ i ≤ ws.length ∧ tm.length = 66 ∧ lk tm 0 = .string ⟨⟨l⟩⟩ ∧ lk tm 3 = .slice ba ws.length ca ∧ lk tm 4 = .slice bb ws.length cb ∧ lk tm 20 = .slice ba ws.length ca ∧ lk tm 21 = .int .i64 (.ofNat ws.length) ∧ lk tm 22 = .int .i64 (.ofNat i)) ws.length
    ⟨rfl, 0, rfl, by omega, rfl, rfl, rfl, rfl, rfl, rfl, rfl⟩ ?_
  rintro k tm s' ⟨rfl, i, hk, hi, hlen, h0, h3, h4, h20, h21, h22⟩
  obtain ⟨g, rfl⟩ : ∃ g : Nat → Value, tm = g 0 :: g 1 :: g 2 :: g 3 :: g 4 :: g 5 :: g 6 :: g 7 :: g 8 :: g 9 :: g 10 :: g 11 :: g 12 :: g 13 :: g 14 :: g 15 :: g 16 :: g 17 :: g 18 :: g 19 :: g 20 :: g 21 :: g 22 :: g 23 :: g 24 :: g 25 :: g 26 :: g 27 :: g 28 :: g 29 :: g 30 :: g 31 :: g 32 :: g 33 :: g 34 :: g 35 :: g 36 :: g 37 :: g 38 :: g 39 :: g 40 :: g 41 :: g 42 :: g 43 :: g 44 :: g 45 :: g 46 :: g 47 :: g 48 :: g 49 :: g 50 :: g 51 :: g 52 :: g 53 :: g 54 :: g 55 :: g 56 :: g 57 :: g 58 :: g 59 :: g 60 :: g 61 :: g 62 :: g 63 :: g 64 :: g 65 :: [] := ⟨lk tm, (tab_lk tm).trans (by rw [hlen]; rfl)⟩
  change g 0 = _ at h0
  change g 3 = _ at h3
  change g 4 = _ at h4
  change g 20 = _ at h20
  change g 21 = _ at h21
  change g 22 = _ at h22
  rw [h0, h3, h4, h20, h21, h22]
  clear hlen h0 h3 h4 h20 h21 h22
  repeat (first | refine wpo_v rfl rfl ?_ | refine wpo_skip rfl ?_ | refine wpo_nil ?_ | refine wp_seq ?_ | refine wp_region ?_ | refine wp_skip ?_ | refine wp_ret ?_ | refine wp_block ?_ | refine wp_exit ?_)
  refine wp_cond rfl (fun hlt => ?_) (fun hge => ?_)
  · have hlt' : i < ws.length := by have h : ilt (Int.ofNat i) (Int.ofNat ws.length) = true := hlt; rw [ilt_nat] at h; simpa using h
    have hc : ws[i]? = some ws[i] := List.getElem?_eq_getElem hlt'
    generalize ws[i] = w at hc
    have hne : ws ≠ [] := by rintro rfl; simp at hlt'
    rcases ha with ⟨h, _⟩ | ⟨b1, sp1, cap1, xs1, e1, ha2, ha3, ha4⟩
    · exact absurd h hne
    rcases hb with ⟨h, _⟩ | ⟨b2, sp2, cap2, xs2, e2, hb2, hb3, hb4⟩
    · exact absurd h hne
    injection e1 with e1 _ _; subst e1
    injection e2 with e2 _ _; subst e2
    repeat (first | refine wpo_v rfl rfl ?_ | refine wpo_skip rfl ?_ | refine wpo_nil ?_ | refine wp_seq ?_ | refine wp_region ?_ | refine wp_skip ?_ | refine wp_ret ?_ | refine wp_block ?_ | refine wp_exit ?_)
    refine wpo_v rfl (Eq.trans (show _ = oIndexAddr EE _ 77 (.slice (some ⟨b1, 0, sp1⟩) ws.length ca) (.int .i64 (.ofNat i)) from rfl) (idx_slice (E := EE) (e := 9) (esz := 1) (eb := 16) rfl hlt')) ?_
    refine wpo_v rfl (Eq.trans (show _ = oLoad EE _ 9 (.pointer (some ⟨b1, 0 + i * 1, none⟩)) from rfl) (load_cell (E := EE) (x := ⟨.str, 1, [.string ⟨⟨[]⟩⟩], [], false⟩) (v := strV w) rfl rfl rfl ha2 (by rw [show 0 + i * 1 = i by omega]; exact ha4 i w hc))) ?_
    refine wpo_v rfl rfl ?_
    refine wpo_v rfl rfl ?_
    refine wpo_nil ?_
    repeat (first | refine wp_seq ?_ | refine wp_region ?_ | refine wp_skip ?_ | refine wp_block ?_)
    refine wpo_v rfl rfl ?_
    refine wpo_v rfl rfl ?_
    refine wpo_v rfl rfl ?_
    refine wpo_v rfl rfl ?_
    refine wpo_v rfl (o_b (show (!ieq (Int.ofNat ws.length) (Int.ofNat ws.length)) = false by rw [ieq_eq]; simp)) ?_
    repeat (first | refine wpo_v rfl rfl ?_ | refine wpo_skip rfl ?_ | refine wpo_nil ?_ | refine wp_seq ?_ | refine wp_region ?_ | refine wp_skip ?_ | refine wp_ret ?_ | refine wp_block ?_ | refine wp_exit ?_)
    refine wpo_v rfl (Eq.trans (show _ = oIndexAddr EE _ 77 (.slice (some ⟨b2, 0, sp2⟩) ws.length cb) (.int .i64 (.ofNat i)) from rfl) (idx_slice (E := EE) (e := 9) (esz := 1) (eb := 16) rfl hlt')) ?_
    refine wpo_v rfl (Eq.trans (show _ = oLoad EE _ 9 (.pointer (some ⟨b2, 0 + i * 1, none⟩)) from rfl) (load_cell (E := EE) (x := ⟨.str, 1, [.string ⟨⟨[]⟩⟩], [], false⟩) (v := strV w) rfl rfl rfl hb2 (by rw [show 0 + i * 1 = i by omega]; exact hb4 i w hc))) ?_
    refine wpo_v rfl (o_b (show (!bytesEq w w) = false by rw [bytesEq_self]; rfl)) ?_
    repeat (first | refine wpo_v rfl rfl ?_ | refine wpo_skip rfl ?_ | refine wpo_nil ?_ | refine wp_seq ?_ | refine wp_region ?_ | refine wp_skip ?_ | refine wp_ret ?_ | refine wp_block ?_ | refine wp_exit ?_)
    refine wp_cond rfl (fun h => by cases h) (fun _ => ?_)
    repeat (first | refine wpo_v rfl rfl ?_ | refine wpo_skip rfl ?_ | refine wpo_nil ?_ | refine wp_seq ?_ | refine wp_region ?_ | refine wp_skip ?_ | refine wp_ret ?_ | refine wp_block ?_ | refine wp_exit ?_)
    refine ⟨ws.length - (i + 1), by omega, rfl, i + 1, rfl, by omega, rfl, rfl, rfl, rfl, rfl, rfl, ?_⟩
    show Value.int .i64 (wrapF .i64 (iadd (Int.ofNat i) (Int.ofNat 1))) = _; rw [add_i (by omega)]
  · repeat (first | refine wpo_v rfl rfl ?_ | refine wpo_skip rfl ?_ | refine wpo_nil ?_ | refine wp_seq ?_ | refine wp_region ?_ | refine wp_skip ?_ | refine wp_ret ?_ | refine wp_block ?_ | refine wp_exit ?_)
    refine wpo_call rfl rfl ?_
    refine (c29 l hl s').mono ?_
    rintro v s4 rfl
    have hnum : ∃ n b, numV l = .tuple ⟨[.int .i64 n, .bool b]⟩ := by
      unfold numV; split
      · exact ⟨_, _, rfl⟩
      · exact ⟨_, _, rfl⟩
    obtain ⟨n, b, hnum⟩ := hnum
    rw [hnum]
    repeat (first | refine wpo_v rfl rfl ?_ | refine wpo_skip rfl ?_ | refine wpo_nil ?_ | refine wp_seq ?_ | refine wp_region ?_ | refine wp_skip ?_ | refine wp_ret ?_ | refine wp_block ?_ | refine wp_exit ?_)
    refine wpo_call rfl rfl ?_
    refine (c30 l hl s4).mono ?_
    rintro v s5 ⟨rfl, rfl⟩
    rw [hnum]
    repeat (first | refine wp_seq ?_ | refine wp_region ?_ | refine wp_skip ?_ | refine wp_block ?_)
    refine wpo_v rfl rfl ?_
    refine wpo_v rfl rfl ?_
    refine wpo_v rfl rfl ?_
    refine wpo_v rfl rfl ?_
    refine wpo_v rfl rfl ?_
    refine wpo_nil ?_
    repeat (first | refine wp_seq ?_ | refine wp_region ?_ | refine wp_skip ?_ | refine wp_block ?_)
    refine wpo_v rfl rfl ?_
    refine wpo_v rfl rfl ?_
    refine wpo_v rfl rfl ?_
    refine wpo_v rfl rfl ?_
    refine wpo_v rfl (o_b (show ieq (Int.ofNat ws.length) (Int.ofNat ws.length) = true by rw [ieq_eq]; simp)) ?_
    refine wpo_v rfl rfl ?_
    refine wpo_v rfl rfl ?_
    refine wpo_v rfl rfl ?_
    refine wpo_v rfl (o_b (show ieq n n = true by rw [ieq_eq]; simp)) ?_
    refine wpo_v rfl rfl ?_
    refine wpo_v rfl rfl ?_
    refine wpo_v rfl rfl ?_
    refine wpo_v rfl rfl ?_
    refine wpo_v rfl (o_b (show (b == b) = true by simp)) ?_
    repeat (first | refine wpo_v rfl rfl ?_ | refine wpo_skip rfl ?_ | refine wpo_nil ?_ | refine wp_seq ?_ | refine wp_region ?_ | refine wp_skip ?_ | refine wp_ret ?_ | refine wp_block ?_ | refine wp_exit ?_)
    exact ⟨.inr rfl, _, rfl, rfl⟩
end Go.AM
