/- AM, operation by operation: what AM answers, the model answers. -/
import Derived.Test.YtnlbfblcjnpoaaaGreatDoorAmB2
import Derived.MapKept
namespace Go.AM
open Go
section
variable {P : Program} {E : Env} {m : Mp} {s s' : St} {w : World} {n : N} {ev ρ : Operand → Value} {d : Option Tmp} {ty : TypeId} {pos : String} {af : Array Edge} {g : Option (Nat × Bool)}

theorem wrap64 {c : Nat} (h : c < 9223372036854775808) : IntKind.i64.wrap (Int.ofNat c) = Int.ofNat c := wrap_small .i64 c h
theorem run_info {t : TypeId} {i : TypeInfo} (h : P.info? t = some i) (w : World) : (typeInfo t).run P w = .ok i w := by simp [typeInfo, h]
theorem op_makeSlice (hE : EnvOK P E) (r : Rel m s w) (hρ : ER m ev ρ) (t : TypeId) (l c : Operand) (h : hMakeSlice t l c E s ev = some (n, s')) :
    OpR P m s w n s' ((execOp ρ ⟨d, .makeSlice t l c, ty, pos, af, g⟩).run P w) := by
  have hl := hρ l
  have hc := hρ c
  unfold hMakeSlice oMakeSlice at h
  split at h
  · rename_i e esz eb hk
    obtain ⟨k1, i, k2, k3, k4, _⟩ := kr_of hE hk (by simp)
    split at h
    · rename_i kc cn hkc
      rw [hkc] at hc
      split at h
      · rename_i ln hup
        obtain ⟨⟨kl, el⟩, hle⟩ := upTo_some hup
        rw [el] at hl
        split at h
        · rename_i hfit
          cases hz : zeroOf E e with
          | none => rw [hz] at h; cases h
          | some z =>
            rw [hz] at h
            simp only at h
            split at h
            · rename_i hb1 hb3
              injection h with h; injection h with h1 h2; subst h1; subst h2
              obtain ⟨zv, z1, z2, z3, z4, _⟩ := run_zero hE hz m w
              rw [Nat.beq_eq, lenV_eq] at hb1
              have hb3' : esz ≠ 0 := by rintro rfl; cases hb3
              have hfit' : cn * (eb + 1) < 1099511627776 := by
                unfold fits at hfit; rw [Nat.blt_eq] at hfit; exact hfit
              have hcn : cn < 1099511627776 := Nat.lt_of_le_of_lt (Nat.le_mul_of_pos_right _ (by omega)) hfit'
              have hcb : cn * eb < 1099511627776 := Nat.lt_of_le_of_lt (Nat.mul_le_mul_left _ (by omega)) hfit'
              have hlb : ln * eb < 1099511627776 := Nat.lt_of_le_of_lt (Nat.mul_le_mul_right _ hle) hcb
              have hzc : zv.cells = ⟨z⟩ := by rw [← z2]
              obtain ⟨r', x'⟩ := new_cells r (e := e) (k := .rw) (fr := (0, 0)) [] (rep_rel z3 cn) (rep_cells z4 cn) rfl
              have hrun : (execOp ρ ⟨d, .makeSlice t l c, ty, pos, af, g⟩).run P w = .ok (.value (.slice (some ⟨w.heap.size, 0, none⟩) ln cn)) (pushW w (.cells ⟨rep z cn ++ []⟩ e (0, 0))) := by
                have w1 : IntKind.i64.wrap (cn : Int) = (cn : Int) := wrap64 (c := cn) (by omega)
                have w2 : IntKind.i64.wrap (ln : Int) = (ln : Int) := wrap64 (c := ln) (by omega)
                have hinfo : P.info? e = some i := k2
                simp only [execOp, Instr.makeSlice, hl.int_inv, hc.int_inv, asInt, asIntOf, run_info hinfo, k4, Sem.run_bind, run_underlying k1, Result.andThen_ok, Sem.run_pure, Int.ofNat_eq_natCast, w1, w2]
                have c1 : (decide ((cn : Int) < 0) || decide ((eb : Int) * (cn : Int) > 2 ^ 48)) = false := by
                  have : ((eb : Int) * (cn : Int)) = ((cn * eb : Nat) : Int) := by rw [Int.mul_comm]; simp
                  rw [this]; simp; omega
                simp only [c1, Bool.false_or]
                rw [if_neg (by simp; omega)]
                have c2 : ¬ (cn * eb > roomBytes) := by simp [roomBytes]; omega
                simp only [askRoom, Int.toNat_natCast, if_neg c2, Sem.run_bind, Sem.run_pure, Result.andThen_ok, run_size ⟨i, k2, k3⟩ w]
                by_cases hl0 : cn * esz = 0
                · have hl : cn = 0 := by rcases Nat.mul_eq_zero.1 hl0 with h | h <;> omega
                  subst hl
                  rw [if_pos hl0]
                  simp only [Sem.run_bind, Sem.run_pure, Result.andThen_ok]
                  rw [show ((Array.range (0 * esz)).map fun i => (#[] : Array Value)[i % (#[] : Array Value).size]!) = ⟨rep z 0⟩ by simp [rep_zero]]
                  simp only [newRow, Sem.run_bind, run_newObj, Result.andThen_ok, Sem.run_pure, List.append_nil]
                  rfl
                · rw [if_neg hl0]
                  have hza : ((Array.range (cn * esz)).map fun i => (⟨z⟩ : Array Value)[i % (⟨z⟩ : Array Value).size]!) = ⟨rep z cn⟩ := by
                    rw [← hb1]; exact zeros_cells z cn
                  simp only [Sem.run_bind, z1, Sem.run_pure, Result.andThen_ok, hzc, hza]
                  simp only [newRow, Sem.run_bind, run_newObj, Result.andThen_ok, Sem.run_pure, List.append_nil]
                  rfl
              rw [hrun]
              exact .v (.slice 0 ln cn (setM_self _ _ _)) r' x'
            · cases h
        · cases h
      · cases h
    · cases h
  · cases h

/-! ## maps -/
/-- a key of a plain type, of both sides the same -/
theorem key_inv (hE : EnvOK P E) {kt : TypeId} {k k' : Value} (h : keyK E kt k = true) (hk : VR m k k') :
    k' = k ∧ ((∃ j i, k = .int j i ∧ ∃ j', P.underlying kt = some (.int j')) ∨ (∃ b, k = .string b ∧ P.underlying kt = some .string)) := by
  unfold keyK at h
  split at h
  · rename_i j' hkt
    have k1 : P.underlying kt = some (.int j') := kr_of hE hkt (by simp)
    split at h
    · exact ⟨hk.int_inv, .inl ⟨_, _, rfl, _, k1⟩⟩
    · cases h
  · rename_i hkt
    have k1 : P.underlying kt = some .string := kr_of hE hkt (by simp)
    split at h
    · exact ⟨hk.string_inv, .inr ⟨_, rfl, k1⟩⟩
    · cases h
  · cases h
def keyD (D : TypeDesc) (k : Value) : Prop := (∃ j i j', k = .int j i ∧ D = .int j') ∨ (∃ b, k = .string b ∧ D = .string)
theorem keyEq_now {D : TypeDesc} {k e e' : Value} {b : Bool} (hD : keyD D k) (he : VR m e e') (h : keyEq k e = some b) : Instr.sameNow D k e' = some b ∧ (b = true → e' = k) := by
  rcases hD with ⟨j, i, j', rfl, rfl⟩ | ⟨x, rfl, rfl⟩
  · unfold keyEq at h
    split at h
    · rename_i k1 a1 k2 b1 hq
      injection hq with q1 q2; subst q1; subst q2
      split at h
      · rename_i hkq
        injection h with h; subst h
        have := kEq_eq hkq
        subst this
        rw [he.int_inv]
        refine ⟨by simp [Instr.sameNow, ieq_eq], ?_⟩
        intro hb
        rw [ieq_eq] at hb
        have := eq_of_beq hb
        subst this; rfl
      · cases h
    · rename_i hq; cases hq
    · cases h
  · unfold keyEq at h
    split at h
    · rename_i hq; cases hq
    · rename_i a1 b1 hq
      injection hq with q1; subst q1
      injection h with h; subst h
      rw [he.string_inv]
      have e1 : (x == b1) = bytesEq x.data.toList b1.data.toList := by
        rw [bytesEq_eq, Bool.eq_iff_iff, MapKept.bytes_beq]
        constructor
        · rintro rfl; simp
        · intro hx
          have := eq_of_beq hx
          apply ByteArray.ext; apply Array.ext'; exact this
      refine ⟨by simp only [Instr.sameNow, e1], ?_⟩
      intro hb
      rw [← e1, MapKept.bytes_beq] at hb
      subst hb; rfl
    · cases h
theorem find_now {D : TypeDesc} {k : Value} (hD : keyD D k) : ∀ {es : List ME} {es' : List MapEntry} (i : Nat) {r : Option Value}, MERs m es es' → findE k es = some r →
    (r = none ∧ Instr.findNow D k es' i = some none) ∨ ∃ v v' j, r = some v ∧ Instr.findNow D k es' i = some (some (j, v')) ∧ VR m v v'
  | [], _, i, r, .nil, h => by injection h with h; subst h; exact .inl ⟨rfl, rfl⟩
  | e :: es, _, i, r, .cons (y := y) (ys := ys) he hs, h => by
    have h' : (match keyEq k e.key with | some true => some (some e.val) | some false => findE k es | none => none) = some r := h
    cases hk : keyEq k e.key with
    | none => rw [hk] at h'; cases h'
    | some b =>
      rw [hk] at h'
      obtain ⟨q1, _⟩ := keyEq_now hD he.key hk
      cases b with
      | true =>
        injection h' with h'; subst h'
        exact .inr ⟨_, _, i, rfl, by simp [Instr.findNow, q1], he.val⟩
      | false =>
        rcases find_now hD (i + 1) hs h' with ⟨e1, e2⟩ | ⟨v, v', j, e1, e2, e3⟩
        · exact .inl ⟨e1, by simp [Instr.findNow, q1, e2]⟩
        · exact .inr ⟨v, v', j, e1, by simp [Instr.findNow, q1, e2], e3⟩
/-- a key that is there gets another value -/
theorem upd_now {D : TypeDesc} {k v v' : Value} (hk : VR m k k) (hv : VR m v v') (hD : keyD D k) : ∀ {es : List ME} {es' : List MapEntry} (i : Nat) {r : Option (List ME)}, MERs m es es' → updE k v es = some r →
    (r = none ∧ Instr.findNow D k es' i = some none) ∨ ∃ fs x j e0, r = some fs ∧ Instr.findNow D k es' i = some (some (i + j, x)) ∧ es'[j]? = some e0 ∧ e0.key = k ∧ MERs m fs (es'.modify j fun e => { e with key := k, val := v' })
  | [], _, i, r, .nil, h => by injection h with h; subst h; exact .inl ⟨rfl, rfl⟩
  | e :: es, _, i, r, .cons (y := y) (ys := ys) he hs, h => by
    have h' : (match keyEq k e.key with
      | some true => some (some (⟨k, v, e.born⟩ :: es))
      | some false => (match updE k v es with | some (some r') => some (some (e :: r')) | x => x)
      | none => none) = some r := h
    cases hkk : keyEq k e.key with
    | none => rw [hkk] at h'; cases h'
    | some b =>
      rw [hkk] at h'
      obtain ⟨q1, q2⟩ := keyEq_now hD he.key hkk
      cases b with
      | true =>
        injection h' with h'; subst h'
        exact .inr ⟨_, y.val, 0, y, rfl, by simp [Instr.findNow, q1], by simp, q2 rfl, by simpa using MERs.cons (x := ⟨k, v, e.born⟩) (y := { y with key := k, val := v' }) ⟨hk, hv, he.born⟩ hs⟩
      | false =>
        simp only at h'
        cases hu : updE k v es with
        | none => rw [hu] at h'; cases h'
        | some q =>
          rw [hu] at h'
          rcases upd_now hk hv hD (i + 1) hs hu with ⟨e1, e2⟩ | ⟨fs, x, j, e0, e1, e2, e3, e4, e5⟩
          · subst e1
            injection h' with h'; subst h'
            exact .inl ⟨rfl, by simp [Instr.findNow, q1, e2]⟩
          · subst e1
            injection h' with h'; subst h'
            refine .inr ⟨_, x, j + 1, e0, rfl, ?_, by simpa using e3, e4, by simpa using MERs.cons he e5⟩
            simp only [Instr.findNow, q1, e2]
            congr 3; omega
/-- a key goes -/
theorem del_now {D : TypeDesc} {k : Value} (hD : keyD D k) : ∀ {es : List ME} {es' : List MapEntry} (i : Nat) {r : List ME}, MERs m es es' → delE k es = some r →
    (Instr.findNow D k es' i = some none ∧ MERs m r es') ∨ ∃ x j, Instr.findNow D k es' i = some (some (i + j, x)) ∧ j < es'.length ∧ MERs m r (es'.eraseIdx j)
  | [], _, i, r, .nil, h => by injection h with h; subst h; exact .inl ⟨rfl, .nil⟩
  | e :: es, _, i, r, .cons (y := y) (ys := ys) he hs, h => by
    have h' : (match keyEq k e.key with
      | some true => some es
      | some false => (match delE k es with | some r' => some (e :: r') | none => none)
      | none => none) = some r := h
    cases hkk : keyEq k e.key with
    | none => rw [hkk] at h'; cases h'
    | some b =>
      rw [hkk] at h'
      obtain ⟨q1, _⟩ := keyEq_now hD he.key hkk
      cases b with
      | true =>
        injection h' with h'; subst h'
        exact .inr ⟨_, 0, by simp [Instr.findNow, q1]; rfl, by simp, by simpa using hs⟩
      | false =>
        simp only at h'
        cases hu : delE k es with
        | none => rw [hu] at h'; cases h'
        | some q =>
          rw [hu] at h'; injection h' with h'; subst h'
          rcases del_now hD (i + 1) hs hu with ⟨e1, e2⟩ | ⟨x, j, e1, e2, e3⟩
          · exact .inl ⟨by simp [Instr.findNow, q1, e1], .cons he e2⟩
          · refine .inr ⟨x, j + 1, ?_, by simpa using e2, by simpa using MERs.cons he e3⟩
            simp only [Instr.findNow, q1, e1]
            congr 3; omega
theorem key_desc (hE : EnvOK P E) {kt : TypeId} {k k' : Value} (h : keyK E kt k = true) (hk : VR m k k') :
    k' = k ∧ VR m k k ∧ ∃ D, P.underlying kt = some D ∧ keyD D k ∧ ∀ b n w, (Instr.checkKey b (n + 1) kt k).run P w = .ok () w := by
  obtain ⟨e, h2⟩ := key_inv hE h hk
  subst e
  refine ⟨rfl, hk, ?_⟩
  rcases h2 with ⟨j, i, rfl, j', k1⟩ | ⟨b, rfl, k1⟩
  · exact ⟨_, k1, .inl ⟨_, _, _, rfl, rfl⟩, fun _ _ _ => by simp [Instr.checkKey, run_underlying k1]⟩
  · exact ⟨_, k1, .inr ⟨_, rfl, rfl⟩, fun _ _ _ => by simp [Instr.checkKey, run_underlying k1]⟩
theorem findKey_run {kt : TypeId} {D : TypeDesc} {k : Value} {es : List MapEntry} {r : Option (Nat × Value)} (hD : P.underlying kt = some D) (h : Instr.findNow D k es 0 = some r) (w : World) :
    (Instr.findKey kt k es).run P w = .ok r w := by
  simp only [Instr.findKey, Sem.run_bind, run_underlying hD, Result.andThen_ok, h, Sem.run_pure]
/-- a map, on both sides -/
theorem map_of (r : Rel m s w) {x x' : Value} {es : List ME} (hx : VR m x x') (h : entsOf s x = some es) :
    (x = .map none ∧ x' = .map none ∧ es = []) ∨ ∃ k b n c es', x = .map (some k) ∧ x' = .map (some b) ∧ m k = some (b, n) ∧ T.get s.heap k = some (.map es c) ∧ w.heap[b]? = some (.map ⟨es'⟩ c) ∧ MERs m es es' := by
  unfold entsOf at h
  split at h
  · cases hx; injection h with h; subst h; exact .inl ⟨rfl, rfl, rfl⟩
  · rename_i k
    split at h
    · rename_i es0 c hg
      injection h with h; subst h
      cases hx
      rename_i hm
      obtain ⟨b', n', o', h1, h2, h3⟩ := r.ob k _ hg
      rw [hm] at h1; injection h1 with h1; injection h1 with h1 h1'; subst h1; subst h1'
      cases h3 with
      | map _ _ hs => exact .inr ⟨_, _, _, _, _, rfl, rfl, hm, hg, h2, hs⟩
    · cases h
  · cases h
theorem zero_rel (hE : EnvOK P E) {t : TypeId} {z : List Value} {v : Value} (hz : zeroOf E t = some z) (hw : wrapV (tkOf E t) z = some v) (w : World) :
    ∃ zv, (zeroValue t).run P w = .ok zv w ∧ VR m v zv := by
  unfold zeroOf at hz
  unfold tkOf at hw
  cases ht : T.get E.tys t with
  | none => rw [ht] at hz; cases hz
  | some ti =>
    rw [ht] at hz hw
    injection hz with hz; subst hz
    have tr := hE.tys t ti ht
    obtain ⟨i, zv, h1, h2, h3, h4, h5, h6⟩ := tr.info
    refine ⟨zv, by simp [zeroValue, typeInfo, h1, h3], ?_⟩
    rcases wrapV_rel hw (tr.zero m) tr.cells with ⟨q1, q2⟩ | ⟨q1, y, q2, q3⟩
    · rw [h5 q1]; exact q2
    · have := h6 q1
      rw [this] at q2
      injection q2 with q2 _; subst q2; exact q3
theorem okV_rel {v v' : Value} (h : VR m v v') (ok b : Bool) : VR m (okV ok v b) (if ok then .tuple #[v', .bool b] else v') := by
  cases ok with
  | true => exact .tuple (.cons h (.cons (.bool b) .nil))
  | false => exact h
theorem run_getMap {b : Nat} {es : Array MapEntry} {c : Nat} (h : w.heap[b]? = some (.map es c)) : (getObj b).run P w = .ok (.map es c) w := by simp [getObj, Sem.run, h]
theorem run_setMap {b : Nat} {es : Array MapEntry} {c : Nat} (o : Obj) (h : w.heap[b]? = some (.map es c)) : (setObj b o).run P w = .ok () (putW w b o) := by simp [setObj, Sem.run, h, putW]
theorem op_lookup (hE : EnvOK P E) (r : Rel m s w) (hρ : ER m ev ρ) (t : TypeId) (x k : Operand) (ok : Bool) (h : hLookup t x k ok E s ev = some (n, s')) :
    OpR P m s w n s' ((execOp ρ ⟨d, .lookup t x k ok, ty, pos, af, g⟩).run P w) := by
  have hx := hρ x
  have hk := hρ k
  unfold hLookup oLookup at h
  split at h
  · rename_i kt e hkt
    have k1 : P.underlying t = some (.map kt e) := kr_of hE hkt (by simp)
    split at h
    · rename_i es hkk hes
      obtain ⟨q1, q2, D, q3, q4, q5⟩ := key_desc hE hkk hk
      rw [q1] at hk
      have q5' : ∀ b w, (Instr.checkKey b 10000 kt (ev k)).run P w = .ok () w := fun b w => q5 b 9999 w
      have fin : ∀ (es' : List MapEntry), MERs m es es' → ∃ q v', Instr.findNow D (ev k) es' 0 = some q ∧
          ((∃ j, q = some (j, v') ∧ n = .v (okV ok (match findE (ev k) es with | some (some v) => v | _ => undef) true) ∧ s' = s ∧ VR m (match findE (ev k) es with | some (some v) => v | _ => undef) v') ∨
           (q = none ∧ s' = s ∧ (zeroValue e).run P w = .ok v' w ∧ ∃ z, n = .v (okV ok z false) ∧ VR m z v')) := by
        intro es' hs
        cases hf : findE (ev k) es with
        | none => rw [hf] at h; cases h
        | some q =>
          rw [hf] at h
          rcases find_now q4 0 hs hf with ⟨e1, e2⟩ | ⟨v, v', j, e1, e2, e3⟩
          · subst e1
            simp only at h
            cases hz : zeroOf E e with
            | none => rw [hz] at h; cases h
            | some z =>
              rw [hz] at h
              simp only at h
              cases hw : wrapV (tkOf E e) z with
              | none => rw [hw] at h; cases h
              | some zz =>
                rw [hw] at h; injection h with h; injection h with h1 h2; subst h1; subst h2
                obtain ⟨zv, g1, g2⟩ := zero_rel (P := P) (m := m) hE hz hw w
                exact ⟨none, zv, e2, .inr ⟨rfl, rfl, g1, zz, rfl, g2⟩⟩
          · subst e1
            injection h with h; injection h with h1 h2; subst h1; subst h2
            exact ⟨some (j, v'), v', e2, .inl ⟨j, rfl, rfl, rfl, e3⟩⟩
      rcases map_of r hx hes with ⟨e1, e2, e3⟩ | ⟨k0, b, nn, c, es', e1, e2, e3, e4, e5, e6⟩
      · subst e3
        obtain ⟨q, v', g1, g2⟩ := fin [] .nil
        rcases g2 with ⟨j, rfl, rfl, rfl, g3⟩ | ⟨rfl, rfl, g3, z, rfl, g4⟩
        · simp only [execOp, e2, q1, Instr.lookup, Sem.run_bind, run_underlying k1, Result.andThen_ok, Sem.run_pure, q5', findKey_run q3 g1]
          exact .same r (okV_rel g3 ok true)
        · simp only [execOp, e2, q1, Instr.lookup, Sem.run_bind, run_underlying k1, Result.andThen_ok, Sem.run_pure, q5', findKey_run q3 g1, g3]
          exact .same r (okV_rel g4 ok false)
      · obtain ⟨q, v', g1, g2⟩ := fin es' e6
        rcases g2 with ⟨j, rfl, rfl, rfl, g3⟩ | ⟨rfl, rfl, g3, z, rfl, g4⟩
        · simp only [execOp, e2, q1, Instr.lookup, Sem.run_bind, run_underlying k1, Result.andThen_ok, Sem.run_pure, run_getMap e5, q5', findKey_run q3 g1]
          exact .same r (okV_rel g3 ok true)
        · simp only [execOp, e2, q1, Instr.lookup, Sem.run_bind, run_underlying k1, Result.andThen_ok, Sem.run_pure, run_getMap e5, q5', findKey_run q3 g1, g3]
          exact .same r (okV_rel g4 ok false)
    · cases h
  · cases h
/-- a map is written -/
theorem map_put (r : Rel m s w) {k b n c c' : Nat} {es es2 : List ME} {ys : Array MapEntry} (hm : m k = some (b, n)) (hg : T.get s.heap k = some (.map es c)) (hs : MERs m es2 ys.toList) :
    Rel m (s.put k (some (.map es2 c'))) (putW w b (.map ys c')) ∧ Ext m s w m (s.put k (some (.map es2 c'))) (putW w b (.map ys c')) :=
  r.put hg (by simp [isRo]) hm (.map c' n hs)
theorem sameBits_key {D : TypeDesc} {k : Value} (hD : keyD D k) (n : Nat) : Instr.sameBits n k k = true := by
  rcases hD with ⟨j, i, j', rfl, _⟩ | ⟨x, rfl, _⟩ <;> cases n <;> simp [Instr.sameBits, (MapKept.bytes_beq _ _).2 rfl]
theorem update_run (hE : EnvOK P E) (r : Rel m s w) {t : TypeId} {x k v x' k' v' : Value} (hx : VR m x x') (hk : VR m k k') (hv : VR m v v') (h : oUpdate E s t x k v = some (n, s')) :
    ∃ w', (Instr.mapUpdate t x' k' v').run P w = .ok () w' ∧ n = .v undef ∧ Rel m s' w' ∧ Ext m s w m s' w' := by
  unfold oUpdate at h
  split at h
  · rename_i kt e hkt
    have k1 : P.underlying t = some (.map kt e) := kr_of hE hkt (by simp)
    split at h
    · rename_i k0 hkk
      split at h
      · rename_i es c hg
        obtain ⟨q1, q2, D, q3, q4, q5⟩ := key_desc hE hkk hk
        have q5' : ∀ b w, (Instr.checkKey b 10000 kt k).run P w = .ok () w := fun b w => q5 b 9999 w
        cases hx
        rename_i b nn hm
        obtain ⟨b', n', o', h1, h2, h3⟩ := r.ob k0 _ hg
        rw [hm] at h1; injection h1 with h1; injection h1 with h1 h1'; subst h1; subst h1'
        cases h3 with
        | map _ _ hs =>
          rename_i es'
          subst q1
          cases hu : updE k' v es with
          | none => rw [hu] at h; cases h
          | some q =>
            rw [hu] at h
            rcases upd_now q2 hv q4 0 hs hu with ⟨e1, e2⟩ | ⟨fs, x, j, e0, e1, e2, e3, e4, e5⟩
            · subst e1
              injection h with h; injection h with h1 h2; subst h1; subst h2
              obtain ⟨r', x'⟩ := map_put r (c' := c + 1) (es2 := es ++ [⟨k', v, c⟩]) (ys := (⟨es'⟩ : Array MapEntry).push ⟨k', v', c⟩) hm hg (by simpa using hs.append (.cons ⟨q2, hv, rfl⟩ .nil))
              refine ⟨_, ?_, rfl, by rw [catE_eq]; exact r', by rw [catE_eq]; exact x'⟩
              simp only [Instr.mapUpdate, Sem.run_bind, run_underlying k1, Result.andThen_ok, run_getMap h2, q5', findKey_run q3 e2, run_setMap _ h2]
            · subst e1
              injection h with h; injection h with h1 h2; subst h1; subst h2
              obtain ⟨r', x'⟩ := map_put r (c' := c) (es2 := fs) (ys := (⟨es'⟩ : Array MapEntry).modify j fun e => { e with key := k', val := v' }) hm hg (by simpa using e5)
              refine ⟨_, ?_, rfl, r', x'⟩
              have e3' : (⟨es'⟩ : Array MapEntry)[0 + j]? = some e0 := by simpa using e3
              simp only [Instr.mapUpdate, Sem.run_bind, run_underlying k1, Result.andThen_ok, run_getMap h2, q5', findKey_run q3 e2, e3', Option.map_some, Option.getD_some, e4, Instr.keyThatStays, sameBits_key q4, if_true, Sem.run_pure, run_setMap _ h2]
              simp
      · cases h
    · cases h
  · cases h
theorem op_update (hE : EnvOK P E) (r : Rel m s w) (hρ : ER m ev ρ) (t : TypeId) (x k v : Operand) (h : hUpdate t x k v E s ev = some (n, s')) :
    OpR P m s w n s' ((execOp ρ ⟨d, .mapUpdate t x k v, ty, pos, af, g⟩).run P w) := by
  obtain ⟨w', q1, q2, q3, q4⟩ := update_run (P := P) hE r (hρ x) (hρ k) (hρ v) h
  subst q2
  simp only [execOp, Sem.run_bind, q1, Result.andThen_ok, Sem.run_pure]
  exact .skip q3 q4
theorem op_insert (hE : EnvOK P E) (r : Rel m s w) (hρ : ER m ev ρ) (t : TypeId) (x k v : Operand) (h : hUpdate t x k v E s ev = some (n, s')) :
    OpR P m s w n s' ((execOp ρ ⟨d, .insert t x k v, ty, pos, af, g⟩).run P w) := by
  obtain ⟨w', q1, q2, q3, q4⟩ := update_run (P := P) hE r (hρ x) (hρ k) (hρ v) h
  subst q2
  simp only [execOp, Sem.run_bind, q1, Result.andThen_ok, Sem.run_pure]
  exact .skip q3 q4
end
end Go.AM

namespace Go.AM
open Go
section
variable {P : Program} {E : Env} {m : Mp} {s s' : St} {w : World} {n : N} {ev ρ : Operand → Value} {d : Option Tmp} {ty : TypeId} {pos : String} {af : Array Edge} {g : Option (Nat × Bool)}

theorem mapAt (r : Rel m s w) {k b n : Nat} {es : List ME} {c : Nat} (hm : m k = some (b, n)) (h : T.get s.heap k = some (.map es c)) :
    ∃ es' : List MapEntry, w.heap[b]? = some (.map es'.toArray c) ∧ MERs m es es' := by
  obtain ⟨b', n', o', h1, h2, h3⟩ := r.ob k _ h
  rw [hm] at h1; injection h1 with h1; injection h1 with h1 h1'; subst h1; subst h1'
  cases h3 with
  | map _ _ hs => exact ⟨_, h2, hs⟩
theorem op_range (hE : EnvOK P E) (r : Rel m s w) (hρ : ER m ev ρ) (t : TypeId) (x : Operand) (h : hRange t x E s ev = some (n, s')) :
    OpR P m s w n s' ((execOp ρ ⟨d, .range t x, ty, pos, af, g⟩).run P w) := by
  have hx := hρ x
  unfold hRange oRange at h
  split at h
  · rename_i kt e hkt
    have k1 : P.underlying t = some (.map kt e) := kr_of hE hkt (by simp)
    split at h
    · rename_i hkx
      rw [hkx] at hx
      injection h with h; injection h with h1 h2; subst h1; subst h2
      cases hy : ρ x <;> rw [hy] at hx <;> cases hx
      obtain ⟨r', x'⟩ := r.new (o := .iter none 0 [] 0) (o' := .mapIter none 0 #[] 0) (n := 0) (.iter 0 [] 0 0 .no)
      have : (execOp ρ ⟨d, .range t x, ty, pos, af, g⟩).run P w = .ok (.value (.pointer (some ⟨w.heap.size, 0, none⟩))) (pushW w (.mapIter none 0 #[] 0)) := by
        simp only [execOp, hy, Instr.range, Sem.run_bind, run_underlying k1, Sem.run_pure, Result.andThen_ok, run_newObj]
        rfl
      rw [this]
      exact .v (.ptr 0 (setM_self _ _ _)) r' x'
    · rename_i k0 hkx
      rw [hkx] at hx
      split at h
      · rename_i es c hg
        injection h with h; injection h with h1 h2; subst h1; subst h2
        cases hy : ρ x <;> rw [hy] at hx <;> cases hx
        rename_i hm
        rename_i b2 n2
        obtain ⟨es', h2, _⟩ := mapAt r hm hg
        · obtain ⟨r', x'⟩ := r.new (o := .iter (some k0) c [] c) (o' := .mapIter (some b2) c #[] c) (n := 0) (.iter c [] c 0 (.yes (setM_mono (r.low _ (Nat.le_refl _)) _ _ hm)))
          have : (execOp ρ ⟨d, .range t x, ty, pos, af, g⟩).run P w = .ok (.value (.pointer (some ⟨w.heap.size, 0, none⟩))) (pushW w (.mapIter (some b2) c #[] c)) := by
            simp only [execOp, hy, Instr.range, Sem.run_bind, run_underlying k1, run_getMap h2, Sem.run_pure, Result.andThen_ok, run_newObj]
            rfl
          rw [this]
          exact .v (.ptr 0 (setM_self _ _ _)) r' x'
      · cases h
    · cases h
  · cases h
theorem run_getIter {b : Nat} {a : Option Nat} {c : Nat} {sn : Array Nat} {q : Nat} (h : w.heap[b]? = some (.mapIter a c sn q)) : (getObj b).run P w = .ok (.mapIter a c sn q) w := by simp [getObj, Sem.run, h]
theorem run_setIter {b : Nat} {a : Option Nat} {c : Nat} {sn : Array Nat} {q : Nat} (o : Obj) (h : w.heap[b]? = some (.mapIter a c sn q)) : (setObj b o).run P w = .ok () (putW w b o) := by simp [setObj, Sem.run, h, putW]
theorem iter_of (r : Rel m s w) {k b n : Nat} {a : Option Nat} {c q : Nat} {sn : List Nat} (hm : m k = some (b, n)) (h : T.get s.heap k = some (.iter a c sn q)) :
    ∃ a', w.heap[b]? = some (.mapIter a' c sn.toArray q) ∧ OptR m a a' := by
  obtain ⟨b', n', o', h1, h2, h3⟩ := r.ob k _ h
  rw [hm] at h1; injection h1 with h1; injection h1 with h1 h1'; subst h1; subst h1'
  cases h3 with
  | iter _ _ _ _ hs => exact ⟨_, h2, hs⟩
theorem forced1 : (Question.mapNext 1).forced = true := rfl
theorem filter1 (p : MapEntry → Bool) : (#[] : Array MapEntry).filter p = #[] := rfl
theorem op_next (r : Rel m s w) (hρ : ER m ev ρ) (x : Operand) (str : Bool) (h : hNext x str E s ev = some (n, s')) :
    OpR P m s w n s' ((execOp ρ ⟨d, .next x str, ty, pos, af, g⟩).run P w) := by
  have hx := hρ x
  unfold hNext oNext at h
  have over : OpR P m s w (.v (.tuple ⟨[.bool false]⟩)) s (.ok (.value (.tuple #[.bool false])) w) := .same r (.tuple (.cons (.bool false) .nil))
  split at h
  · rename_i b hkx
    rw [hkx] at hx
    obtain ⟨b', nn, e1, e2⟩ := hx.ptr_inv
    split at h
    · rename_i since seen st hit
      injection h with h; injection h with h1 h2; subst h1; subst h2
      obtain ⟨a', g1, g2⟩ := iter_of r e2 hit
      cases g2
      simp only [execOp, e1, Instr.next, Sem.run_bind, run_getIter g1, Sem.run_pure, Result.andThen_ok]
      exact over
    · rename_i r0 since seen st hit
      obtain ⟨a', g1, g2⟩ := iter_of r e2 hit
      cases g2
      rename_i b2 n2 hm2
      split at h
      · rename_i c hmp
        injection h with h; injection h with h1 h2; subst h1; subst h2
        obtain ⟨es', g3, g4⟩ := mapAt r hm2 hmp
        cases g4
        simp only [execOp, e1, Instr.next, Sem.run_bind, run_getIter g1, run_getMap g3, Sem.run_pure, Result.andThen_ok]
        simp [filter1, forced1]
        exact over
      · rename_i e c hmp
        obtain ⟨es', g3, g4⟩ := mapAt r hm2 hmp
        cases g4 with
        | cons g5 g6 =>
          rename_i y _
          cases g6
          split at h
          · split at h
            · rename_i hlt
              injection h with h; injection h with h1 h2; subst h1; subst h2
              rw [Nat.blt_eq] at hlt
              have hlt' : y.born < since := by rw [g5.born]; exact hlt
              obtain ⟨r', x'⟩ := r.put (o := .iter (some r0) since [e.born] c) (o' := .mapIter (some b2) since #[y.born] c) hit (by simp [isRo]) e2 (by rw [← g5.born]; exact .iter since [y.born] c nn (.yes hm2))
              have hrun : (execOp ρ ⟨d, .next x false, ty, pos, af, g⟩).run P w = .ok (.value (.tuple #[.bool true, y.key, y.val])) (putW w b' (.mapIter (some b2) since #[y.born] c)) := by
                simp only [execOp, e1, Instr.next, Sem.run_bind, run_getIter g1, run_getMap g3, Sem.run_pure, Result.andThen_ok]
                simp [hlt', forced1, run_setIter _ g1]
              rw [hrun]
              exact .v (.tuple (.cons (.bool true) (.cons g5.key (.cons g5.val .nil)))) r' x'
            · cases h
          · rename_i q
            split at h
            · rename_i hq hlt
              injection h with h; injection h with h1 h2; subst h1; subst h2
              rw [Nat.beq_eq] at hq
              rw [Nat.blt_eq] at hlt
              subst hq
              have hb := g5.born
              have hrun : (execOp ρ ⟨d, .next x false, ty, pos, af, g⟩).run P w = .ok (.value (.tuple #[.bool false])) w := by
                simp only [execOp, e1, Instr.next, Sem.run_bind, run_getIter g1, run_getMap g3, Sem.run_pure, Result.andThen_ok]
                simp [forced1, hb]
                exact hlt
              rw [hrun]
              exact over
            · cases h
          · cases h
      · cases h
    · cases h
  · cases h
theorem op_entry (r : Rel m s w) (hρ : ER m ev ρ) (x : Operand) (h : hEntry x E s ev = some (n, s')) :
    OpR P m s w n s' ((execOp ρ ⟨d, .entry x, ty, pos, af, g⟩).run P w) := by
  have hx := hρ x
  unfold hEntry oEntry at h
  split at h
  · rename_i b hkx
    rw [hkx] at hx
    obtain ⟨b', nn, e1, e2⟩ := hx.ptr_inv
    split at h
    · rename_i r0 since q st hit
      obtain ⟨a', g1, g2⟩ := iter_of r e2 hit
      cases g2
      rename_i b2 n2 hm2
      split at h
      · rename_i e c hmp
        obtain ⟨es', g3, g4⟩ := mapAt r hm2 hmp
        cases g4 with
        | cons g5 g6 =>
          rename_i y _
          cases g6
          split at h
          · rename_i hq hc
            injection h with h; injection h with h1 h2; subst h1; subst h2
            rw [Nat.beq_eq] at hq hc
            subst hq; subst hc
            have hb := g5.born
            have hrun : (execOp ρ ⟨d, .entry x, ty, pos, af, g⟩).run P w = .ok (.value (.tuple #[y.key, y.val])) w := by
              simp only [execOp, e1, Instr.entry, Sem.run_bind, run_getIter g1, Sem.run_pure, Result.andThen_ok]
              simp [hb, run_getMap g3]
            rw [hrun]
            exact .same r (.tuple (.cons g5.key (.cons g5.val .nil)))
          · cases h
      · cases h
    · cases h
  · cases h
theorem op_assert (hE : EnvOK P E) (r : Rel m s w) (hρ : ER m ev ρ) (x : Operand) (xt t : TypeId) (ok : Bool) (h : hAssert x t ok E s ev = some (n, s')) :
    OpR P m s w n s' ((execOp ρ ⟨d, .typeAssert x xt t ok, ty, pos, af, g⟩).run P w) := by
  have hx := hρ x
  have hno : tkOf E t ≠ .iface := by
    intro hh; unfold hAssert oAssert at h; rw [hh] at h; cases h
  have hno2 : tkOf E t ≠ .other := by
    intro hh; unfold hAssert oAssert at h; rw [hh] at h; cases h
  have h' : oAssertK E s (ev x) t ok (tkOf E t) = some (n, s') := by
    unfold hAssert oAssert at h
    cases hk : tkOf E t <;> rw [hk] at h <;> first | exact absurd hk hno | exact absurd hk hno2 | exact h
  unfold oAssertK at h'
  obtain ⟨D, hD, hDi⟩ : ∃ D, P.underlying t = some D ∧ ∀ ms, D ≠ .interface ms := by
    have := kr_of hE rfl hno2
    cases hk : tkOf E t <;> rw [hk] at this <;> simp only [KR] at this <;> first
      | exact absurd hk hno
      | exact absurd hk hno2
      | exact ⟨_, this, by simp⟩
      | exact ⟨_, this.1, by simp⟩
      | (obtain ⟨_, q, _⟩ := this; exact ⟨_, q, by simp⟩)
      | (obtain ⟨_, _, _, q⟩ := this; exact ⟨_, q, by simp⟩)
  cases ok with
  | false =>
    simp only at h'
    split at h'
    · rename_i u v hkx
      rw [hkx] at hx
      split at h'
      · rename_i hu
        injection h' with h'; injection h' with h1 h2; subst h1; subst h2
        rw [Nat.beq_eq] at hu; subst hu
        cases hy : ρ x <;> rw [hy] at hx <;> cases hx
        rename_i v' hv
        have hrun : (execOp ρ ⟨d, .typeAssert x xt u false, ty, pos, af, g⟩).run P w = .ok (.value v') w := by
          simp only [execOp, hy, Instr.typeAssert, Sem.run_bind, run_underlying hD, Result.andThen_ok]
          cases D <;> first | exact absurd rfl (hDi _) | simp
        rw [hrun]
        exact .same r hv
      · cases h'
    · cases h'
  | true =>
    simp only at h'
    cases hz : zeroOf E t with
    | none => rw [hz] at h'; cases h'
    | some z =>
      rw [hz] at h'
      simp only at h'
      cases hw : wrapV (tkOf E t) z with
      | none => rw [hw] at h'; cases h'
      | some zz =>
        rw [hw] at h'
        simp only at h'
        obtain ⟨zv, g1, g2⟩ := zero_rel (P := P) (m := m) hE hz hw w
        split at h'
        · rename_i u v hkx
          rw [hkx] at hx
          cases hy : ρ x <;> rw [hy] at hx <;> cases hx
          rename_i v' hv
          split at h'
          · rename_i hu
            injection h' with h'; injection h' with h1 h2; subst h1; subst h2
            rw [Nat.beq_eq] at hu; subst hu
            have hrun : (execOp ρ ⟨d, .typeAssert x xt u true, ty, pos, af, g⟩).run P w = .ok (.value (.tuple #[v', .bool true])) w := by
              simp only [execOp, hy, Instr.typeAssert, Sem.run_bind, run_underlying hD, Result.andThen_ok]
              cases D <;> first | exact absurd rfl (hDi _) | simp
            rw [hrun]
            exact .same r (.tuple (.cons hv (.cons (.bool true) .nil)))
          · rename_i hu
            injection h' with h'; injection h' with h1 h2; subst h1; subst h2
            have hu' : ¬ u = t := by rintro rfl; simp at hu
            have hrun : (execOp ρ ⟨d, .typeAssert x xt t true, ty, pos, af, g⟩).run P w = .ok (.value (.tuple #[zv, .bool false])) w := by
              simp only [execOp, hy, Instr.typeAssert, Sem.run_bind, run_underlying hD, Result.andThen_ok]
              cases D <;> first | exact absurd rfl (hDi _) | simp [hu', g1]
            rw [hrun]
            exact .same r (.tuple (.cons g2 (.cons (.bool false) .nil)))
        · rename_i hkx
          rw [hkx] at hx
          cases hy : ρ x <;> rw [hy] at hx <;> cases hx
          injection h' with h'; injection h' with h1 h2; subst h1; subst h2
          have hrun : (execOp ρ ⟨d, .typeAssert x xt t true, ty, pos, af, g⟩).run P w = .ok (.value (.tuple #[zv, .bool false])) w := by
            simp only [execOp, hy, Instr.typeAssert, Sem.run_bind, run_underlying hD, Result.andThen_ok]
            cases D <;> first | exact absurd rfl (hDi _) | simp [g1]
          rw [hrun]
          exact .same r (.tuple (.cons g2 (.cons (.bool false) .nil)))
        · cases h'
end
end Go.AM
