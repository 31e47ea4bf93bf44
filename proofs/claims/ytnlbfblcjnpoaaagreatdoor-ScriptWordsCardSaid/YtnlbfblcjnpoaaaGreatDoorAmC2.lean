/- AM, operation by operation: what AM answers, the model answers. -/
import Derived.Test.YtnlbfblcjnpoaaaGreatDoorAmC
import Derived.Laws.Append
namespace Go.AM
open Go
section
variable {P : Program} {E : Env} {m : Mp} {s s' : St} {w : World} {n : N} {ev ρ : Operand → Value} {d : Option Tmp} {ty : TypeId} {pos : String} {af : Array Edge} {g : Option (Nat × Bool)}

/-- the part of append behind its count -/
def growOn (elem : TypeId) (size bytes n : Nat) (base : Option Addr) (sLen sCap : Nat) (appended : Sem (Array Value)) : Sem Value := do
  if sLen + n ≤ sCap then
    let new ← appended
    if let some a := base then storeCells (a.add (sLen * size)) new.toList
    pure (.slice base (sLen + n) sCap)
  else
    let newCap ← choose (.appendCap (sLen + n) sCap elem)
    askRoom (newCap * bytes)
    let old ← Builtin.firstCells size sLen (.slice base sLen sCap)
    let new ← appended
    let rest := Builtin.zeroCells (← zeroValue elem).cells (newCap - (sLen + n))
    pure (.slice (some (← newRow elem (old ++ new ++ rest))) (sLen + n) newCap)
theorem append_values {t e u : TypeId} {ts : List TypeId} {size bytes k sLen sCap : Nat} {base : Option Addr} {x : Value} (ht : P.underlying t = some (.slice e)) {i : TypeInfo} (hi : P.info? e = some i) (hs : i.size = size) (hb : i.bytes = bytes)
    (hts : ts = [] ∨ ∃ u D, ts.head? = some u ∧ P.underlying u = some D ∧ ∀ j, D ≠ .int j) (hn : Builtin.lenOf x = pure k) (hfit : (sLen + k) * (bytes + 1) < 1099511627776) (w : World) :
    (Builtin.append_ ⟨t :: ts⟩ u #[.slice base sLen sCap, x]).run P w = (growOn e size bytes k base sLen sCap (Builtin.firstCells size k x)).run P w := by
  have h1 : sLen + k < 1099511627776 := Nat.lt_of_le_of_lt (Nat.le_mul_of_pos_right _ (by omega)) hfit
  have h2 : (sLen + k) * bytes < 1099511627776 := Nat.lt_of_le_of_lt (Nat.mul_le_mul_left _ (by omega)) hfit
  have hsz : ∀ w, (sizeOf e).run P w = .ok size w := run_size ⟨i, hi, hs⟩
  have hti : ∀ w, (typeInfo e).run P w = .ok i w := run_info hi
  have hgr : ¬ sLen + k ≤ sCap → ¬ (Builtin.nextslicecap (sLen + k) sCap * i.bytes > 2 ^ 48) := by
    intro hc
    have := growslice_fits (need := sLen + k) (old := sCap) (bytes := bytes) (by omega) (by omega)
    rw [hb]; omega
  have h63 : ¬ ((sLen + k : Nat) : Int) > IntKind.i64.max := by
    have : IntKind.i64.max = 9223372036854775807 := by decide
    rw [this]; omega
  unfold Builtin.append_ growOn
  have b0 : (#[.slice base sLen sCap, x] : Array Value)[0]? = some (.slice base sLen sCap) := rfl
  have b1 : (#[.slice base sLen sCap, x] : Array Value)[1]? = some x := rfl
  rcases hts with rfl | ⟨u, D, q1, q2, q3⟩
  · have a0 : (⟨[t]⟩ : Array TypeId)[0]? = some t := rfl
    have a1 : (⟨[t]⟩ : Array TypeId)[1]? = none := rfl
    simp only [a0, a1, b0, b1, Sem.run_bind, run_underlying ht, Result.andThen_ok, hsz, Sem.run_pure, hn, Bool.false_eq_true, if_false, Bool.not_false, if_true]
    by_cases hc : sLen + k ≤ sCap
    · rw [if_pos hc, if_pos hc]; rfl
    · rw [if_neg hc, if_neg hc]
      simp only [Sem.run_bind, hti, Result.andThen_ok, Sem.run_pure]
      rw [if_neg (fun h => h63 h.1)]
      simp only [Sem.run_bind, hti, Result.andThen_ok, if_neg (hgr hc)]
      simp only [Sem.run_pure, hb]
  · cases ts with
    | nil => cases q1
    | cons u' ts =>
    injection q1 with q1; subst q1
    have a0 : (⟨t :: u' :: ts⟩ : Array TypeId)[0]? = some t := rfl
    have a1 : (⟨t :: u' :: ts⟩ : Array TypeId)[1]? = some u' := rfl
    simp only [a0, a1, b0, b1, Sem.run_bind, run_underlying ht, run_underlying q2, Result.andThen_ok, hsz, Sem.run_pure, hn, Bool.false_eq_true, if_false, Bool.not_false, if_true]
    by_cases hc : sLen + k ≤ sCap
    · rw [if_pos hc, if_pos hc]; rfl
    · rw [if_neg hc, if_neg hc]
      simp only [Sem.run_bind, hti, Result.andThen_ok, Sem.run_pure]
      rw [if_neg (fun h => h63 h.1)]
      simp only [Sem.run_bind, hti, Result.andThen_ok, if_neg (hgr hc)]
      simp only [Sem.run_pure, hb]
/-- the same, of so many zeros -/
theorem append_zeros {t e u u' : TypeId} {ts : List TypeId} {size bytes k sLen sCap : Nat} {base : Option Addr} {kd j : IntKind} (ht : P.underlying t = some (.slice e)) {i : TypeInfo} (hi : P.info? e = some i) (hs : i.size = size) (hb : i.bytes = bytes)
    (hu : P.underlying u' = some (.int j)) {zv : Value} (hz : ∀ w, (zeroValue e).run P w = .ok zv w) (hzs : zv.cells.size = size) (hfit : (sLen + k) * (bytes + 1) < 1099511627776) (w : World) :
    (Builtin.append_ ⟨t :: u' :: ts⟩ u #[.slice base sLen sCap, .int kd (k : Int)]).run P w = (growOn e size bytes k base sLen sCap (pure ⟨rep zv.cells.toList k⟩)).run P w := by
  have h1 : sLen + k < 1099511627776 := Nat.lt_of_le_of_lt (Nat.le_mul_of_pos_right _ (by omega)) hfit
  have h2 : (sLen + k) * bytes < 1099511627776 := Nat.lt_of_le_of_lt (Nat.mul_le_mul_left _ (by omega)) hfit
  have h3 : k * bytes < 1099511627776 := Nat.lt_of_le_of_lt (Nat.mul_le_mul_right _ (by omega)) h2
  have hsz : ∀ w, (sizeOf e).run P w = .ok size w := run_size ⟨i, hi, hs⟩
  have hti : ∀ w, (typeInfo e).run P w = .ok i w := run_info hi
  have hgr : ¬ sLen + k ≤ sCap → ¬ (Builtin.nextslicecap (sLen + k) sCap * i.bytes > 2 ^ 48) := by
    intro hc
    have := growslice_fits (need := sLen + k) (old := sCap) (bytes := bytes) (by omega) (by omega)
    rw [hb]; omega
  have h63 : ¬ ((sLen + k : Nat) : Int) > IntKind.i64.max := by
    have : IntKind.i64.max = 9223372036854775807 := by decide
    rw [this]; omega
  have hw : IntKind.i64.wrap (k : Int) = (k : Int) := wrap64 (c := k) (by omega)
  have hzc : Builtin.zeroCells zv.cells k = ⟨rep zv.cells.toList k⟩ := by
    have := zeros_cells zv.cells.toList k
    exact this
  unfold Builtin.append_ growOn
  have b0 : (#[.slice base sLen sCap, .int kd (k : Int)] : Array Value)[0]? = some (.slice base sLen sCap) := rfl
  have b1 : (#[.slice base sLen sCap, .int kd (k : Int)] : Array Value)[1]? = some (.int kd (k : Int)) := rfl
  have a0 : (⟨t :: u' :: ts⟩ : Array TypeId)[0]? = some t := rfl
  have a1 : (⟨t :: u' :: ts⟩ : Array TypeId)[1]? = some u' := rfl
  have c1 : ¬ (k : Int) < 0 := by omega
  have c2 : ¬ (k : Int) * (i.bytes : Int) > 2 ^ 48 := by
    have : (k : Int) * (i.bytes : Int) = ((k * bytes : Nat) : Int) := by rw [hb]; simp
    rw [this]; omega
  have happ : ∀ w, (if k * size = 0 then (pure #[] : Sem (Array Value)) else do pure (Builtin.zeroCells (← zeroValue e).cells k)).run P w = .ok ⟨rep zv.cells.toList k⟩ w := by
    intro w
    by_cases h0 : k * size = 0
    · rw [if_pos h0]
      have : rep zv.cells.toList k = [] := by
        apply List.eq_nil_of_length_eq_zero
        rw [length_rep]
        have : zv.cells.toList.length = size := by simpa using hzs
        rw [this]; exact h0
      rw [this]; rfl
    · rw [if_neg h0]
      simp only [Sem.run_bind, hz, Result.andThen_ok, Sem.run_pure, hzc]
  simp only [a0, a1, b0, b1, Sem.run_bind, run_underlying ht, run_underlying hu, Result.andThen_ok, hsz, hti, Sem.run_pure, asInt, asIntOf, hw, if_neg c1, if_neg c2, Bool.not_true, Bool.false_eq_true, if_false, if_true]
  simp only [Int.toNat_natCast]
  by_cases hc : sLen + k ≤ sCap
  · rw [if_pos hc, if_pos hc]
    simp only [Sem.run_bind, happ, Result.andThen_ok, Sem.run_pure]; rfl
  · rw [if_neg hc, if_neg hc]
    simp only [Sem.run_bind, hti, Result.andThen_ok, Sem.run_pure]
    rw [if_neg (fun h => h63 h.1)]
    simp only [Sem.run_bind, hti, Result.andThen_ok, if_neg (hgr hc)]
    simp only [Result.andThen_ok, Sem.run_pure, hb, happ]
theorem run_chooseCap (need old : Nat) (e : TypeId) (w : World) : ∃ c, (choose (.appendCap need old e)).run P w = .ok c (drawW w) ∧ need ≤ c :=
  ⟨(Question.appendCap need old e).cut (w.tape w.drawn (.appendCap need old e)), rfl, by simp [Question.cut]⟩
theorem run_askRoom (n : Nat) (w : World) : (askRoom n).run P w = .ok () w := by
  unfold askRoom; split <;> rfl
/-- what a growing append leaves -/
def GrowR (m : Mp) (s : St) (w : World) (v : Value) (s' : St) (q : Result Value) : Prop :=
  ∃ m' v' w', q = .ok v' w' ∧ VR m' v v' ∧ Rel m' s' w' ∧ Ext m s w m' s' w'
/-- a new block behind an append -/
theorem grow_new {s0 : St} {w : World} (r0 : Rel m s0 w) {e esz bytes k len cap' : Nat} {base' : Option Addr} {zv : Value} (hz : ∀ w, (zeroValue e).run P w = .ok zv w) (hzs : zv.cells.size = esz)
    {app : Sem (Array Value)} {old old' new new' : List Value} (ha : app.run P (drawW w) = .ok ⟨new'⟩ (drawW w)) (hn : VRs m new new') (hnc : ∀ x ∈ new, isCell x = true) (hnl : new.length = k * esz)
    (ho : (Builtin.firstCells esz len (.slice base' len cap')).run P (drawW w) = .ok ⟨old'⟩ (drawW w)) (hv : VRs m old old') (hoc : ∀ x ∈ old, isCell x = true) (hol : old.length = len * esz) (hgt : ¬ len + k ≤ cap') {ck : CK} (hck : ck ≠ .ro) :
    GrowR m s0 w (.slice (some ⟨s0.next, 0, some esz⟩) (len + k) (len + k)) (s0.new (.cells (old ++ new) ck e)) ((growOn e esz bytes k base' len cap' app).run P w) := by
  obtain ⟨c, c1, c2⟩ := run_chooseCap (P := P) (len + k) cap' e w
  have hl1 := hv.length
  have hl2 := hn.length
  have hrest : Builtin.zeroCells zv.cells (c - (len + k)) = ⟨rep zv.cells.toList (c - (len + k))⟩ := zeros_cells zv.cells.toList _
  have hrl : (rep zv.cells.toList (c - (len + k))).length = (c - (len + k)) * esz := by rw [length_rep]; congr 1
  obtain ⟨r', x'⟩ := new_cells r0.draw (e := e) (k := ck) (fr := (0, 0)) (rep zv.cells.toList (c - (len + k))) (hv.append hn) (by
    intro x hx
    rcases List.mem_append.1 hx with hx | hx
    · exact hoc x hx
    · exact hnc x hx) (by cases ck <;> first | rfl | exact absurd rfl hck | exact .inl (Nat.le_refl _))
  refine ⟨_, .slice (some ⟨w.heap.size, 0, none⟩) (len + k) c, pushW (drawW w) (.cells ⟨old' ++ new' ++ rep zv.cells.toList (c - (len + k))⟩ e (0, 0)), ?_, ?_, r', (Ext.draw m s0 w).trans x'⟩
  · unfold growOn
    rw [if_neg hgt]
    simp only [Sem.run_bind, c1, Result.andThen_ok, run_askRoom, ho, ha, hz, hrest, newRow, run_newObj, Sem.run_pure]
    have : ((⟨old'⟩ : Array Value) ++ ⟨new'⟩ ++ ⟨rep zv.cells.toList (c - (len + k))⟩ : Array Value) = ⟨old' ++ new' ++ rep zv.cells.toList (c - (len + k))⟩ := by
      apply Array.ext'; simp
    rw [this]
    rfl
  · refine .soft 0 _ _ _ (setM_self _ _ _) c2 ?_
    have : (c - (len + k)) * esz + (len + k) * esz = c * esz := by rw [← Nat.add_mul]; congr 1; omega
    simp only [List.length_append, hrl, ← hl1, ← hl2, hol, hnl]
    rw [← Nat.add_mul]; omega
theorem firstCells_run {k b o n sz len c : Nat} {vs : List Value} (r : Rel m s w) (hm : m k = some (b, n)) (h : loadR s k o (len * sz) = some vs) :
    ∃ ys, (Builtin.firstCells sz len (.slice (some ⟨b, o, none⟩) c c)).run P w = .ok ⟨ys⟩ w ∧ VRs m vs ys ∧ ∀ v ∈ vs, isCell v = true :=
  loadR_run r hm h
theorem loadR_length {s : St} {b off n : Nat} {vs : List Value} (h : loadR s b off n = some vs) : vs.length = n := by
  unfold loadR at h
  split at h
  · obtain ⟨g1, g2⟩ := takeV_some h
    rw [g2]; simp; omega
  · cases h
theorem appendTo_run (r : Rel m s w) {e esz bytes k len cap cap' : Nat} {base base' : Option Addr} {v : Value} {new : List Value} (hs : VR m (.slice base len cap) (.slice base' len cap')) {zv : Value} (hz : ∀ w, (zeroValue e).run P w = .ok zv w) (hzs : zv.cells.size = esz)
    {app : Sem (Array Value)} (happ : ∀ w, Rel m s w → ∃ new', app.run P w = .ok ⟨new'⟩ w ∧ VRs m new new') (hnc : ∀ x ∈ new, isCell x = true) (hnl : new.length = k * esz) (hk : 0 < k)
    (h : appendTo s esz bytes e base len cap new k = some (v, s')) :
    (len + k) * (bytes + 1) < 1099511627776 ∧ GrowR m s w v s' ((growOn e esz bytes k base' len cap' app).run P w) := by
  unfold appendTo at h
  split at h
  · rename_i hf
    refine ⟨by unfold fits at hf; rw [Nat.blt_eq] at hf; exact hf, ?_⟩
    split at h
    · cases hs
      split at h
      · rename_i hp nx e1 e2
        rw [Nat.beq_eq] at e1 e2
        subst e1; subst e2
        injection h with h; injection h with h1 h2; subst h1; subst h2
        obtain ⟨new', a1, a2⟩ := happ _ r.draw
        have := grow_new (bytes := bytes) (base' := none) (cap' := 0) (len := 0) (k := k) (e := e) (ck := .rw) r hz hzs a1 a2 hnc hnl (old := []) (old' := []) rfl .nil (by simp) (by simp) (by omega) (by simp)
        have h2 : GrowR m ⟨hp, nx⟩ w (.slice (some ⟨nx, 0, some esz⟩) k k) ((⟨hp, nx⟩ : St).new (.cells new .rw e)) ((growOn e esz bytes k none 0 0 app).run P w) := by simpa using this
        exact h2
      · cases h
    · rename_i b off sp
      have hb : ∃ b' nn, base' = some ⟨b', off, none⟩ ∧ m b = some (b', nn) ∧ cap ≤ cap' ∧ ((sp = none ∧ cap' = cap) ∨ ∃ q, sp = some q ∧ off + cap' * q ≤ nn) := by
        cases hs
        · rename_i hm; exact ⟨_, _, rfl, hm, Nat.le_refl _, .inl ⟨rfl, rfl⟩⟩
        · rename_i hm h2 h1; exact ⟨_, _, rfl, hm, h1, .inr ⟨_, rfl, h2⟩⟩
      obtain ⟨b', nn, rfl, hm, hcc, hsp⟩ := hb
      split at h
      · rename_i hle
        rw [Nat.ble_eq] at hle
        have hle' : len + k ≤ cap := hle
        split at h
        · rename_i s1 hst
          injection h with h; injection h with h1 h2; subst h1; subst h2
          obtain ⟨new', a1, a2⟩ := happ _ r
          obtain ⟨w', q1, q2, q3⟩ := storeR_run (P := P) r hm hst a2 hnc
          refine ⟨m, .slice (some ⟨b', off, none⟩) (len + k) cap', w', ?_, ?_, q2, q3⟩
          · unfold growOn
            rw [if_pos (by omega)]
            simp only [Sem.run_bind, a1, Result.andThen_ok, addr_add]
            have q1' : (storeCells ⟨b', off + len * esz, none⟩ new').run P w = .ok () w' := q1
            simp only [q1', Result.andThen_ok, Sem.run_pure]
          · rcases hsp with ⟨rfl, rfl⟩ | ⟨q, rfl, hq⟩
            · exact .slice _ _ _ hm
            · exact .soft _ _ _ _ hm hcc hq
        · cases h
      · rename_i hle
        have hgt : ¬ len + k ≤ cap := by
          intro h'; rw [(Nat.ble_eq (x := Nat.add len k) (y := cap)).mpr h'] at hle; cases hle
        rcases hsp with ⟨rfl, rfl⟩ | ⟨q, rfl, hq⟩
        · simp only [appendNew] at h
          split at h
          · cases h
          · rename_i old ho
            have hlen := loadR_length ho
            obtain ⟨ys, o1, o2, o3⟩ := loadR_run (P := P) r.draw hm ho
            obtain ⟨new', a1, a2⟩ := happ _ r.draw
            have := grow_new (bytes := bytes) (base' := some ⟨b', off, none⟩) (cap' := cap') (len := len) (k := k) (e := e) (ck := .rw) r hz hzs a1 a2 hnc hnl o1 o2 o3 hlen hgt (by simp)
            obtain ⟨hp, nx⟩ := s
            injection h with h; injection h with h1 h2; subst h1; subst h2
            rw [catV_eq]
            exact this
        · simp only at h
          split at h
          · rename_i hqe
            rw [Nat.beq_eq] at hqe
            subst hqe
            unfold appendKill at h
            split at h
            · rename_i xs ck e' hg
              have hck : ck ≠ .ro := by rintro rfl; cases h
              have h' : (match Nat.beq e' e with
                | false => none
                | true => match takeV xs (Nat.mul len q) with
                  | none => none
                  | some old => some (Value.slice (some ⟨s.next, 0, some q⟩) (Nat.add len k) (Nat.add len k), (⟨T.set (T.set s.heap b none) s.next (some (.cells (catV old new) ck e)), Nat.succ s.next⟩ : St))) = some (v, s') := by
                obtain ⟨hp, nx⟩ := s
                cases ck with
                | ro => exact absurd rfl hck
                | rw => exact h
                | sb => exact h
              split at h'
              · cases h'
              · rename_i hee
                rw [Nat.beq_eq] at hee
                subst hee
                split at h'
                · cases h'
                · rename_i old ho
                  have hld : loadR s b 0 (len * q) = some old := by
                    unfold loadR
                    rw [hg]
                    show takeV (dropV xs 0) _ = _
                    rw [dropV_eq, List.drop_zero]; exact ho
                  have hlen := loadR_length hld
                  by_cases hin : len + k ≤ cap'
                  · obtain ⟨new', a1, a2⟩ := happ _ r
                    obtain ⟨b2, n2, o2, g1, g2, g3⟩ := r.ob b _ hg
                    rw [hm] at g1; injection g1 with g1; injection g1 with g1 g1'; subst g1; subst g1'
                    obtain ⟨t1, t2⟩ := takeV_some ho
                    have t1' : len * q ≤ xs.length := t1
                    have hmul : (len + k) * q ≤ cap' * q := Nat.mul_le_mul_right _ hin
                    rw [Nat.add_mul] at hmul
                    cases g3 with
                    | cells hs hpl hf he =>
                      rename_i ys zs e2 fr
                      have hlen1 := hs.length
                      have hlen2 := a2.length
                      have he2 : e2 = e' := by rcases he with he | he; exact absurd he hck; exact he
                      subst he2
                      have hrun := run_storeCells_free (P := P) b' (len * q) e2 fr new' 0 ⟨ys ++ zs⟩ w g2 (by simp at hq ⊢; omega) (a2.cells hnc) (by simpa using frozen_free hf hck)
                      have hsz : (((ys ++ zs).take (len * q + 0) ++ new') ++ (ys ++ zs).drop (len * q + 0 + new'.length)).length = (ys ++ zs).length := by
                        simp at hq ⊢; omega
                      have htk : (ys ++ zs).take (len * q + 0) = ys.take (len * q) := by
                        rw [Nat.add_zero, List.take_append_of_le_length (by omega)]
                      have hor : OR (setM m s.next b' (ys ++ zs).length) (.cells (old ++ new) ck e2) (.cells ⟨((ys ++ zs).take (len * q + 0) ++ new') ++ (ys ++ zs).drop (len * q + 0 + new'.length)⟩ e2 fr) (ys ++ zs).length := by
                        rw [← hsz]
                        refine .cells (VRs.mono (setM_mono (r.low _ (Nat.le_refl _))) ?_) ?_ (by rw [hsz]; exact hf) (.inr rfl)
                        · rw [htk, t2]; exact (hs.take _).append a2
                        · intro x hx
                          rcases List.mem_append.1 hx with hx | hx
                          · rw [t2] at hx; exact hpl x (List.mem_of_mem_take hx)
                          · exact hnc x hx
                      obtain ⟨r', x'⟩ := r.rename hg (by cases ck <;> simp_all [isRo]) hm hor
                      obtain ⟨hp, nx⟩ := s
                      injection h' with h'; injection h' with h1 h2; subst h1; subst h2
                      rw [catV_eq]
                      refine ⟨_, .slice (some ⟨b', 0, none⟩) (len + k) cap', _, ?_, .soft _ _ _ _ (setM_self _ _ _) hin hq, r', x'⟩
                      unfold growOn
                      rw [if_pos hin]
                      simp only [Sem.run_bind, a1, Result.andThen_ok, addr_add, Nat.zero_add, hrun, Sem.run_pure]
                  · obtain ⟨ys, o1, o2, o3⟩ := loadR_run (P := P) r.draw hm hld
                    obtain ⟨new', a1, a2⟩ := happ _ r.draw
                    obtain ⟨r2, x2⟩ := r.drop b
                    obtain ⟨hp, nx⟩ := s
                    injection h' with h'; injection h' with h1 h2; subst h1; subst h2
                    have := grow_new (bytes := bytes) (base' := some ⟨b', 0, none⟩) (cap' := cap') (len := len) (k := k) (e := e') (ck := ck) r2 hz hzs a1 a2 hnc hnl o1 o2 o3 hlen hin hck
                    obtain ⟨m', v', w', g1, g2, g3, g4⟩ := this
                    rw [catV_eq]
                    exact ⟨m', v', w', g1, g2, g3, x2.trans g4⟩
            · cases h
          · cases h
  · cases h
end
end Go.AM
