/- AM, operation by operation: what AM answers, the model answers. -/
import Derived.Test.YtnlbfblcjnpoaaaGreatDoorAmC2
import Derived.Laws.BytesString
import Derived.Lib.UnsafeStr
namespace Go.AM
open Go
section
variable {P : Program} {E : Env} {m : Mp} {s s' : St} {w : World} {n : N} {ev ρ : Operand → Value} {d : Option Tmp} {ty : TypeId} {pos : String} {af : Array Edge} {g : Option (Nat × Bool)}

/-! ## conversions -/
def byteStep (x : Value) (r : List UInt8) : Option (List UInt8) :=
  match x with
  | .int .u8 (.ofNat n) => match Nat.blt n 256 with | true => some (UInt8.ofNat n :: r) | false => none
  | _ => none
theorem bytesV_cons (x : Value) (vs : List Value) : bytesV (x :: vs) = match bytesV vs with | none => none | some r => byteStep x r := rfl
theorem bytesV_some : ∀ {vs : List Value} {l : List UInt8}, bytesV vs = some l → vs = l.map fun x => .int .u8 (.ofNat x.toNat)
  | [], l, h => by injection h with h; subst h; rfl
  | x :: vs, l, h => by
    rw [bytesV_cons] at h
    cases hv : bytesV vs with
    | none => rw [hv] at h; cases h
    | some r =>
      rw [hv] at h
      simp only [byteStep] at h
      split at h
      · split at h
        · rename_i hlt
          injection h with h; subst h
          rw [Nat.blt_eq] at hlt
          rw [bytesV_some hv]
          simp only [List.map_cons, UInt8.toNat_ofNat', Nat.mod_eq_of_lt hlt]
        · cases h
      · cases h
theorem vrs_bytes {l : List UInt8} {ys : List Value} (h : VRs m (l.map fun x => .int .u8 (.ofNat x.toNat)) ys) : ys = l.map fun x => .int .u8 (.ofNat x.toNat) := by
  induction l generalizing ys with
  | nil => cases h; rfl
  | cons x l ih => cases h with
    | cons a b => rw [ih b, a.int_inv]; rfl
theorem bytes_rel (l : List UInt8) : VRs m (l.map fun x => .int .u8 (.ofNat x.toNat)) (l.map fun x => .int .u8 (.ofNat x.toNat)) := VRs.map (fun _ => .int _ _) l
theorem bytes_cells (l : List UInt8) : ∀ x ∈ l.map (fun x : UInt8 => Value.int .u8 (.ofNat x.toNat)), isCell x = true := by
  intro x hx
  obtain ⟨y, _, rfl⟩ := List.mem_map.1 hx
  rfl
theorem push_all (l : List UInt8) (acc : ByteArray) : (l.map fun x : UInt8 => Int.ofNat x.toNat).foldl (fun r n => r.push (UInt8.ofNat n.toNat)) acc = ⟨⟨acc.data.toList ++ l⟩⟩ := by
  induction l generalizing acc with
  | nil => apply ByteArray.ext; simp
  | cons x l ih =>
    simp only [List.map_cons, List.foldl_cons, ih]
    apply ByteArray.ext
    apply Array.ext'
    simp [ByteArray.push]
theorem freeze_end {b : Nat} {cs : Array Value} {e : TypeId} (h : w.heap[b]? = some (.cells cs e (0, 0))) : w.freeze ⟨b, cs.size, none⟩ 1 = putW w b (.cells cs e (cs.size, cs.size + 1)) := by
  unfold World.freeze putW
  rw [if_neg (by simp)]
  congr 1
  apply Array.ext_getElem?
  intro j
  rw [Array.getElem?_modify]
  have hb : b < w.heap.size := by
    rcases Nat.lt_or_ge b w.heap.size with h' | h'
    · exact h'
    · rw [Array.getElem?_eq_none h'] at h; cases h
  by_cases hj : b = j
  · subst hj
    have hgg : w.heap[b] = .cells cs e (0, 0) := (Array.getElem?_eq_some_iff.1 h).2
    simp [hb, hgg]
  · rw [if_neg hj, Array.getElem?_setIfInBounds_ne hj]
theorem conv_int {S : TypeDesc} {sd dt : TypeId} {k : IntKind} {x x' : Value} (hx : VR m x x') (h1 : P.underlying sd = some S) (h2 : P.underlying dt = some (.int k)) (h : cInt s k x = some (n, s')) :
    ∃ v v', n = .v v ∧ s' = s ∧ (convert sd dt x').run P w = .ok v' w ∧ VR m v v' := by
  unfold cInt at h
  split at h
  · injection h with h; injection h with e1 e2; subst e1; subst e2
    refine ⟨_, _, rfl, rfl, ?_, .int _ _⟩
    rw [hx.int_inv, wrapF_eq]
    simp [convert, run_underlying h1, run_underlying h2, Conv.intToInt]
  · cases h
theorem conv_bytes (hE : EnvOK P E) (r : Rel m s w) {S : TypeDesc} {sd dt e : TypeId} {x x' : Value} (hx : VR m x x') (h1 : P.underlying sd = some S) (h2 : P.underlying dt = some (.slice e)) (h : cBytes E s e x = some (n, s')) :
    ∃ v v' w' m', n = .v v ∧ (convert sd dt x').run P w = .ok v' w' ∧ VR m' v v' ∧ Rel m' s' w' ∧ Ext m s w m' s' w' := by
  unfold cBytes at h
  split at h
  · rename_i l hk
    have k1 : P.underlying e = some (.int .u8) := kr_of hE hk (by simp)
    injection h with h; injection h with e1 e2; subst e1; subst e2
    rw [hx.string_inv]
    obtain ⟨c, c1, c2⟩ := run_chooseCap (P := P) l.length 0 e w
    have hsz : (⟨⟨l⟩⟩ : ByteArray).size = l.length := rfl
    let ys : List Value := l.map fun x => .int .u8 (.ofNat x.toNat)
    let zs : List Value := List.replicate (c - l.length) (.int .u8 0)
    have hlen : (ys ++ zs).length = c := by simp [ys, zs]; omega
    have hor : OR (setM m s.next w.heap.size (ys ++ zs).length) (.cells (cellsB l) .sb e) (.cells ⟨ys ++ zs⟩ e ((ys ++ zs).length, (ys ++ zs).length + 1)) (ys ++ zs).length := by
      rw [cellsB_eq]
      exact .cells (bytes_rel l) (bytes_cells l) (.inr (Nat.le_refl _)) (.inr rfl)
    obtain ⟨r', x'⟩ := r.draw.new hor
    refine ⟨_, .slice (some ⟨w.heap.size, 0, none⟩) l.length c, _, _, rfl, ?_, ?_, r', (Ext.draw m s w).trans x'⟩
    · have hdat : ((⟨⟨l⟩⟩ : ByteArray).data.map fun b => Value.int .u8 b.toNat) ++ Array.replicate (c - l.length) (.int .u8 0) = ⟨ys ++ zs⟩ := by
        apply Array.ext'
        simp [ys, zs]
      have hheap : (pushW (drawW w) (.cells ⟨ys ++ zs⟩ e (0, 0))).heap[w.heap.size]? = some (.cells ⟨ys ++ zs⟩ e (0, 0)) := by
        show (w.heap.push _)[w.heap.size]? = _
        simp
      have hfr := freeze_end hheap
      have hput : putW (pushW (drawW w) (.cells ⟨ys ++ zs⟩ e (0, 0))) w.heap.size (.cells ⟨ys ++ zs⟩ e ((⟨ys ++ zs⟩ : Array Value).size, (⟨ys ++ zs⟩ : Array Value).size + 1)) = pushW (drawW w) (.cells ⟨ys ++ zs⟩ e ((ys ++ zs).length, (ys ++ zs).length + 1)) := by
        unfold putW pushW drawW
        congr 1
        apply Array.ext_getElem?
        intro j
        by_cases hj : w.heap.size = j
        · subst hj; simp
        · rw [Array.getElem?_setIfInBounds_ne hj]
          simp only [Array.getElem?_push]
          rw [if_neg (by omega), if_neg (by omega)]
      have hrun : (Conv.stringToBytes e ⟨⟨l⟩⟩).run P w = .ok (.slice (some ⟨w.heap.size, 0, none⟩) l.length c) (pushW (drawW w) (.cells ⟨ys ++ zs⟩ e ((ys ++ zs).length, (ys ++ zs).length + 1))) := by
        unfold Conv.stringToBytes
        simp only [Sem.run_bind, hsz, c1, Result.andThen_ok, hdat, newRow, run_newObj, Sem.run_pure]
        have hmk : (markStringish ⟨w.heap.size, 0, none⟩).run P (pushW (drawW w) (.cells ⟨ys ++ zs⟩ e (0, 0))) = .ok () (pushW (drawW w) (.cells ⟨ys ++ zs⟩ e ((ys ++ zs).length, (ys ++ zs).length + 1))) := by
          unfold markStringish
          have hsh : (shape w.heap.size).run P (pushW (drawW w) (.cells ⟨ys ++ zs⟩ e (0, 0))) = .ok (some (e, (ys ++ zs).length)) (pushW (drawW w) (.cells ⟨ys ++ zs⟩ e (0, 0))) := by
            simp [shape, Sem.run, World.shape?, hheap]
          simp only [Sem.run_bind, hsh, Result.andThen_ok]
          rw [← hput, ← hfr]
          rfl
        have hmk' : (markStringish ⟨(drawW w).heap.size, 0, none⟩).run P { (drawW w) with heap := (drawW w).heap.push (.cells ⟨ys ++ zs⟩ e (0, 0)) } = _ := hmk
        rw [hmk']
        rfl
      simp only [convert, Sem.run_bind, run_underlying h1, run_underlying h2, run_underlying k1, Result.andThen_ok, hrun]
    · rw [lenB_eq]
      refine .soft 0 _ _ 1 (setM_self _ _ _) c2 ?_
      rw [hlen]; omega
  · cases h
theorem conv_string (hE : EnvOK P E) (r : Rel m s w) {sd dt : TypeId} {x x' : Value} (hx : VR m x x') (hS : ∃ S, P.underlying sd = some S) (h2 : P.underlying dt = some .string) (h : cString E s sd x = some (n, s')) :
    ∃ v v', n = .v v ∧ s' = s ∧ (convert sd dt x').run P w = .ok v' w ∧ VR m v v' := by
  unfold cString at h
  split at h
  · injection h with h; injection h with e1 e2; subst e1; subst e2
    obtain ⟨S, h1⟩ := hS
    refine ⟨_, _, rfl, rfl, ?_, .string _⟩
    rw [hx.string_inv]
    simp [convert, run_underlying h1, run_underlying h2]
  · rename_i b o sp k c
    split at h
    · rename_i e esz eb hk
      obtain ⟨k1, _⟩ : KR P sd (.slice e esz eb) := kr_of hE hk (by simp)
      split at h
      · rename_i hk2
        have k2 : P.underlying e = some (.int .u8) := kr_of hE hk2 (by simp)
        split at h
        · rename_i vs hl
          split at h
          · rename_i l hb
            injection h with h; injection h with e1 e2; subst e1; subst e2
            have : ∃ b' nn c', x' = .slice (some ⟨b', o, none⟩) k c' ∧ m b = some (b', nn) := by
              cases hx
              · rename_i hm; exact ⟨_, _, _, rfl, hm⟩
              · rename_i hm _ _; exact ⟨_, _, _, rfl, hm⟩
            obtain ⟨b', nn, c', rfl, hm⟩ := this
            obtain ⟨ys, q1, q2, _⟩ := loadR_run (P := P) r hm hl
            rw [bytesV_some hb] at q2
            have hy := vrs_bytes q2
            subst hy
            refine ⟨_, .string ⟨⟨l⟩⟩, rfl, rfl, ?_, .string _⟩
            have hq : (loadCells ⟨b', o, none⟩ k).run P w = .ok ((l.map fun x : UInt8 => Int.ofNat x.toNat).map (Value.int .u8)).toArray w := by
              rw [q1]; simp [List.map_map, Function.comp_def]
            have := run_bytesToString (P := P) w ⟨b', o, none⟩ k c' _ hq
            rw [push_all] at this
            simp only [convert, Sem.run_bind, run_underlying k1, run_underlying h2, run_underlying k2, Result.andThen_ok, this]
            simp
          · cases h
        · cases h
      · cases h
    · cases h
  · cases h
theorem liesAt_head {e : TypeId} (hc : P.cellsOf e ≠ 0) (count : Nat) (hn : 1 ≤ count) : liesAt P P.depth e count 0 e 1 = true := by
  have hd : P.depth = (2 * (P.types.size + Made.depth) + 1) + 1 := rfl
  rw [hd]
  simp only [liesAt, Bool.or_eq_true]
  left
  rw [hd]
  simp [rowAt, hc, hn, sameLayout]
theorem conv_ptr (hE : EnvOK P E) (r : Rel m s w) {sd dt e : TypeId} {x x' : Value} (hx : VR m x x')
    (hD : (P.underlying sd = some (.pointer e) ∧ P.underlying dt = some .unsafePointer) ∨ (P.underlying sd = some .unsafePointer ∧ P.underlying dt = some (.pointer e))) (h : cPtr E s e x = some (n, s')) :
    ∃ v v', n = .v v ∧ s' = s ∧ (convert sd dt x').run P w = .ok v' w ∧ VR m v v' := by
  unfold cPtr at h
  split at h
  · rename_i b
    split at h
    · rename_i xs e' ti hg ht
      split at h
      · rename_i vs q1 q2 q3
        injection h with h; injection h with e1 e2; subst e1; subst e2
        rw [Nat.beq_eq] at q1
        subst q1
        have hne : ti.size ≠ 0 := by intro h0; rw [h0] at q2; cases q2
        obtain ⟨t1, _⟩ := takeV_some q3
        obtain ⟨b', nn, rfl, hm⟩ := hx.ptr_inv
        obtain ⟨b2, n2, o2, g1, g2, g3⟩ := r.ob b _ hg
        rw [hm] at g1; injection g1 with g1; injection g1 with g1 g1'; subst g1; subst g1'
        have tr := (hE.tys e ti ht).size
        obtain ⟨i, i1, i2⟩ := tr
        have hc : P.cellsOf e = ti.size := by simp [Program.cellsOf, i1, i2]
        cases g3 with
        | cells hs hpl hf he =>
          rename_i ys zs e2 fr
          have he2 : e2 = e := by rcases he with he | he; cases he; exact he
          subst he2
          have hlen := hs.length
          have hsh : ∀ w' : World, w'.heap = w.heap → w'.shape? b' = some (e2, (ys ++ zs).length) := by intro w' hw; simp [World.shape?, hw, g2]
          have hview : (viewAt b').run P w = .ok none w := by simp [viewAt, hsh w rfl]
          refine ⟨_, .pointer (some ⟨b', 0, none⟩), rfl, rfl, ?_, .ptr 0 hm⟩
          have hpos : ¬ (ys ++ zs).length = 0 := by simp only [List.length_append]; omega
          rcases hD with ⟨d1, d2⟩ | ⟨d1, d2⟩
          · have hcells : (cellsIn b').run P w = .ok (some (ys ++ zs).length) w := by simp [cellsIn, hsh w rfl]
            simp only [convert, Sem.run_bind, run_underlying d1, run_underlying d2, Result.andThen_ok, Conv.unsafePointer, Conv.seenAt, hview, Sem.run_pure, hcells, run_size ⟨i, i1, i2⟩ w]
            have : (decide (ti.size = 0) || (decide (0 ≥ (ys ++ zs).length) && (none : Option Nat).isNone)) = false := by
              simp only [ge_iff_le, Nat.le_zero, hpos, hne, decide_false, Bool.false_and, Bool.or_false]
            rw [if_neg]
            · rfl
            · rw [this]; simp
          · have hdiv : 1 ≤ (ys ++ zs).length / P.cellsOf e2 := by
              rw [hc, Nat.le_div_iff_mul_le (by omega)]
              simp only [List.length_append]; omega
            have hva : (variablesAt ⟨b', 0, none⟩ e2 1).run P w = .ok true w := by
              simp [variablesAt, hsh w rfl]
              have := liesAt_head (P := P) (e := e2) (by rw [hc]; exact hne) _ hdiv
              simpa using this
            simp only [convert, Sem.run_bind, run_underlying d1, run_underlying d2, Result.andThen_ok, Conv.unsafePointer, Conv.seenAt, hview, Sem.run_pure, hva, run_size ⟨i, i1, i2⟩ w, Bool.or_true, if_true]
      · cases h
    · cases h
  · cases h
theorem kr_any {t : TypeId} {k : TK} (h : KR P t k) : ∃ D, P.underlying t = some D := by
  cases k <;> simp only [KR] at h
  case struct fs => obtain ⟨gs, h, _⟩ := h; exact ⟨_, h⟩
  case array l e n => exact ⟨_, h.1⟩
  case ptr e n => exact ⟨_, h.1⟩
  case slice e n b => exact ⟨_, h.1⟩
  case func => obtain ⟨a, b, c, h⟩ := h; exact ⟨_, h⟩
  case iface => obtain ⟨a, h⟩ := h; exact ⟨_, h⟩
  all_goals exact ⟨_, h⟩
theorem op_conv (hE : EnvOK P E) (r : Rel m s w) (hρ : ER m ev ρ) (sd dt : TypeId) (x : Operand) (h : hConv sd dt x E s ev = some (n, s')) :
    OpR P m s w n s' ((execOp ρ ⟨d, .convert sd dt x, ty, pos, af, g⟩).run P w) := by
  have hx := hρ x
  unfold hConv oConv at h
  split at h
  · cases h
  · rename_i hkn
    have hno : tkOf E sd ≠ .other := by intro hh; rw [hh] at hkn; cases hkn
    obtain ⟨S, hS⟩ := kr_any (kr_of hE rfl hno)
    have fin : (∃ v v', n = .v v ∧ s' = s ∧ (convert sd dt (ρ x)).run P w = .ok v' w ∧ VR m v v') → OpR P m s w n s' ((execOp ρ ⟨d, .convert sd dt x, ty, pos, af, g⟩).run P w) := by
      rintro ⟨v, v', rfl, rfl, q1, q2⟩
      simp only [execOp, Sem.run_bind, q1, Result.andThen_ok, Sem.run_pure]
      exact .same r q2
    split at h
    · rename_i k hk
      exact fin (conv_int hx hS (kr_of hE hk (by simp)) h)
    · rename_i e esz eb hk
      obtain ⟨v, v', w', m', rfl, q1, q2, q3, q4⟩ := conv_bytes hE r hx hS (kr_of hE hk (by simp) : KR P dt (.slice e esz eb)).1 h
      simp only [execOp, Sem.run_bind, q1, Result.andThen_ok, Sem.run_pure]
      exact .v q2 q3 q4
    · rename_i hk
      exact fin (conv_string hE r hx ⟨S, hS⟩ (kr_of hE hk (by simp)) h)
    · rename_i hk
      split at h
      · rename_i e esz hk2
        exact fin (conv_ptr hE r hx (.inl ⟨(kr_of hE hk2 (by simp) : KR P sd (.ptr e esz)).1, kr_of hE hk (by simp)⟩) h)
      · cases h
    · rename_i e esz hk
      split at h
      · rename_i hk2
        exact fin (conv_ptr hE r hx (.inr ⟨kr_of hE hk2 (by simp), (kr_of hE hk (by simp) : KR P dt (.ptr e esz)).1⟩) h)
      · cases h
    · cases h
end
end Go.AM

namespace Go.AM
open Go
section
variable {P : Program} {E : Env} {m : Mp} {s s' : St} {w : World} {n : N} {ev ρ : Operand → Value} {d : Option Tmp} {ty : TypeId} {pos : String} {af : Array Edge} {g : Option (Nat × Bool)}

/-! ## builtins -/
/-- what a builtin leaves -/
def BR (m : Mp) (s : St) (w : World) (n : N) (s' : St) (q : Result Value) : Prop :=
  ∃ v m' v' w', n = .v v ∧ q = .ok v' w' ∧ VR m' v v' ∧ Rel m' s' w' ∧ Ext m s w m' s' w'
theorem BR.same (r : Rel m s w) {v v' : Value} (h : VR m v v') : BR m s w (.v v) s (.ok v' w) := ⟨v, m, v', w, rfl, rfl, h, r, Ext.refl m s w⟩
theorem BR.of {v : Value} {q : Result Value} (h : GrowR m s w v s' q) : BR m s w (.v v) s' q := by
  obtain ⟨m', v', w', a, b, c, e⟩ := h; exact ⟨v, m', v', w', rfl, a, b, c, e⟩
theorem sl_inv {base : Option Addr} {l c : Nat} {y : Value} (h : VR m (.slice base l c) y) : ∃ base' c', y = .slice base' l c' ∧ c ≤ c' ∧ ((base = none ∧ base' = none ∧ c' = c) ∨ ∃ b o sp b' nn, base = some ⟨b, o, sp⟩ ∧ base' = some ⟨b', o, none⟩ ∧ m b = some (b', nn) ∧ (sp = none → c' = c)) := by
  cases h
  · exact ⟨_, _, rfl, Nat.le_refl _, .inl ⟨rfl, rfl, rfl⟩⟩
  · rename_i hm; exact ⟨_, _, rfl, Nat.le_refl _, .inr ⟨_, _, _, _, _, rfl, rfl, hm, fun _ => rfl⟩⟩
  · rename_i hm _ h1; exact ⟨_, _, rfl, h1, .inr ⟨_, _, _, _, _, rfl, rfl, hm, fun h => by cases h⟩⟩
theorem b_len (hE : EnvOK P E) (r : Rel m s w) {t : TypeId} {ts : List TypeId} {x x' : Value} {u : TypeId} (hx : VR m x x') (h : bLen s (tkOf E t) x = some (n, s')) :
    BR m s w n s' ((Builtin.len_ ⟨t :: ts⟩ u #[x']).run P w) := by
  have a0 : (⟨t :: ts⟩ : Array TypeId)[0]? = some t := rfl
  have b0 : (#[x'] : Array Value)[0]? = some x' := rfl
  unfold bLen at h
  split at h
  · rename_i l e esz hk
    obtain ⟨k1, _⟩ : KR P t (.array l e esz) := kr_of hE hk (by simp)
    injection h with h; injection h with e1 e2; subst e1; subst e2
    simp only [Builtin.len_, a0, b0, Sem.run_bind, run_underlying k1, Result.andThen_ok, Sem.run_pure]
    exact .same r (.int _ _)
  · rename_i e esz eb hk
    obtain ⟨k1, _⟩ : KR P t (.slice e esz eb) := kr_of hE hk (by simp)
    split at h
    · injection h with h; injection h with e1 e2; subst e1; subst e2
      obtain ⟨base', c', rfl, _⟩ := sl_inv hx
      simp only [Builtin.len_, a0, b0, Sem.run_bind, run_underlying k1, Result.andThen_ok, Sem.run_pure]
      exact .same r (.int _ _)
    · cases h
  · rename_i hk
    have k1 : P.underlying t = some .string := kr_of hE hk (by simp)
    split at h
    · injection h with h; injection h with e1 e2; subst e1; subst e2
      rw [hx.string_inv] at b0 ⊢
      simp only [Builtin.len_, a0, b0, Sem.run_bind, run_underlying k1, Result.andThen_ok, Sem.run_pure]
      rw [lenB_eq]
      exact .same r (.int _ _)
    · cases h
  · rename_i kt e hk
    have k1 : P.underlying t = some (.map kt e) := kr_of hE hk (by simp)
    split at h
    · injection h with h; injection h with e1 e2; subst e1; subst e2
      cases hx
      simp only [Builtin.len_, a0, b0, Sem.run_bind, run_underlying k1, Result.andThen_ok, Sem.run_pure]
      exact .same r (.int _ _)
    · rename_i k0
      split at h
      · rename_i es c hg
        injection h with h; injection h with e1 e2; subst e1; subst e2
        cases hx
        rename_i b2 n2 hm
        obtain ⟨es', g3, g4⟩ := mapAt r hm hg
        simp only [Builtin.len_, a0, b0, Sem.run_bind, run_underlying k1, Result.andThen_ok, run_getMap g3, Sem.run_pure]
        have : (es'.toArray.size : Int) = (lenE es : Int) := by rw [lenE_eq, g4.length]; simp
        rw [this]
        exact .same r (.int _ _)
      · cases h
    · cases h
  · cases h
theorem b_cap (hE : EnvOK P E) (r : Rel m s w) {t : TypeId} {ts : List TypeId} {x x' : Value} {u : TypeId} (hx : VR m x x') (h : bCap s (tkOf E t) x = some (n, s')) :
    BR m s w n s' ((Builtin.cap_ ⟨t :: ts⟩ u #[x']).run P w) := by
  have a0 : (⟨t :: ts⟩ : Array TypeId)[0]? = some t := rfl
  have b0 : (#[x'] : Array Value)[0]? = some x' := rfl
  unfold bCap at h
  split at h
  · rename_i e esz eb hk
    obtain ⟨k1, _⟩ : KR P t (.slice e esz eb) := kr_of hE hk (by simp)
    split at h
    · injection h with h; injection h with e1 e2; subst e1; subst e2
      cases hx
      simp only [Builtin.cap_, a0, b0, Sem.run_bind, run_underlying k1, Result.andThen_ok, Sem.run_pure]
      exact .same r (.int _ _)
    · injection h with h; injection h with e1 e2; subst e1; subst e2
      cases hx
      simp only [Builtin.cap_, a0, b0, Sem.run_bind, run_underlying k1, Result.andThen_ok, Sem.run_pure]
      exact .same r (.int _ _)
    · cases h
  · cases h
theorem ts_ints (hE : EnvOK P E) {ts : List TypeId} {b : Bool} (h : isIntK E ts = some b) :
    (b = false ∧ (ts = [] ∨ ∃ u D, ts.head? = some u ∧ P.underlying u = some D ∧ ∀ j, D ≠ .int j)) ∨ (b = true ∧ ∃ u tt j, ts = u :: tt ∧ P.underlying u = some (.int j)) := by
  cases ts with
  | nil => injection h with h; exact .inl ⟨h.symm, .inl rfl⟩
  | cons u tt =>
    simp only [isIntK] at h
    cases hk : tkOf E u with
    | int j => rw [hk] at h; injection h with h; exact .inr ⟨h.symm, u, tt, j, rfl, kr_of hE hk (by simp)⟩
    | other => rw [hk] at h; cases h
    | bool => rw [hk] at h; injection h with h; exact .inl ⟨h.symm, .inr ⟨u, _, rfl, kr_of hE hk (by simp), by simp⟩⟩
    | str => rw [hk] at h; injection h with h; exact .inl ⟨h.symm, .inr ⟨u, _, rfl, kr_of hE hk (by simp), by simp⟩⟩
    | uptr => rw [hk] at h; injection h with h; exact .inl ⟨h.symm, .inr ⟨u, _, rfl, kr_of hE hk (by simp), by simp⟩⟩
    | map a b => rw [hk] at h; injection h with h; exact .inl ⟨h.symm, .inr ⟨u, _, rfl, kr_of hE hk (by simp), by simp⟩⟩
    | ptr a b => rw [hk] at h; injection h with h; exact .inl ⟨h.symm, .inr ⟨u, _, rfl, (kr_of hE hk (by simp)).1, by simp⟩⟩
    | slice a b c => rw [hk] at h; injection h with h; exact .inl ⟨h.symm, .inr ⟨u, _, rfl, (kr_of hE hk (by simp)).1, by simp⟩⟩
    | array a b c => rw [hk] at h; injection h with h; exact .inl ⟨h.symm, .inr ⟨u, _, rfl, (kr_of hE hk (by simp)).1, by simp⟩⟩
    | struct fs =>
      rw [hk] at h; injection h with h
      obtain ⟨gs, q, _⟩ := kr_of hE hk (by simp)
      exact .inl ⟨h.symm, .inr ⟨u, _, rfl, q, by simp⟩⟩
    | func =>
      rw [hk] at h; injection h with h
      obtain ⟨_, _, _, q⟩ := kr_of hE hk (by simp)
      exact .inl ⟨h.symm, .inr ⟨u, _, rfl, q, by simp⟩⟩
    | iface =>
      rw [hk] at h; injection h with h
      obtain ⟨_, q⟩ := kr_of hE hk (by simp)
      exact .inl ⟨h.symm, .inr ⟨u, _, rfl, q, by simp⟩⟩
theorem b_append (hE : EnvOK P E) (r : Rel m s w) {t u e esz eb len cap : Nat} {ts : List TypeId} {base : Option Addr} {ints : Bool} {y x x' : Value} (hy : VR m (.slice base len cap) y) (hx : VR m x x')
    (hk : tkOf E t = .slice e esz eb) (hi : isIntK E ts = some ints) (h : bAppend E s e esz eb base len cap ints x = some (n, s')) :
    BR m s w n s' ((Builtin.append_ ⟨t :: ts⟩ u #[y, x']).run P w) := by
  obtain ⟨k1, i, k2, k3, k4, zv, k5, k6⟩ : KR P t (.slice e esz eb) := kr_of hE hk (by simp)
  have hz : ∀ w, (zeroValue e).run P w = .ok zv w := by intro w; simp [zeroValue, typeInfo, k2, k5]
  obtain ⟨base', cap', rfl, hcc, hbase⟩ := sl_inv hy
  have ret : ∀ {q : Option (Value × St)} {z : N × St}, retV q = some z → ∃ v s1, q = some (v, s1) ∧ z = (.v v, s1) := by
    intro q z hq
    cases q with
    | none => cases hq
    | some q => obtain ⟨v, s1⟩ := q; injection hq with hq; exact ⟨v, s1, rfl, hq.symm⟩
  have hgrow : ∀ {k : Nat} {app : Sem (Array Value)} {new : List Value}, (∀ w, Rel m s w → ∃ new', app.run P w = .ok ⟨new'⟩ w ∧ VRs m new new') → (∀ x ∈ new, isCell x = true) → new.length = k * esz → 0 < k →
      retV (appendTo s esz eb e base len cap new k) = some (n, s') →
      (∀ w, (len + k) * (eb + 1) < 1099511627776 → (Builtin.append_ ⟨t :: ts⟩ u #[.slice base' len cap', x']).run P w = (growOn e esz eb k base' len cap' app).run P w) →
      BR m s w n s' ((Builtin.append_ ⟨t :: ts⟩ u #[.slice base' len cap', x']).run P w) := by
    intro k app new h1 h2 h3 h4 h5 h6
    obtain ⟨v, s1, q1, q2⟩ := ret h5
    injection q2 with q2 q3; subst q2; subst q3
    obtain ⟨f1, f2⟩ := appendTo_run (P := P) r hy hz k6 h1 h2 h3 h4 q1
    rw [h6 w f1]
    exact .of f2
  unfold bAppend at h
  rcases ts_ints hE hi with ⟨rfl, hts⟩ | ⟨rfl, u', tt, j, rfl, hu⟩
  · simp only at h
    split at h
    · split at h
      · rename_i hle
        rw [Nat.ble_eq] at hle
        injection h with h; injection h with e1 e2; subst e1; subst e2
        cases hx
        rename_i cq _
        have hlc : len ≤ cap' := Nat.le_trans hle hcc
        have hrun : (Builtin.append_ ⟨t :: ts⟩ u #[.slice base' len cap', .slice none 0 cq]).run P w = .ok (.slice base' len cap') w := by
          have b0 : ∀ q, (#[.slice base' len cap', q] : Array Value)[0]? = some (.slice base' len cap') := fun _ => rfl
          have b1 : ∀ q, (#[.slice base' len cap', q] : Array Value)[1]? = some q := fun _ => rfl
          have tail : ∀ w, (do
              let new ← Builtin.firstCells esz 0 (.slice none 0 0)
              if let some a := base' then storeCells (a.add (len * esz)) new.toList
              pure (Value.slice base' (len + 0) cap') : Sem Value).run P w = .ok (.slice base' len cap') w := by
            intro w
            simp only [Builtin.firstCells, Sem.run_bind, Sem.run_pure, Result.andThen_ok]
            rcases hbase with ⟨_, rfl, _⟩ | ⟨_, _, _, _, _, _, rfl, _, _⟩ <;> rfl
          unfold Builtin.append_
          have a0 : (⟨t :: ts⟩ : Array TypeId)[0]? = some t := rfl
          rcases hts with rfl | ⟨u0, D, q1, q2, q3⟩
          · have a1 : (⟨[t]⟩ : Array TypeId)[1]? = none := rfl
            simp only [a0, a1, b0, b1, Sem.run_bind, run_underlying k1, Result.andThen_ok, run_size ⟨i, k2, k3⟩ w, Sem.run_pure, Builtin.lenOf, Bool.false_eq_true, if_false, Bool.not_false, if_true]
            rw [if_pos (by omega)]
            exact tail w
          · cases ts with
            | nil => cases q1
            | cons u1 tt =>
            injection q1 with q1; subst q1
            have a1 : (⟨t :: u1 :: tt⟩ : Array TypeId)[1]? = some u1 := rfl
            simp only [a0, a1, b0, b1, Sem.run_bind, run_underlying k1, run_underlying q2, Result.andThen_ok, run_size ⟨i, k2, k3⟩ w, Sem.run_pure, Builtin.lenOf, Bool.false_eq_true, if_false, Bool.not_false, if_true]
            rw [if_pos (by omega)]
            exact tail w
        rw [hrun]
        exact .same r hy
      · cases h
    · rename_i b o sp k c
      split at h
      · cases h
      · rename_i hk0
        have hk0' : 0 < k := by
          rcases Nat.eq_zero_or_pos k with h0 | h0
          · subst h0; cases hk0
          · exact h0
        split at h
        · rename_i vs hl
          have hlen := loadR_length hl
          obtain ⟨bb, cc, rfl, _, hxb⟩ := sl_inv hx
          rcases hxb with ⟨hn, _⟩ | ⟨b1, o1, sp1, b', nn, hb1, rfl, hm, _⟩
          · cases hn
          · injection hb1 with hb1; injection hb1 with q1 q2 q3; subst q1; subst q2; subst q3
            refine hgrow (app := Builtin.firstCells esz k (.slice (some ⟨b', o, none⟩) k cc)) (new := vs) (fun w' r' => ?_) ?_ hlen hk0' h (fun w hf => append_values k1 k2 k3 k4 hts rfl hf w)
            · obtain ⟨ys, y1, y2, _⟩ := loadR_run (P := P) r' hm hl
              exact ⟨ys, y1, y2⟩
            · obtain ⟨ys, y1, y2, y3⟩ := loadR_run (P := P) r hm hl
              exact y3
        · cases h
    · rename_i l
      split at h
      · rename_i c0 l0 hk2
        have hs := hx.string_inv
        subst hs
        have hsz : (⟨⟨c0 :: l0⟩⟩ : ByteArray).size = (c0 :: l0).length := rfl
        refine hgrow (k := (c0 :: l0).length) (app := Builtin.firstCells 1 (c0 :: l0).length (.string ⟨⟨c0 :: l0⟩⟩)) (new := (c0 :: l0).map fun x => .int .u8 (.ofNat x.toNat)) (fun w' _ => ⟨(c0 :: l0).map fun x => .int .u8 (.ofNat x.toNat), ?_, bytes_rel _⟩) (bytes_cells _) (by simp) (by simp) (by rw [← cellsB_eq, ← lenB_eq]; exact h)
          (fun w hf => append_values k1 k2 k3 k4 hts rfl hf w)
        have hex : (⟨⟨c0 :: l0⟩⟩ : ByteArray).extract 0 (c0 :: l0).length = ⟨⟨c0 :: l0⟩⟩ := by
          apply ByteArray.ext
          apply Array.ext'
          simp
        simp only [Builtin.firstCells, hex, Sem.run_pure]
        congr 1
        apply Array.ext'
        simp
      · cases h
    · cases h
  · simp only at h
    split at h
    · rename_i kd k
      split at h
      · rename_i hk0 hk1
        have hk0' : 0 < k := by
          rcases Nat.eq_zero_or_pos k with h0 | h0
          · subst h0; cases hk0
          · exact h0
        cases hzz : zeroOf E e with
        | none => rw [hzz] at h; cases h
        | some z =>
          rw [hzz] at h
          simp only at h
          split at h
          · rename_i hb
            rw [Nat.beq_eq, lenV_eq] at hb
            obtain ⟨zv2, z1, z2, z3, z4, _⟩ := run_zero hE hzz m w
            rw [hz w] at z1
            injection z1 with z1 _
            subst z1
            have hxi := hx.int_inv
            subst hxi
            refine hgrow (k := k) (app := pure ⟨rep zv.cells.toList k⟩) (new := rep z k) (fun w' _ => ⟨rep zv.cells.toList k, rfl, by rw [z2]; exact rep_rel z3 k⟩) (rep_cells z4 k) (by rw [length_rep, hb]) hk0' h
              (fun w hf => append_zeros k1 k2 k3 k4 hu hz k6 hf w)
          · cases h
      · cases h
    · cases h
end
end Go.AM

namespace Go.AM
open Go
section
variable {P : Program} {E : Env} {m : Mp} {s s' : St} {w : World} {n : N} {ev ρ : Operand → Value} {d : Option Tmp} {ty : TypeId} {pos : String} {af : Array Edge} {g : Option (Nat × Bool)}

theorem b_copy (hE : EnvOK P E) (r : Rel m s w) {t u e esz eb dl c : Nat} {ts : List TypeId} {base : Option Addr} {y x x' : Value} (hy : VR m (.slice base dl c) y) (hx : VR m x x')
    (hk : tkOf E t = .slice e esz eb) (h : bCopy s esz base dl x = some (n, s')) : BR m s w n s' ((Builtin.copy_ ⟨t :: ts⟩ u #[y, x']).run P w) := by
  obtain ⟨k1, i, k2, k3, _⟩ : KR P t (.slice e esz eb) := kr_of hE hk (by simp)
  obtain ⟨base', c', rfl, _, hbase⟩ := sl_inv hy
  have a0 : (⟨t :: ts⟩ : Array TypeId)[0]? = some t := rfl
  have b0 : (#[.slice base' dl c', x'] : Array Value)[0]? = some (.slice base' dl c') := rfl
  have b1 : (#[.slice base' dl c', x'] : Array Value)[1]? = some x' := rfl
  unfold bCopy at h
  split at h
  · rename_i src sl c0
    obtain ⟨src', c1, rfl, _, hsrc⟩ := sl_inv hx
    have hmin : Nat.min sl dl = (match Nat.ble sl dl with | true => sl | false => dl) := by
      cases hb : Nat.ble sl dl with
      | true => rw [Nat.ble_eq] at hb; exact Nat.min_eq_left hb
      | false =>
        have : ¬ sl ≤ dl := by intro h'; rw [(Nat.ble_eq (x := sl) (y := dl)).mpr h'] at hb; cases hb
        exact Nat.min_eq_right (by omega)
    split at h
    · rename_i b o sp c2 p sp2
      split at h
      · rename_i vs hl
        split at h
        · rename_i s1 hst
          injection h with h; injection h with e1 e2; subst e1; subst e2
          rcases hbase with ⟨hn, _⟩ | ⟨_, _, _, b', nn, hb, rfl, hm, _⟩
          · cases hn
          · injection hb with hb; injection hb with q1 q2 q3; subst q1; subst q2
            rcases hsrc with ⟨hn, _⟩ | ⟨_, _, _, p', nn2, hb2, rfl, hm2, _⟩
            · cases hn
            · injection hb2 with hb2; injection hb2 with q4 q5 q6; subst q4; subst q5
              obtain ⟨ys, y1, y2, y3⟩ := loadR_run (P := P) r hm2 hl
              obtain ⟨w', z1, z2, z3⟩ := storeR_run (P := P) r hm hst y2 y3
              refine ⟨_, m, goInt (Nat.min sl dl : Nat), w', rfl, ?_, by rw [hmin]; exact .int _ _, z2, z3⟩
              have y1' : (loadCells ⟨p', p, none⟩ (Nat.min sl dl * esz)).run P w = .ok ⟨ys⟩ w := by rw [hmin]; exact y1
              simp only [Builtin.copy_, a0, b0, b1, Sem.run_bind, run_underlying k1, Result.andThen_ok, Builtin.lenOf, Sem.run_pure, run_size ⟨i, k2, k3⟩ w, Builtin.firstCells, y1', z1]
        · cases h
      · cases h
    · split at h
      · injection h with h; injection h with e1 e2; subst e1; subst e2
        rcases hbase with ⟨_, rfl, _⟩ | ⟨_, _, _, _, _, hb, _⟩
        · rcases hsrc with ⟨_, rfl, _⟩ | ⟨_, _, _, _, _, hb, _⟩
          · have hrun : (Builtin.copy_ ⟨t :: ts⟩ u #[.slice none 0 c', .slice none 0 c1]).run P w = .ok (.int .i64 (.ofNat 0)) w := by
              simp only [Builtin.copy_, a0, b0, b1, Sem.run_bind, run_underlying k1, Result.andThen_ok, Builtin.lenOf, Sem.run_pure, run_size ⟨i, k2, k3⟩ w, Builtin.firstCells]
              rfl
            rw [hrun]
            exact .same r (.int _ _)
          · cases hb
        · cases hb
      · cases h
    · cases h
  · cases h
theorem b_clear (hE : EnvOK P E) (r : Rel m s w) {t u e esz eb k c : Nat} {ts : List TypeId} {base : Option Addr} {y : Value} (hy : VR m (.slice base k c) y)
    (hk : tkOf E t = .slice e esz eb) (h : bClear E s e esz base k = some (n, s')) : BR m s w n s' ((Builtin.clear_ ⟨t :: ts⟩ u #[y]).run P w) := by
  obtain ⟨k1, _⟩ : KR P t (.slice e esz eb) := kr_of hE hk (by simp)
  obtain ⟨base', c', rfl, _, hbase⟩ := sl_inv hy
  have a0 : (⟨t :: ts⟩ : Array TypeId)[0]? = some t := rfl
  have b0 : (#[.slice base' k c'] : Array Value)[0]? = some (.slice base' k c') := rfl
  unfold bClear at h
  split at h
  · injection h with h; injection h with e1 e2; subst e1; subst e2
    have hrun : (Builtin.clear_ ⟨t :: ts⟩ u #[.slice base' 0 c']).run P w = .ok (.tuple #[]) w := by
      simp only [Builtin.clear_, a0, b0, Sem.run_bind, run_underlying k1, Result.andThen_ok]
      cases base' <;> rfl
    rw [hrun]
    exact .same r (.tuple .nil)
  · rename_i j
    split at h
    · cases h
    · rename_i b o sp
      cases hz : zeroOf E e with
      | none => rw [hz] at h; cases h
      | some z =>
        rw [hz] at h
        simp only at h
        split at h
        · rename_i hb
          split at h
          · rename_i s1 hst
            injection h with h; injection h with e1 e2; subst e1; subst e2
            rw [Nat.beq_eq, lenV_eq] at hb
            rcases hbase with ⟨hn, _⟩ | ⟨_, _, _, b', nn, hb', rfl, hm, _⟩
            · cases hn
            · injection hb' with hb'; injection hb' with q1 q2 q3; subst q1; subst q2
              obtain ⟨zv, z1, z2, z3, z4, _⟩ := run_zero hE hz m w
              obtain ⟨w', y1, y2, y3⟩ := storeR_run (P := P) r hm hst (rep_rel z3 _) (rep_cells z4 _)
              refine ⟨_, m, .tuple #[], w', rfl, ?_, .tuple .nil, y2, y3⟩
              have hzc : (Builtin.zeroCells zv.cells (j + 1)).toList = rep z (j + 1) := by
                have := zeros_cells zv.cells.toList (j + 1)
                rw [z2] at this
                have h2 : Builtin.zeroCells zv.cells (j + 1) = ⟨rep z (j + 1)⟩ := by
                  rw [← this]; unfold Builtin.zeroCells; rw [← z2]; rfl
                rw [h2]
              simp only [Builtin.clear_, a0, b0, Sem.run_bind, run_underlying k1, Result.andThen_ok, z1, hzc, y1, Sem.run_pure]
          · cases h
        · cases h
theorem b_delete (hE : EnvOK P E) (r : Rel m s w) {t u kt e : Nat} {ts : List TypeId} {x k x' k' : Value} (hx : VR m x x') (hk : VR m k k')
    (ht : tkOf E t = .map kt e) (h : bDelete E s kt x k = some (n, s')) : BR m s w n s' ((Builtin.delete_ ⟨t :: ts⟩ u #[x', k']).run P w) := by
  have k1 : P.underlying t = some (.map kt e) := kr_of hE ht (by simp)
  have a0 : (⟨t :: ts⟩ : Array TypeId)[0]? = some t := rfl
  have b0 : (#[x', k'] : Array Value)[0]? = some x' := rfl
  have b1 : (#[x', k'] : Array Value)[1]? = some k' := rfl
  unfold bDelete at h
  split at h
  · rename_i k0
    split at h
    · rename_i es c hg hkk
      split at h
      · rename_i es2 hd
        injection h with h; injection h with e1 e2; subst e1; subst e2
        obtain ⟨q1, q2, D, q3, q4, q5⟩ := key_desc hE hkk hk
        have q5' : ∀ b w, (Instr.checkKey b 10000 kt k).run P w = .ok () w := fun b w => q5 b 9999 w
        subst q1
        cases hx
        rename_i b nn hm
        obtain ⟨es', g1, g2⟩ := mapAt r hm hg
        rcases del_now q4 0 g2 hd with ⟨f1, f2⟩ | ⟨z, j, f1, f2, f3⟩
        · obtain ⟨r', x'⟩ := map_put r (c' := c) (es2 := es2) (ys := es'.toArray) hm hg f2
          refine ⟨_, m, .tuple #[], _, rfl, ?_, .tuple .nil, r', x'⟩
          simp only [Builtin.delete_, a0, b0, b1, Sem.run_bind, run_underlying k1, Result.andThen_ok, run_getMap g1, q5', findKey_run q3 f1, run_setMap _ g1, Sem.run_pure]
        · obtain ⟨r', x'⟩ := map_put r (c' := c) (es2 := es2) (ys := es'.toArray.eraseIdxIfInBounds j) hm hg (by
            unfold Array.eraseIdxIfInBounds
            rw [dif_pos (by simpa using f2)]
            simpa using f3)
          refine ⟨_, m, .tuple #[], _, rfl, ?_, .tuple .nil, r', x'⟩
          simp only [Builtin.delete_, a0, b0, b1, Sem.run_bind, run_underlying k1, Result.andThen_ok, run_getMap g1, q5', findKey_run q3 f1, run_setMap _ g1, Sem.run_pure, Nat.zero_add]
      · cases h
    · cases h
  · cases h
theorem maxL_run (k : IntKind) : ∀ {l l' : List Value} {a b : Int}, VRs m l l' → maxL l a = some b → (l'.foldlM Builtin.max2 (.int k a)).run P w = .ok (.int k b) w
  | [], _, a, b, .nil, h => by injection h with h; subst h; rfl
  | x :: l, _, a, b, .cons hx hl, h => by
    cases x with
    | int j c =>
      have h' : maxL l (match ilt a c with | true => c | false => a) = some b := h
      rw [hx.int_inv]
      have := maxL_run k hl h'
      have e : (if c > a then c else a) = (match ilt a c with | true => c | false => a) := by
        rw [ilt_eq]
        by_cases hc : a < c
        · simp [hc]
        · simp [hc]
      simp only [List.foldlM_cons, Builtin.max2, Sem.run_bind, Sem.run_pure, Result.andThen_ok, e, this]
    | _ => cases h
theorem minL_run (k : IntKind) : ∀ {l l' : List Value} {a b : Int}, VRs m l l' → minL l a = some b → (l'.foldlM Builtin.min2 (.int k a)).run P w = .ok (.int k b) w
  | [], _, a, b, .nil, h => by injection h with h; subst h; rfl
  | x :: l, _, a, b, .cons hx hl, h => by
    cases x with
    | int j c =>
      have h' : minL l (match ilt c a with | true => c | false => a) = some b := h
      rw [hx.int_inv]
      have := minL_run k hl h'
      have e : (if c < a then c else a) = (match ilt c a with | true => c | false => a) := by
        rw [ilt_eq]
        by_cases hc : c < a
        · simp [hc]
        · simp [hc]
      simp only [List.foldlM_cons, Builtin.min2, Sem.run_bind, Sem.run_pure, Result.andThen_ok, e, this]
    | _ => cases h
theorem b_max (r : Rel m s w) {ts : Array TypeId} {u : TypeId} {l l' : List Value} (hl : VRs m l l') (h : bMax s l = some (n, s')) : BR m s w n s' ((Builtin.max_ ts u ⟨l'⟩).run P w) := by
  unfold bMax at h
  split at h
  · rename_i k x rest
    split at h
    · rename_i b hb
      injection h with h; injection h with e1 e2; subst e1; subst e2
      cases hl with
      | cons hx hl =>
        have hxi := hx.int_inv
        subst hxi
        have := maxL_run (P := P) (w := w) k hl hb
        simp only [Builtin.max_, this]
        exact .same r (.int _ _)
    · cases h
  · cases h
theorem b_min (r : Rel m s w) {ts : Array TypeId} {u : TypeId} {l l' : List Value} (hl : VRs m l l') (h : bMin s l = some (n, s')) : BR m s w n s' ((Builtin.min_ ts u ⟨l'⟩).run P w) := by
  unfold bMin at h
  split at h
  · rename_i k x rest
    split at h
    · rename_i b hb
      injection h with h; injection h with e1 e2; subst e1; subst e2
      cases hl with
      | cons hx hl =>
        have hxi := hx.int_inv
        subst hxi
        have := minL_run (P := P) (w := w) k hl hb
        simp only [Builtin.min_, this]
        exact .same r (.int _ _)
    · cases h
  · cases h
theorem b_data (r : Rel m s w) {ts : Array TypeId} {u : TypeId} {l l' : List Value} (hl : VRs m l l') (h : bData s l = some (n, s')) : BR m s w n s' ((Builtin.unsafeSliceData_ ts u ⟨l'⟩).run P w) := by
  unfold bData at h
  split at h
  · rename_i b o sp ln c
    split at h
    · rename_i hc
      injection h with h; injection h with e1 e2; subst e1; subst e2
      cases hl with
      | cons hx hl =>
        cases hl
        obtain ⟨base', c', rfl, hcc, hb⟩ := sl_inv hx
        rcases hb with ⟨hn, _⟩ | ⟨_, _, _, b', nn, hb', rfl, hm, _⟩
        · cases hn
        · injection hb' with hb'; injection hb' with q1 q2 q3; subst q1; subst q2
          have hne : c ≠ 0 := by rintro rfl; cases hc
          have := Lib.run_unsafeSliceData_row (P := P) w ts u ⟨b', o, none⟩ ln c' (by omega)
          have h2 : (Builtin.unsafeSliceData_ ts u ⟨[.slice (some ⟨b', o, none⟩) ln c']⟩).run P w = _ := this
          rw [h2]
          exact .same r (.ptr _ hm)
    · cases h
  · cases h
theorem modify_set (h : Array Obj) (b : Nat) (f : Obj → Obj) (hb : b < h.size) : h.modify b f = h.setIfInBounds b (f h[b]) := by
  apply Array.ext_getElem?
  intro j
  rw [Array.getElem?_modify]
  by_cases hj : b = j
  · subst hj
    simp [hb]
  · rw [if_neg hj, Array.getElem?_setIfInBounds_ne hj]
theorem freeze_put {b n : Nat} {o : Obj} (h : w.heap[b]? = some o) : ∃ o', w.freeze ⟨b, 0, none⟩ n = putW w b o' := by
  have hb : b < w.heap.size := by
    rcases Nat.lt_or_ge b w.heap.size with h' | h'
    · exact h'
    · rw [Array.getElem?_eq_none h'] at h; cases h
  unfold World.freeze putW
  split
  · refine ⟨w.heap[b], ?_⟩
    have : w.heap.setIfInBounds b w.heap[b] = w.heap := by
      apply Array.ext_getElem?
      intro j
      by_cases hj : b = j
      · subst hj; simp [hb]
      · rw [Array.getElem?_setIfInBounds_ne hj]
    rw [this]
  · exact ⟨_, congrArg (fun h => ({ w with heap := h } : World)) (modify_set w.heap b _ hb)⟩
theorem isRo_cells {xs : List Value} {k : CK} {e : TypeId} (h : isRo (.cells xs k e)) : k = .ro := by
  cases k <;> first | rfl | exact absurd h (by simp [isRo])
theorem Rel.change (r : Rel m s w) {k b n : Nat} {o0 : Ob} {o' : Obj} (hk : T.get s.heap k = some o0) (hnro : ¬ isRo o0) (hm : m k = some (b, n)) :
    Rel m (s.put k none) (putW w b o') ∧ Ext m s w m (s.put k none) (putW w b o') := by
  have hget : ∀ j, T.get (s.put k none).heap j = if j = k then none else T.get s.heap j := fun j => T.get_set _ _ _ _
  have hother : ∀ c, c ≠ b → (w.heap.setIfInBounds b o')[c]? = w.heap[c]? := by
    intro c hc; rw [Array.getElem?_setIfInBounds_ne (by omega)]
  have f : ∀ i x, (if i = k then none else T.get s.heap i) = some x → i ≠ k ∧ T.get s.heap i = some x := by
    intro i x hx
    by_cases he : i = k
    · rw [if_pos he] at hx; cases hx
    · rw [if_neg he] at hx; exact ⟨he, hx⟩
  refine ⟨⟨?_, ?_, r.low, ?_⟩, ⟨fun _ _ h => h, ?_, ?_, by simp [putW], Nat.le_refl _, rfl, rfl, rfl, fun _ _ => rfl⟩⟩
  · intro j ob hj
    rw [hget] at hj
    obtain ⟨hne, hj⟩ := f _ _ hj
    obtain ⟨c, nn, o1, h1, h2, h3⟩ := r.ob j ob hj
    refine ⟨c, nn, o1, h1, ?_, h3⟩
    show (w.heap.setIfInBounds b o')[c]? = _
    rw [hother c]; exact h2
    rintro rfl; exact hne (r.inj j k _ _ _ _ _ hj hk h1 hm)
  · intro j j' a c q n1 n2 hj hj' h1 h2
    rw [hget] at hj hj'
    exact r.inj j j' a c q n1 n2 (f _ _ hj).2 (f _ _ hj').2 h1 h2
  · intro j c nn hj
    show c < (w.heap.setIfInBounds b o').size
    rw [Array.size_setIfInBounds]
    exact r.rng j c nn hj
  · intro c hc hn
    apply hother
    rintro rfl
    exact hnro (hn k o0 n hk hm)
  · intro j ob c nn hj hmj _
    rw [hget] at hj
    exact ⟨j, ob, nn, (f _ _ hj).2, hmj, id⟩
theorem b_str (hE : EnvOK P E) (r : Rel m s w) {ts : List TypeId} {u : TypeId} {l l' : List Value} (hl : VRs m l l') (h : bStr E s ts l = some (n, s')) : BR m s w n s' ((Builtin.unsafeString_ ⟨ts⟩ u ⟨l'⟩).run P w) := by
  unfold bStr at h
  split at h
  · rename_i t it b k
    split at h
    case h_2 => cases h
    rename_i hk40
    rw [Nat.blt_eq] at hk40
    unfold bStrAt at h
    split at h
    · rename_i e esz hk
      obtain ⟨k1, _⟩ : KR P t (.ptr e esz) := kr_of hE hk (by simp)
      split at h
      · rename_i xs ck e' hg hk2
        obtain ⟨ti, ht, _, tr⟩ := tk_known hE hk2 (by simp)
        split at h
        · cases h
        · rename_i vs q1 q2 q3 hck
          split at h
          · rename_i ll hb
            injection h with h; injection h with e1 e2; subst e1; subst e2
            rw [Nat.beq_eq] at q2
            subst q2
            obtain ⟨t1, t2⟩ := takeV_some q3
            cases hl with
            | cons hx hl =>
              cases hl with
              | cons hy hl =>
                cases hl
                obtain ⟨b', nn, rfl, hm⟩ := hx.ptr_inv
                have hyi := hy.int_inv
                subst hyi
                obtain ⟨b2, n2, o2, g1, g2, g3⟩ := r.ob b _ hg
                rw [hm] at g1; injection g1 with g1; injection g1 with g1 g1'; subst g1; subst g1'
                cases g3 with
                | cells hs hpl hf he =>
                  rename_i ys zs e2 fr
                  have he2 : e2 = e := by rcases he with he | he; exact absurd he (by rintro rfl; exact hck rfl); exact he
                  subst he2
                  have hlen := hs.length
                  have hv := bytesV_some hb
                  have hll : ll.length = k := by
                    have := congrArg List.length hv
                    rw [t2] at this; simp at this; omega
                  have hys : ys.take k = ll.map fun x => .int .u8 (.ofNat x.toNat) := by
                    apply vrs_bytes (m := m)
                    rw [← hv, t2]
                    exact hs.take k
                  have hk0 : k ≠ 0 := by rintro rfl; cases q1
                  have hsize : P.cellsOf e2 = 1 := by
                    obtain ⟨i, z, i1, i2, i3, i4, i5, i6⟩ := tr.info
                    have hti : ti.k = .int .u8 := by
                      have : tkOf E e2 = ti.k := by simp [tkOf, ht]
                      rw [← this]; exact hk2
                    have := i6 (by rw [hti]; rfl)
                    have hl := tr.len
                    rw [this] at hl
                    simp only [Program.cellsOf, i1, Option.map_some, Option.getD_some, i2, ← hl, List.length_singleton]
                  have hsh : w.shape? b' = some (e2, (ys ++ zs).length) := by simp [World.shape?, g2]
                  have hcell : ∀ j x, ll[j]? = some x → w.cell? ((⟨b', 0, none⟩ : Addr).add j) = some (.int .u8 x.toNat) := by
                    intro j x hj
                    have hjk : j < k := by
                      rw [← hll]; exact (List.getElem?_eq_some_iff.1 hj).1
                    rw [addr_add]
                    simp only [World.cell?, g2, Nat.zero_add]
                    have h1 : (ys.take k)[j]? = some (.int .u8 (.ofNat x.toNat)) := by rw [hys]; simp [hj]
                    rw [List.getElem?_take_of_lt hjk] at h1
                    have : (ys ++ zs)[j]? = some (.int .u8 (.ofNat x.toNat)) := by
                      rw [List.getElem?_append_left (by omega)]; exact h1
                    simpa using this
                  have hne : ll ≠ [] := by rintro rfl; exact hk0 hll.symm
                  have hrun := Lib.run_unsafeString_row (P := P) w t it u e2 k1 hsize b' _ hsh ll hne (by rw [List.length_append]; omega) (by omega) hcell
                  rw [hll] at hrun
                  obtain ⟨o', ho'⟩ := freeze_put (n := k) g2
                  rw [ho'] at hrun
                  obtain ⟨r', x'⟩ := r.change hg (fun hro => hck (isRo_cells hro)) hm (o' := o')
                  exact ⟨_, m, _, _, rfl, hrun, .string _, r', x'⟩
          · cases h
        · cases h
      · cases h
    · cases h
  · cases h
end
end Go.AM
