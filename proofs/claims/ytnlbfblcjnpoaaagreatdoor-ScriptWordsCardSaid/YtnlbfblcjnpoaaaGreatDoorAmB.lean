/- AM, operation by operation: what AM answers, the model answers. -/
import Derived.Test.YtnlbfblcjnpoaaaGreatDoorAmA2
import Derived.Laws.Entries
import Derived.Laws.Cells
import Derived.Laws.CopyRow
namespace Go.AM
open Go

/-! ## what AM's tables say of the program -/
def SizeIs (P : Program) (t n : Nat) : Prop := ∃ i, P.info? t = some i ∧ i.size = n
def KR (P : Program) (t : TypeId) : TK → Prop
  | .int k => P.underlying t = some (.int k)
  | .bool => P.underlying t = some .bool
  | .str => P.underlying t = some .string
  | .ptr e n => P.underlying t = some (.pointer e) ∧ SizeIs P e n
  | .uptr => P.underlying t = some .unsafePointer
  | .slice e n b => P.underlying t = some (.slice e) ∧ ∃ i, P.info? e = some i ∧ i.size = n ∧ i.bytes = b ∧ ∃ z, i.zero = some z ∧ z.cells.size = n
  | .array l e n => P.underlying t = some (.array l e) ∧ SizeIs P e n
  | .struct fs => ∃ gs : Array Field, P.underlying t = some (.struct gs) ∧ gs.toList.map (fun f => (f.offset, f.type)) = fs.map (fun f => (f.1, f.2.1)) ∧
      ∀ f ∈ fs, SizeIs P f.2.1 f.2.2
  | .map k e => P.underlying t = some (.map k e)
  | .func => ∃ a b c, P.underlying t = some (.func a b c)
  | .iface => ∃ ms, P.underlying t = some (.interface ms)
  | .other => False
structure TyR (P : Program) (t : TypeId) (ti : TI) : Prop where
  kind : KR P t ti.k
  info : ∃ i z, P.info? t = some i ∧ i.size = ti.size ∧ i.zero = some z ∧ z.cells.toList = ti.zero ∧ (aggK ti.k = true → z = .agg ⟨ti.zero⟩) ∧ (aggK ti.k = false → ti.zero = [z])
  zero : ∀ m, VRs m ti.zero ti.zero
  cells : ∀ v ∈ ti.zero, isCell v = true
  len : ti.zero.length = ti.size
  eqs : ti.eqs = false
  meths : ∀ name f, findM name ti.meths = some f → ∃ i mm pr, P.info? t = some i ∧ i.methods.find? (fun x => x.name == name) = some mm ∧ mm.path = #[] ∧ mm.func = some (f, pr) ∧
    pr = (match P.underlying t with | some (.pointer _) => true | _ => false)
structure EnvOK (P : Program) (E : Env) : Prop where
  tys : ∀ t ti, T.get E.tys t = some ti → TyR P t ti
  fns : ∀ f fn, T.get E.fns f = some fn → P.funcs[f]? = some fn ∧ (fn.name == "runtime.NumGoroutine") = false
  ext : ∀ f g, T.get E.ext f = some g → ∀ (m : Mp) (args args' : List Value) (v : Value), VRs m args args' → g args = some v → ∀ w,
    ∃ v', (callFunc f ⟨args'⟩).run P w = .ok (.value v') w ∧ VR m v v'
  mixed : P.follows .mixedOrders = true
  prm : ∀ f, T.get E.prm f = none
  code : ∀ f fn body, T.get E.fns f = some fn → fn.body = some body → codeOk E body = true

theorem tk_known {P : Program} {E : Env} (hE : EnvOK P E) {t : TypeId} {k : TK} (h : tkOf E t = k) (hk : k ≠ .other) : ∃ ti, T.get E.tys t = some ti ∧ ti.k = k ∧ TyR P t ti := by
  unfold tkOf at h
  cases ht : T.get E.tys t with
  | none => rw [ht] at h; exact absurd h.symm hk
  | some ti => rw [ht] at h; exact ⟨ti, rfl, h, hE.tys t ti ht⟩
theorem kr_of {P : Program} {E : Env} (hE : EnvOK P E) {t : TypeId} {k : TK} (h : tkOf E t = k) (hk : k ≠ .other) : KR P t k := by
  obtain ⟨ti, _, h2, h3⟩ := tk_known hE h hk
  rw [← h2]; exact h3.kind
theorem run_size {P : Program} {t n : Nat} (h : SizeIs P t n) (w : World) : (sizeOf t).run P w = .ok n w := by
  obtain ⟨i, h1, h2⟩ := h
  simp [sizeOf, typeInfo, h1, h2]
theorem TyR.size {P : Program} {t : TypeId} {ti : TI} (h : TyR P t ti) : SizeIs P t ti.size := by
  obtain ⟨i, z, h1, h2, _⟩ := h.info; exact ⟨i, h1, h2⟩
theorem run_isAgg {P : Program} {t : TypeId} {k : TK} (h : KR P t k) (w : World) : (isAgg t).run P w = .ok (aggK k) w := by
  cases k <;> simp only [KR] at h
  case struct fs => obtain ⟨gs, h, _⟩ := h; simp [isAgg, run_underlying h, aggK]
  case array l e n => obtain ⟨h, _⟩ := h; simp [isAgg, run_underlying h, aggK]
  case ptr e n => obtain ⟨h, _⟩ := h; simp [isAgg, run_underlying h, aggK]
  case slice e n b => obtain ⟨h, _⟩ := h; simp [isAgg, run_underlying h, aggK]
  case func => obtain ⟨a, b, c, h⟩ := h; simp [isAgg, run_underlying h, aggK]
  case iface => obtain ⟨a, h⟩ := h; simp [isAgg, run_underlying h, aggK]
  all_goals simp [isAgg, run_underlying h, aggK]
theorem run_zero {P : Program} {E : Env} (hE : EnvOK P E) {t : TypeId} {z : List Value} (h : zeroOf E t = some z) (m : Mp) (w : World) :
    ∃ zv, (zeroValue t).run P w = .ok zv w ∧ zv.cells.toList = z ∧ VRs m z z ∧ (∀ v ∈ z, isCell v = true) ∧ SizeIs P t z.length := by
  unfold zeroOf at h
  cases ht : T.get E.tys t with
  | none => rw [ht] at h; cases h
  | some ti =>
    rw [ht] at h; injection h with h; subst h
    have r := hE.tys t ti ht
    obtain ⟨i, zv, h1, h2, h3, h4, _⟩ := r.info
    exact ⟨zv, by simp [zeroValue, typeInfo, h1, h3], h4, r.zero m, r.cells, ⟨i, h1, by rw [h2, r.len]⟩⟩
theorem addr_add (b o i : Nat) : (⟨b, o, none⟩ : Addr).add i = ⟨b, o + i, none⟩ := by
  unfold Addr.add; split
  · rename_i h; rw [h]; rfl
  · rfl

/-! ## reading and writing cells -/
theorem loadR_rel {m : Mp} {s : St} {w : World} (r : Rel m s w) {k b n off len : Nat} {vs : List Value} (hm : m k = some (b, n)) (h : loadR s k off len = some vs) (h0 : 0 < len) :
    ∃ ys c e fr, w.heap[b]? = some (.cells c e fr) ∧ c.size = n ∧ off + len ≤ n ∧ ys = (c.toList.drop off).take len ∧ ys.length = len ∧ VRs m vs ys ∧ ∀ v ∈ vs, isCell v = true := by
  unfold loadR at h
  cases hk : T.get s.heap k with
  | none => rw [hk] at h; cases h
  | some o =>
    obtain ⟨b', n', o', h1, h2, h3⟩ := r.ob k o hk
    rw [hm] at h1; injection h1 with h1; injection h1 with h1 h1'; subst h1; subst h1'
    cases h3 with
    | cells hs hp hf he =>
      rename_i xs ys zs ck e e' fr
      rw [hk] at h
      simp only at h
      obtain ⟨g1, g2⟩ := takeV_some h
      rw [dropV_eq] at g1 g2
      have hlen := hs.length
      refine ⟨_, _, e', fr, h2, by simp, ?_, rfl, ?_, ?_, ?_⟩
      · simp at g1; simp; omega
      · simp at g1; simp; omega
      · rw [g2]
        have := (hs.drop off).take len
        have e1 : ((ys ++ zs).drop off).take len = (ys.drop off).take len := by
          simp at g1
          rw [List.drop_append_of_le_length (by omega), List.take_append_of_le_length (by simp; omega)]
        rw [show ((⟨ys ++ zs⟩ : Array Value).toList.drop off).take len = (ys.drop off).take len from e1]
        exact this
      · intro v hv
        rw [g2] at hv
        exact hp v (List.mem_of_mem_drop (List.mem_of_mem_take hv))
    | map c n a => rw [hk] at h; cases h
    | iter a b c n r => rw [hk] at h; cases h
    | loop n a => rw [hk] at h; cases h
    | defd t n => rw [hk] at h; cases h
theorem run_load_range {P : Program} {w : World} {b off len : Nat} {c : Array Value} {e : TypeId} {fr : Nat × Nat} (h : w.heap[b]? = some (.cells c e fr)) (hl : off + len ≤ c.size) :
    (loadCells ⟨b, off, none⟩ len).run P w = .ok ⟨(c.toList.drop off).take len⟩ w := by
  have hlen : ((c.toList.drop off).take len).length = len := by simp; omega
  have := run_loadCells_list (P := P) w ⟨b, off, none⟩ ((c.toList.drop off).take len) (fun j v hv => by
    rw [addr_add]
    have hj : j < len := by
      have := (List.getElem?_eq_some_iff.1 hv).1
      rw [hlen] at this; exact this
    rw [List.getElem?_take_of_lt hj, List.getElem?_drop] at hv
    simp only [World.cell?, h]
    simpa using hv)
  rw [hlen] at this
  simpa using this
theorem loadR_run {P : Program} {m : Mp} {s : St} {w : World} (r : Rel m s w) {k b n off len : Nat} {vs : List Value} (hm : m k = some (b, n)) (h : loadR s k off len = some vs) :
    ∃ ys, (loadCells ⟨b, off, none⟩ len).run P w = .ok ⟨ys⟩ w ∧ VRs m vs ys ∧ ∀ v ∈ vs, isCell v = true := by
  rcases Nat.eq_zero_or_pos len with h0 | h0
  · subst h0
    have hv : vs = [] := by
      unfold loadR at h
      cases hk : T.get s.heap k with
      | none => rw [hk] at h; cases h
      | some o =>
        rw [hk] at h
        cases o with
        | cells xs ck e => obtain ⟨_, g2⟩ := takeV_some h; simpa using g2
        | map _ _ => cases h
        | iter _ _ _ _ => cases h
        | loop _ => cases h
        | defd _ => cases h
    subst hv
    exact ⟨[], rfl, .nil, by simp⟩
  · obtain ⟨ys, c, e, fr, h1, h2, h3, h4, _, h5, h6⟩ := loadR_rel r hm h h0
    subst h4
    exact ⟨_, run_load_range h1 (by omega), h5, h6⟩

theorem run_storeCells_free {P : Program} (g o : Nat) (t : TypeId) (fr : Nat × Nat) : ∀ (vs : List Value) (i : Nat) (cur : Array Value) (w : World), w.heap[g]? = some (.cells cur t fr) → o + i + vs.length ≤ cur.size →
    (∀ v ∈ vs, isCell v = true) → (∀ j, j < cur.size → (decide (fr.1 ≤ j) && decide (j < fr.2)) = false) →
    (storeCells ⟨g, o, none⟩ vs i).run P w = .ok () (putW w g (.cells ⟨cur.toList.take (o + i) ++ vs ++ cur.toList.drop (o + i + vs.length)⟩ t fr))
  | [], i, cur, w, hg, hl, _, _ => by
    have hself : putW w g (.cells cur t fr) = w := by
      unfold putW
      have hb : g < w.heap.size := by
        rcases Nat.lt_or_ge g w.heap.size with h | h
        · exact h
        · rw [Array.getElem?_eq_none h] at hg; cases hg
      have : w.heap.setIfInBounds g (.cells cur t fr) = w.heap := by
        apply Array.ext_getElem?
        intro j
        by_cases hj : j = g
        · subst hj; rw [Array.getElem?_setIfInBounds_self]; simp [hb]
          have := (Array.getElem?_eq_some_iff.1 hg).2; simpa using this.symm
        · rw [Array.getElem?_setIfInBounds_ne (by omega)]
      rw [this]
    simp only [storeCells, List.append_nil, List.length_nil, Nat.add_zero, List.take_append_drop]
    rw [show (⟨cur.toList⟩ : Array Value) = cur from rfl, hself]
    rfl
  | v :: rest, i, cur, w, hg, hl, h1, hf => by
    have hi : o + i < cur.size := by simp at hl; omega
    have hb : g < w.heap.size := by
      rcases Nat.lt_or_ge g w.heap.size with h | h
      · exact h
      · rw [Array.getElem?_eq_none h] at hg; cases hg
    have hcell : w.cell? ⟨g, o + i, none⟩ = some cur[o + i] := by simp [World.cell?, hg, hi]
    have hfro : w.frozen? ⟨g, o + i, none⟩ = false := by
      simp only [World.frozen?, hg]; exact hf _ hi
    have hset : w.setCell ⟨g, o + i, none⟩ v = putW w g (.cells (cur.setIfInBounds (o + i) v) t fr) := by
      unfold World.setCell putW
      congr 1
      apply Array.ext_getElem?
      intro j
      rw [Array.getElem?_modify]
      by_cases hj : g = j
      · subst hj
        have hgg : w.heap[g] = .cells cur t fr := (Array.getElem?_eq_some_iff.1 hg).2
        simp [hb, hgg]
      · rw [if_neg hj, Array.getElem?_setIfInBounds_ne hj]
    have hone : v.oneCell' = true := by
      have := h1 v (by simp)
      cases v <;> simp_all [isCell, Value.oneCell']
    have hst : (store ((⟨g, o, none⟩ : Addr).add i) v).run P w = .ok () (putW w g (.cells (cur.setIfInBounds (o + i) v) t fr)) := by
      rw [addr_add, run_store P w _ v _ hone, hcell]
      simp [hfro, hset]
    have hg' : (putW w g (.cells (cur.setIfInBounds (o + i) v) t fr)).heap[g]? = some (.cells (cur.setIfInBounds (o + i) v) t fr) := by
      unfold putW; simp [hb]
    have ih := run_storeCells_free (P := P) g o t fr rest (i + 1) (cur.setIfInBounds (o + i) v) _ hg' (by simp at hl ⊢; omega) (fun x hx => h1 x (by simp [hx])) (by simpa using hf)
    have hput : ∀ x y, putW (putW w g x) g y = putW w g y := by
      intro x y; unfold putW; simp [Array.setIfInBounds_setIfInBounds]
    simp only [storeCells, Sem.run_bind, hst, Result.andThen_ok, ih, hput]
    congr 4
    simp only [Array.toList_setIfInBounds, List.length_cons]
    have hi' : o + i < cur.toList.length := by simpa using hi
    rw [show o + (i + 1) = o + i + 1 by omega, List.take_set, List.drop_set_of_lt (by omega)]
    rw [List.take_succ_eq_append_getElem hi', List.set_append_right _ _ (by simp; omega)]
    simp only [List.append_assoc]
    congr 1
    have : o + i - (List.take (o + i) cur.toList).length = 0 := by simp; omega
    rw [this]
    simp only [List.set_cons_zero, List.cons_append, List.nil_append]
    congr 3
    omega
theorem frozen_free {k : CK} {fr : Nat × Nat} {n : Nat} (h : frozenOk k fr n) (hk : k ≠ .ro) : ∀ j, j < n → (decide (fr.1 ≤ j) && decide (j < fr.2)) = false := by
  intro j hj
  cases k with
  | ro => exact absurd rfl hk
  | rw => simp only [frozenOk] at h; subst h; simp
  | sb => simp only [frozenOk] at h; simp; omega
/-- cells of a block are written -/
theorem storeR_run {P : Program} {m : Mp} {s s' : St} {w : World} (r : Rel m s w) {k b n off : Nat} {vs ys : List Value} (hm : m k = some (b, n)) (h : storeR s k off vs = some s')
    (hv : VRs m vs ys) (hp : ∀ v ∈ vs, isCell v = true) :
    ∃ w', (storeCells ⟨b, off, none⟩ ys).run P w = .ok () w' ∧ Rel m s' w' ∧ Ext m s w m s' w' := by
  unfold storeR at h
  cases hk : T.get s.heap k with
  | none => rw [hk] at h; cases h
  | some o =>
    obtain ⟨b', n', o', h1, h2, h3⟩ := r.ob k o hk
    rw [hm] at h1; injection h1 with h1; injection h1 with h1 h1'; subst h1; subst h1'
    cases h3 with
    | cells hs hpl hf he =>
      rename_i xs as zs ck e e' fr
      rw [hk] at h
      simp only at h
      have hck : ck ≠ .ro := by rintro rfl; cases h
      have h' : (match spliceV xs vs off with | some zs => some (s.put k (some (.cells zs ck e))) | none => none) = some s' := by
        cases ck <;> first | exact h | exact absurd rfl hck
      cases hsp : spliceV xs vs off with
      | none => rw [hsp] at h'; cases h'
      | some us =>
        rw [hsp] at h'; injection h' with h'; subst h'
        obtain ⟨g1, g2⟩ := spliceV_some hsp
        have hlen := hs.length
        have hvl := hv.length
        have hrun := run_storeCells_free (P := P) b off e' fr ys 0 ⟨as ++ zs⟩ w h2 (by simp; omega) (hv.cells hp) (by simpa using frozen_free hf hck)
        refine ⟨_, hrun, ?_⟩
        have heq : (as ++ zs).take (off + 0) ++ ys ++ (as ++ zs).drop (off + 0 + ys.length) = (as.take off ++ ys ++ as.drop (off + ys.length)) ++ zs := by
          rw [Nat.add_zero, List.take_append_of_le_length (by omega), List.drop_append_of_le_length (by omega)]
          simp only [List.append_assoc]
        have hor : OR m (.cells us ck e) (.cells ⟨(as ++ zs).take (off + 0) ++ ys ++ (as ++ zs).drop (off + 0 + ys.length)⟩ e' fr) (as ++ zs).length := by
          have hl : (as ++ zs).length = ((as.take off ++ ys ++ as.drop (off + ys.length)) ++ zs).length := by
            simp; omega
          rw [heq, hl]
          refine .cells ?_ ?_ ?_ ?_
          · rw [g2, hvl]; exact ((hs.take off).append hv).append (hs.drop _)
          · intro x hx
            rw [g2] at hx
            simp only [List.append_assoc, List.mem_append] at hx
            rcases hx with hx | hx | hx
            · exact hpl x (List.mem_of_mem_take hx)
            · exact hp x hx
            · exact hpl x (List.mem_of_mem_drop hx)
          · rw [← hl]; exact hf
          · exact he
        exact r.put hk (by cases ck <;> simp_all [isRo]) hm hor
    | map c n a => rw [hk] at h; cases h
    | iter a b c n r => rw [hk] at h; cases h
    | loop n a => rw [hk] at h; cases h
    | defd t n => rw [hk] at h; cases h
end Go.AM

namespace Go.AM
open Go

/-! ## what an operation of AM says of the model's -/
inductive OpR (P : Program) (m : Mp) (s : St) (w : World) : N → St → Result Next → Prop
  | v {m' : Mp} {s' : St} {w' : World} {x x' : Value} : VR m' x x' → Rel m' s' w' → Ext m s w m' s' w' → OpR P m s w (.v x) s' (.ok (.value x') w')
  | skip {m' : Mp} {s' : St} {w' : World} : Rel m' s' w' → Ext m s w m' s' w' → OpR P m s w (.v undef) s' (.ok .skip w')
  | enter {f : FuncId} {args args' : List Value} : VRs m args args' → OpR P m s w (.enter f args) s ((callFunc f ⟨args'⟩).run P w)
  | round {l l' n : Nat} {args args' : List Value} : m l = some (l', n) → VRs m args args' → OpR P m s w (.round l args) s ((Instr.yield l' ⟨args'⟩).run P w)
  | defer {g : FuncId} {cap cap' args args' : List Value} : VRs m cap cap' → VRs m args args' →
      OpR P m s w (.defer ⟨.fn (.func g) ⟨cap⟩, ⟨args⟩⟩) s (.ok (.defer ⟨.fn (.func g) ⟨cap'⟩, ⟨args'⟩⟩) w)
  | recover : OpR P m s w .recover s (.ok .recover w)
  | panic {x x' : Value} : VR m x x' → OpR P m s w (.panic x) s (.halt (.panic x') w)
abbrev ER (m : Mp) (ev ρ : Operand → Value) : Prop := ∀ x, VR m (ev x) (ρ x)
def mkO (d : Option Tmp) (op : Op) (ty : TypeId) (pos : String) (af : Array Edge) (g : Option (Nat × Bool)) : Oper := ⟨d, op, ty, pos, af, g⟩

section
variable {P : Program} {E : Env} {m : Mp} {s s' : St} {w : World} {n : N} {ev ρ : Operand → Value} {d : Option Tmp} {ty : TypeId} {pos : String} {af : Array Edge} {g : Option (Nat × Bool)}

theorem OpR.same (r : Rel m s w) {x x' : Value} (h : VR m x x') : OpR P m s w (.v x) s (.ok (.value x') w) := .v h r (Ext.refl m s w)

theorem op_move (r : Rel m s w) (hρ : ER m ev ρ) (x : Operand) (h : hMove x E s ev = some (n, s')) : OpR P m s w n s' ((execOp ρ ⟨d, .move x, ty, pos, af, g⟩).run P w) := by
  injection h with h; injection h with h1 h2; subst h1; subst h2
  exact .same r (hρ x)
theorem op_assign (r : Rel m s w) (hρ : ER m ev ρ) (x : Operand) (h : hMove x E s ev = some (n, s')) : OpR P m s w n s' ((execOp ρ ⟨d, .assign x, ty, pos, af, g⟩).run P w) := by
  injection h with h; injection h with h1 h2; subst h1; subst h2
  exact .same r (hρ x)
theorem op_pick (r : Rel m s w) (hρ : ER m ev ρ) (c a b : Operand) (h : hPick c a b E s ev = some (n, s')) : OpR P m s w n s' ((execOp ρ ⟨d, .pick c a b, ty, pos, af, g⟩).run P w) := by
  have hc := hρ c
  unfold hPick oPick at h
  cases hx : ev c with
  | bool t =>
    rw [hx] at h hc
    cases hy : ρ c <;> rw [hy] at hc <;> cases hc
    injection h with h; injection h with h1 h2; subst h1; subst h2
    simp only [execOp, hy, asBool, Sem.run_bind, Sem.run_pure, Result.andThen_ok]
    cases t
    · exact .same r (hρ b)
    · exact .same r (hρ a)
  | _ => rw [hx] at h; cases h

/-- a new row of cells -/
theorem new_cells (r : Rel m s w) {xs ys : List Value} {e : TypeId} {k : CK} {fr : Nat × Nat} (zs : List Value) (hs : VRs m xs ys) (hp : ∀ x ∈ xs, isCell x = true) (hf : frozenOk k fr (ys ++ zs).length) :
    Rel (setM m s.next w.heap.size (ys ++ zs).length) (s.new (.cells xs k e)) (pushW w (.cells ⟨ys ++ zs⟩ e fr)) ∧
      Ext m s w (setM m s.next w.heap.size (ys ++ zs).length) (s.new (.cells xs k e)) (pushW w (.cells ⟨ys ++ zs⟩ e fr)) := by
  refine r.new (.cells (hs.mono (setM_mono (r.low _ (Nat.le_refl _)))) hp hf (.inr rfl))
theorem setM_self (k b n : Nat) : setM m k b n k = some (b, n) := by simp [setM]

theorem op_alloc (hE : EnvOK P E) (r : Rel m s w) (e : TypeId) (h : hAlloc e E s ev = some (n, s')) : OpR P m s w n s' ((execOp ρ ⟨d, .alloc e, ty, pos, af, g⟩).run P w) := by
  unfold hAlloc oAlloc at h
  cases hz : zeroOf E e with
  | none => rw [hz] at h; cases h
  | some z =>
    rw [hz] at h; injection h with h; injection h with h1 h2; subst h1; subst h2
    obtain ⟨zv, g1, g2, g3, g4, g5⟩ := run_zero hE hz m w
    have hc : zv.cells = ⟨z ++ []⟩ := by rw [← g2]; simp
    obtain ⟨r', x'⟩ := new_cells r (e := e) (k := .rw) (fr := (0, 0)) [] g3 g4 rfl
    have : (execOp ρ ⟨d, .alloc e, ty, pos, af, g⟩).run P w = .ok (.value (.pointer (some ⟨w.heap.size, 0, none⟩))) (pushW w (.cells ⟨z ++ []⟩ e (0, 0))) := by
      simp only [execOp, Instr.alloc, Sem.run_bind, g1, Result.andThen_ok, newVar, newRow, run_newObj, Sem.run_pure, hc]
      rfl
    rw [this]
    exact .v (.ptr 0 (setM_self _ _ _)) r' x'
theorem op_box (r : Rel m s w) (hρ : ER m ev ρ) (e : TypeId) (x : Operand) (h : hBox e x E s ev = some (n, s')) : OpR P m s w n s' ((execOp ρ ⟨d, .box e x, ty, pos, af, g⟩).run P w) := by
  unfold hBox oBox at h
  cases hz : flat (ev x) with
  | none => rw [hz] at h; cases h
  | some z =>
    rw [hz] at h; injection h with h; injection h with h1 h2; subst h1; subst h2
    obtain ⟨g3, g4⟩ := flat_rel (hρ x) hz
    have hc : (ρ x).cells = ⟨(ρ x).cells.toList ++ []⟩ := by simp
    obtain ⟨r', x'⟩ := new_cells r (e := e) (k := .rw) (fr := (0, 0)) [] g3 g4 rfl
    have : (execOp ρ ⟨d, .box e x, ty, pos, af, g⟩).run P w = .ok (.value (.pointer (some ⟨w.heap.size, 0, none⟩))) (pushW w (.cells ⟨(ρ x).cells.toList ++ []⟩ e (0, 0))) := by
      simp only [execOp, Instr.box, Sem.run_bind, Result.andThen_ok, newVar, newRow, run_newObj, Sem.run_pure, ← hc]
      rfl
    rw [this]
    exact .v (.ptr 0 (setM_self _ _ _)) r' x'

theorem wrapV_rel {k : TK} {vs ys : List Value} {v : Value} (h : wrapV k vs = some v) (hv : VRs m vs ys) (hp : ∀ x ∈ vs, isCell x = true) :
    (aggK k = true ∧ VR m v (.agg ⟨ys⟩)) ∨ (aggK k = false ∧ ∃ y, ys = [y] ∧ VR m v y) := by
  unfold wrapV at h
  cases hk : aggK k with
  | true => rw [hk] at h; injection h with h; subst h; exact .inl ⟨rfl, .agg hv hp⟩
  | false =>
    rw [hk] at h
    simp only at h
    split at h
    · cases h
    · cases hv with
      | nil => cases h
      | cons a b => cases b with
        | nil => injection h with h; subst h; exact .inr ⟨rfl, _, rfl, a⟩
        | cons _ _ => cases h
/-- a variable is read -/
theorem load_var (hE : EnvOK P E) (r : Rel m s w) {t k b nn off : Nat} {ti : TI} {vs : List Value} {v : Value} (ht : T.get E.tys t = some ti) (hm : m k = some (b, nn))
    (hl : loadR s k off ti.size = some vs) (hw : wrapV ti.k vs = some v) : ∃ v', (loadVar t ⟨b, off, none⟩).run P w = .ok v' w ∧ VR m v v' := by
  have tr := hE.tys t ti ht
  obtain ⟨ys, h1, h2, h3⟩ := loadR_run (P := P) r hm hl
  rcases wrapV_rel hw h2 h3 with ⟨hk, hv⟩ | ⟨hk, y, rfl, hv⟩
  · refine ⟨_, ?_, hv⟩
    simp only [loadVar, Sem.run_bind, run_isAgg tr.kind w, hk, Result.andThen_ok, if_true, run_size tr.size w, h1, Sem.run_pure]
  · refine ⟨y, ?_, hv⟩
    have hlen : ti.size = 1 := by
      have : vs.length = 1 := by rw [h2.length]; rfl
      unfold loadR at hl
      cases hg : T.get s.heap k with
      | none => rw [hg] at hl; cases hl
      | some o =>
        rw [hg] at hl
        cases o with
        | cells xs ck e => obtain ⟨g1, g2⟩ := takeV_some hl; rw [g2] at this; simp at this g1; omega
        | map _ _ => cases hl
        | iter _ _ _ _ => cases hl
        | loop _ => cases hl
        | defd _ => cases hl
    rw [hlen] at h1
    have h1' : (load ⟨b, off, none⟩).run P w = .ok y w := by
      obtain ⟨zs, c, e, fr, q1, q2, q3, q4, q5, _⟩ := loadR_rel r hm hl (by omega)
      rw [hlen] at q3 q4
      have hr := run_load_range (P := P) q1 (len := 1) (off := off) (by omega)
      rw [hr] at h1; injection h1 with h1
      have hlist : (c.toList.drop off).take 1 = [y] := by
        have := congrArg Array.toList h1; simpa using this
      have hcell : w.cell? ⟨b, off, none⟩ = some y := by
        simp only [World.cell?, q1]
        have : c.toList[off]? = some y := by
          have h2 := congrArg (·[0]?) hlist
          simpa [List.getElem?_take, List.getElem?_drop] using h2
        simpa using this
      rw [run_load, hcell]
    simp only [loadVar, Sem.run_bind, run_isAgg tr.kind w, hk, Result.andThen_ok, Bool.false_eq_true, if_false, h1']
theorem op_load (hE : EnvOK P E) (r : Rel m s w) (hρ : ER m ev ρ) (t : TypeId) (x : Operand) (h : hLoad t x E s ev = some (n, s')) : OpR P m s w n s' ((execOp ρ ⟨d, .load t x, ty, pos, af, g⟩).run P w) := by
  have hx := hρ x
  unfold hLoad oLoad at h
  split at h
  · rename_i k off hk
    rw [hk] at hx
    cases ht : T.get E.tys t with
    | none => rw [ht] at h; cases h
    | some ti =>
      rw [ht] at h
      simp only at h
      cases hl : loadR s k off ti.size with
      | none => rw [hl] at h; cases h
      | some vs =>
        rw [hl] at h
        simp only at h
        cases hw : wrapV ti.k vs with
        | none => rw [hw] at h; cases h
        | some v =>
          rw [hw] at h; injection h with h; injection h with h1 h2; subst h1; subst h2
          cases hy : ρ x <;> rw [hy] at hx <;> cases hx
          rename_i hm
          obtain ⟨v', q1, q2⟩ := load_var hE r ht hm hl hw
          simp only [execOp, Instr.loadAt, Instr.sureAddr, hy, Sem.run_bind, Sem.run_pure, Result.andThen_ok, q1]
          exact .same r q2
  · cases h
theorem op_store (hE : EnvOK P E) (r : Rel m s w) (hρ : ER m ev ρ) (t : TypeId) (a x : Operand) (h : hStore t a x E s ev = some (n, s')) : OpR P m s w n s' ((execOp ρ ⟨d, .store t a x, ty, pos, af, g⟩).run P w) := by
  have ha := hρ a
  unfold hStore oStore at h
  split at h
  · rename_i k off hk
    rw [hk] at ha
    cases ht : T.get E.tys t with
    | none => rw [ht] at h; cases h
    | some ti =>
      rw [ht] at h
      simp only at h
      cases hf : flat (ev x) with
      | none => rw [hf] at h; cases h
      | some vs =>
        rw [hf] at h
        simp only at h
        cases hb : Nat.beq (lenV vs) ti.size with
        | false => rw [hb] at h; cases h
        | true =>
          rw [hb] at h
          simp only at h
          cases hst : storeR s k off vs with
          | none => rw [hst] at h; cases h
          | some s1 =>
            rw [hst] at h; injection h with h; injection h with h1 h2; subst h1; subst h2
            cases hy : ρ a <;> rw [hy] at ha <;> cases ha
            rename_i hm
            obtain ⟨g3, g4⟩ := flat_rel (hρ x) hf
            obtain ⟨w', q1, q2, q3⟩ := storeR_run (P := P) r hm hst g3 g4
            have tr := hE.tys t ti ht
            have hlen : (ρ x).cells.size = ti.size := by
              rw [Nat.beq_eq, lenV_eq] at hb
              rw [← hb, g3.length]; simp
            simp only [execOp, Instr.storeAt, Instr.sureAddr, storeVar, hy, Sem.run_bind, Sem.run_pure, Result.andThen_ok, run_size tr.size w, hlen, ne_eq, not_true_eq_false, if_false, q1]
            exact .skip q2 q3
  · cases h
theorem op_nil (r : Rel m s w) (hρ : ER m ev ρ) (x : Operand) (h : hNil x E s ev = some (n, s')) : OpR P m s w n s' ((execOp ρ ⟨d, .nilCheck x, ty, pos, af, g⟩).run P w) := by
  have hx := hρ x
  unfold hNil oNil at h
  split at h
  · rename_i a hk
    rw [hk] at hx
    injection h with h; injection h with h1 h2; subst h1; subst h2
    cases hy : ρ x <;> rw [hy] at hx <;> cases hx
    rename_i hm
    simp only [execOp, hy]
    exact .same r (.ptr _ hm)
  · rename_i fn a b hk
    rw [hk] at hx
    split at h
    · injection h with h; injection h with h1 h2; subst h1; subst h2
      cases hy : ρ x <;> rw [hy] at hx <;> cases hx
      rename_i ha hc hf
      cases hf
      simp only [execOp, hy]
      exact .same r (.func (.func _) ha hc)
    · injection h with h; injection h with h1 h2; subst h1; subst h2
      cases hy : ρ x <;> rw [hy] at hx <;> cases hx
      rename_i ha hc hf
      cases hf with
      | yield hl =>
      simp only [execOp, hy]
      exact .same r (.func (.yield hl) ha hc)
    · cases h
  · rename_i t v hk
    rw [hk] at hx
    injection h with h; injection h with h1 h2; subst h1; subst h2
    cases hy : ρ x <;> rw [hy] at hx <;> cases hx
    rename_i hv
    simp only [execOp, hy]
    exact .same r (.iface _ hv)
  · cases h
theorem op_func (r : Rel m s w) (hρ : ER m ev ρ) (fn : Fn) (first cap : Array Operand) (h : hFunc fn first cap E s ev = some (n, s')) :
    OpR P m s w n s' ((execOp ρ ⟨d, .makeFunc fn first cap, ty, pos, af, g⟩).run P w) := by
  have e : ∀ a : Array Operand, a.map ρ = ⟨a.toList.map ρ⟩ := fun a => by cases a; simp
  unfold hFunc at h
  split at h
  · injection h with h; injection h with h1 h2; subst h1; subst h2
    simp only [execOp, Instr.makeFunc, Sem.run_bind, Sem.run_pure, Result.andThen_ok, mapV_eq, e]
    exact .same r (.func (.func _) (VRs.map hρ _) (VRs.map hρ _))
  · injection h with h; injection h with h1 h2; subst h1; subst h2
    simp only [execOp, Instr.makeFunc, Sem.run_bind, Sem.run_pure, Result.andThen_ok, mapV_eq, e]
    exact .same r (.func (.methodOf _ _) (VRs.map hρ _) (VRs.map hρ _))
  · cases h
end
end Go.AM

namespace Go.AM
open Go
section
variable {P : Program} {E : Env} {m : Mp} {s s' : St} {w : World} {n : N} {ev ρ : Operand → Value} {d : Option Tmp} {ty : TypeId} {pos : String} {af : Array Edge} {g : Option (Nat × Bool)}

/-! ## struct and array values -/
/-- parts and what they are on the other side -/
inductive PR (m : Mp) : List (Nat × Value) → List (Nat × Value) → Prop
  | nil : PR m [] []
  | cons {i : Nat} {x y : Value} {p q : List (Nat × Value)} : VR m x y → PR m p q → PR m ((i, x) :: p) ((i, y) :: q)
theorem PR.of (hρ : ER m ev ρ) : ∀ l : List (Nat × Operand), PR m (mapP ev l) (l.map fun p => (p.1, ρ p.2))
  | [] => .nil
  | (i, x) :: l => by
    have := PR.of hρ l
    rw [mapP_eq] at this ⊢
    exact .cons (hρ x) this
theorem foldl_set (off : Nat) : ∀ (vs : List Value) (j : Nat) (cs : Array Value), off + j + vs.length ≤ cs.size →
    ((vs.zipIdx j).foldl (fun cs x => cs.setIfInBounds (off + x.2) x.1) cs).toList = cs.toList.take (off + j) ++ vs ++ cs.toList.drop (off + j + vs.length)
  | [], j, cs, h => by simp
  | v :: vs, j, cs, h => by
    have hj : off + j < cs.toList.length := by simp at h ⊢; omega
    simp only [List.zipIdx_cons, List.foldl_cons]
    rw [foldl_set off vs (j + 1) _ (by simp at h ⊢; omega)]
    simp only [Array.toList_setIfInBounds, List.length_cons]
    rw [show off + (j + 1) = off + j + 1 by omega, List.take_set, List.drop_set_of_lt (by omega)]
    rw [List.take_succ_eq_append_getElem hj, List.set_append_right _ _ (by simp; omega)]
    simp only [List.append_assoc]
    congr 1
    have : off + j - (List.take (off + j) cs.toList).length = 0 := by simp; omega
    rw [this]
    simp only [List.set_cons_zero, List.cons_append, List.nil_append]
    congr 3
    omega
theorem fill_rel {place : Nat → Option (Nat × Nat)} : ∀ {ps qs : List (Nat × Value)} {cs ds us : List Value}, PR m ps qs → VRs m cs ds → (∀ x ∈ cs, isCell x = true) → fillParts place ps cs = some us →
    ∃ vs, Instr.fill place ⟨ds⟩ qs = some ⟨vs⟩ ∧ VRs m us vs ∧ (∀ x ∈ us, isCell x = true) ∧ us.length = cs.length
  | [], _, cs, ds, us, .nil, hc, hp, h => by
    have : some cs = some us := h
    injection this with this; subst this
    exact ⟨ds, rfl, hc, hp, rfl⟩
  | (i, x) :: ps, _, cs, ds, us, .cons (y := y) (q := qs) hx hq, hc, hp, h => by
    have h' : (match place i with
      | none => none
      | some (off, sz) => match flat x with
        | none => none
        | some vs => match Nat.beq (lenV vs) sz with
          | true => (match spliceV cs vs off with | some cs' => fillParts place ps cs' | none => none)
          | false => none) = some us := h
    cases hpl : place i with
    | none => rw [hpl] at h'; cases h'
    | some os =>
      obtain ⟨off, sz⟩ := os
      rw [hpl] at h'
      simp only at h'
      cases hf : flat x with
      | none => rw [hf] at h'; cases h'
      | some vs =>
        rw [hf] at h'
        simp only at h'
        cases hb : Nat.beq (lenV vs) sz with
        | false => rw [hb] at h'; cases h'
        | true =>
          rw [hb] at h'
          simp only at h'
          rw [Nat.beq_eq, lenV_eq] at hb
          cases hsp : spliceV cs vs off with
          | none => rw [hsp] at h'; cases h'
          | some cs' =>
            rw [hsp] at h'
            simp only at h'
            obtain ⟨g1, g2⟩ := spliceV_some hsp
            obtain ⟨f1, f2⟩ := flat_rel hx hf
            have l1 := hc.length
            have l2 := f1.length
            have hsz : y.cells.size = sz := by rw [← hb, l2]; simp
            have hfold := foldl_set off y.cells.toList 0 ⟨ds⟩ (by simp at l2 ⊢; omega)
            simp only [Nat.add_zero] at hfold
            have hnew : VRs m cs' (ds.take off ++ y.cells.toList ++ ds.drop (off + y.cells.toList.length)) := by
              rw [g2, l2]; exact ((hc.take off).append f1).append (hc.drop _)
            have hpn : ∀ x ∈ cs', isCell x = true := by
              intro z hz
              rw [g2] at hz
              simp only [List.append_assoc, List.mem_append] at hz
              rcases hz with hz | hz | hz
              · exact hp z (List.mem_of_mem_take hz)
              · exact f2 z hz
              · exact hp z (List.mem_of_mem_drop hz)
            obtain ⟨vs', q1, q2, q3, q4⟩ := fill_rel hq hnew hpn h'
            refine ⟨vs', ?_, q2, q3, ?_⟩
            · simp only [Instr.fill, hpl]
              rw [if_neg]
              · have : y.cells.zipIdx.foldl (fun (cs : Array Value) (x : Value × Nat) => cs.setIfInBounds (off + x.2) x.1) (⟨ds⟩ : Array Value) = ⟨ds.take off ++ y.cells.toList ++ ds.drop (off + y.cells.toList.length)⟩ := by
                  apply Array.ext'
                  rw [← Array.foldl_toList, Array.toList_zipIdx]
                  exact hfold
                rw [this]; exact q1
              · simp only [hsz, Bool.false_or, decide_eq_true_eq, ne_eq, not_true_eq_false, decide_false]
                simp at l2
                simp; omega
            · rw [q4, g2]; simp; omega

theorem run_mapM {α β : Type} (f : α → Sem β) (w : World) (gf : α → β) : ∀ l : List α, (∀ a ∈ l, (f a).run P w = .ok (gf a) w) → (l.mapM f).run P w = .ok (l.map gf) w
  | [], _ => by simp
  | a :: l, h => by
    simp only [List.mapM_cons, Sem.run_bind, h a (by simp), Result.andThen_ok, run_mapM f w gf l (fun x hx => h x (by simp [hx])), Sem.run_pure, List.map_cons]
theorem run_amapM {α β : Type} (f : α → Sem β) (w : World) (gf : α → β) (a : Array α) (h : ∀ x ∈ a.toList, (f x).run P w = .ok (gf x) w) : (a.mapM f).run P w = .ok (a.map gf) w := by
  rw [Array.mapM_eq_mapM_toList]
  simp only [Sem.run_map, run_mapM f w gf a.toList h, Result.andThen_ok]
  congr 1
  apply Array.ext'
  simp
theorem zeros_rel (hE : EnvOK P E) {t : TypeId} {ti : TI} (ht : T.get E.tys t = some ti) (w : World) :
    ∃ zv, (zeroValue t).run P w = .ok zv w ∧ zv.cells = ⟨ti.zero⟩ := by
  have tr := hE.tys t ti ht
  obtain ⟨i, zv, h1, h2, h3, h4, _⟩ := tr.info
  refine ⟨zv, by simp [zeroValue, typeInfo, h1, h3], ?_⟩
  rw [← h4]
theorem op_build (hE : EnvOK P E) (r : Rel m s w) (hρ : ER m ev ρ) (t : TypeId) (ps : Array (Nat × Operand)) (h : hBuild t ps E s ev = some (n, s')) :
    OpR P m s w n s' ((execOp ρ ⟨d, .build t ps, ty, pos, af, g⟩).run P w) := by
  unfold hBuild oBuild at h
  cases hb : buildV E t (mapP ev ps.toList) with
  | none => rw [hb] at h; cases h
  | some cs =>
    rw [hb] at h; injection h with h; injection h with h1 h2; subst h1; subst h2
    unfold buildV at hb
    cases ht : T.get E.tys t with
    | none => rw [ht] at hb; cases hb
    | some ti =>
      rw [ht] at hb
      simp only at hb
      have tr := hE.tys t ti ht
      obtain ⟨zv, z1, z2⟩ := zeros_rel hE ht w
      have hpr := PR.of hρ ps.toList
      have hps : (ps.map fun (x : Nat × Operand) => (x.1, ρ x.2)).toList = ps.toList.map fun p => (p.1, ρ p.2) := by simp
      cases hk : ti.k with
      | struct fs =>
        rw [hk] at hb
        simp only at hb
        obtain ⟨gs, k1, k2, k3⟩ : KR P t (.struct fs) := by have := tr.kind; rwa [hk] at this
        obtain ⟨vs, q1, q2, q3, q4⟩ := fill_rel hpr (tr.zero m) tr.cells hb
        have hm2 : (gs.mapM fun f => do pure (f.offset, ← sizeOf f.type) : Sem (Array (Nat × Nat))).run P w = .ok (gs.map fun f => (f.offset, ((P.info? f.type).map (·.size)).getD 0)) w := by
          refine run_amapM _ w _ gs (fun f hf => ?_)
          have : (f.offset, f.type) ∈ fs.map (fun f => (f.1, f.2.1)) := by rw [← k2]; exact List.mem_map.2 ⟨f, hf, rfl⟩
          obtain ⟨q, hq, e⟩ := List.mem_map.1 this
          obtain ⟨i, j1, j2⟩ := k3 q hq
          have e2 : q.2.1 = f.type := by injection e
          rw [e2] at j1
          simp only [Sem.run_bind, run_size ⟨i, j1, j2⟩ w, Result.andThen_ok, Sem.run_pure, j1, Option.map_some, Option.getD_some, j2]
        have hplace : ∀ i, (gs.map fun f => (f.offset, ((P.info? f.type).map (·.size)).getD 0))[i]? = (match nthF fs i with | some (off, _, sz) => some (off, sz) | none => none) := by
          intro i
          rw [nthF_eq, Array.getElem?_map]
          have hi := congrArg (·[i]?) k2
          simp only [List.getElem?_map] at hi
          cases hf : fs[i]? with
          | none =>
            rw [hf] at hi
            have : gs.toList[i]? = none := by simpa using hi
            simp at this; simp [this]
          | some q =>
            rw [hf] at hi
            obtain ⟨a, b, c⟩ := q
            cases hgi : gs.toList[i]? with
            | none => rw [hgi] at hi; simp at hi
            | some f =>
              rw [hgi] at hi
              simp only [Option.map_some, Option.some.injEq, Prod.mk.injEq] at hi
              obtain ⟨e1, e2⟩ := hi
              obtain ⟨i', j1, j2⟩ := k3 _ (List.mem_of_getElem? hf)
              simp only at j1 j2
              have hgi' : gs[i]? = some f := by simpa using hgi
              simp only [hgi', Option.map_some, e1, e2, j1, Option.getD_some, j2]
        have hfun : (fun i => (gs.map fun f => (f.offset, ((P.info? f.type).map (·.size)).getD 0))[i]?) = (fun i => match nthF fs i with | some (off, _, sz) => some (off, sz) | none => none) := funext hplace
        have hrun : (execOp ρ ⟨d, .build t ps, ty, pos, af, g⟩).run P w = .ok (.value (.agg ⟨vs⟩)) w := by
          simp only [execOp, Instr.build, Sem.run_bind, z1, Result.andThen_ok, run_underlying k1, hm2, hfun, hps, z2]
          erw [q1]
          rfl
        rw [hrun]
        exact .same r (.agg q2 q3)
      | array l e esz =>
        rw [hk] at hb
        simp only at hb
        obtain ⟨k1, k2⟩ : KR P t (.array l e esz) := by have := tr.kind; rwa [hk] at this
        obtain ⟨vs, q1, q2, q3, q4⟩ := fill_rel hpr (tr.zero m) tr.cells hb
        have hrun : (execOp ρ ⟨d, .build t ps, ty, pos, af, g⟩).run P w = .ok (.value (.agg ⟨vs⟩)) w := by
          simp only [execOp, Instr.build, Sem.run_bind, z1, Result.andThen_ok, run_underlying k1, run_size k2 w, hps, z2, Sem.run_pure]
          rw [show (fun i => some (i * esz, esz)) = (fun i => some (Nat.mul i esz, esz)) from rfl, q1]
          rfl
        rw [hrun]
        exact .same r (.agg q2 q3)
      | _ => rw [hk] at hb; cases hb

/-- so many zeros -/
theorem zeros_cells (z : List Value) (len : Nat) :
    (Array.range (len * z.length)).map (fun i => (⟨z⟩ : Array Value)[i % (⟨z⟩ : Array Value).size]!) = ⟨rep z len⟩ := by
  apply Array.ext'
  simp only [Array.toList_map, Array.toList_range]
  induction len with
  | zero => simp [rep_zero]
  | succ len ih =>
    rw [rep_succ, Nat.succ_mul, Nat.add_comm, List.range_add, List.map_append, List.map_map]
    congr 1
    · apply List.ext_getElem
      · simp
      · intro i h1 h2
        simp at h1
        simp [Nat.mod_eq_of_lt h1, h1]
    · rw [← ih]
      apply List.map_congr_left
      intro i _
      simp only [Function.comp, List.size_toArray, Nat.add_mod_left]
theorem rowOf_rel {sz : Nat} : ∀ {ps qs : List (Nat × Value)} {i : Nat} {us : List Value} (pre suf : List Value), PR m ps qs → rowOf sz ps i = some us → pre.length = i * sz → suf.length = ps.length * sz →
    ∃ vs, Instr.fill (fun i => some (Nat.mul i sz, sz)) ⟨pre ++ suf⟩ qs = some ⟨pre ++ vs⟩ ∧ VRs m us vs ∧ (∀ x ∈ us, isCell x = true) ∧ us.length = ps.length * sz
  | [], _, i, us, pre, suf, .nil, h, hp, hs => by
    have : some [] = some us := h
    injection this with this; subst this
    have : suf = [] := by simpa using hs
    subst this
    exact ⟨[], rfl, .nil, by simp, by simp⟩
  | (j, x) :: ps, _, i, us, pre, suf, .cons (y := y) (q := qs) hx hq, h, hp, hs => by
    have h' : (match flat x with
      | none => none
      | some vs => match Nat.beq j i, Nat.beq (lenV vs) sz with
        | true, true => (match rowOf sz ps (i + 1) with | some r => some (catV vs r) | none => none)
        | _, _ => none) = some us := h
    cases hf : flat x with
    | none => rw [hf] at h'; cases h'
    | some vs =>
      rw [hf] at h'
      simp only at h'
      cases hb : Nat.beq j i with
      | false => rw [hb] at h'; cases h'
      | true =>
        cases hb2 : Nat.beq (lenV vs) sz with
        | false => rw [hb, hb2] at h'; cases h'
        | true =>
          rw [hb, hb2] at h'
          simp only at h'
          rw [Nat.beq_eq] at hb hb2
          rw [lenV_eq] at hb2
          subst hb
          cases hr : rowOf sz ps (j + 1) with
          | none => rw [hr] at h'; cases h'
          | some rr =>
            rw [hr] at h'; injection h' with h'; subst h'
            obtain ⟨f1, f2⟩ := flat_rel hx hf
            have l2 := f1.length
            have hsz : y.cells.size = sz := by rw [← hb2, l2]; simp
            have hsl : sz ≤ suf.length := by rw [hs]; simp [Nat.succ_mul]
            obtain ⟨vs', q1, q2, q3, q4⟩ := rowOf_rel (pre ++ y.cells.toList) (suf.drop sz) hq hr (by simp [hp, hsz, Nat.succ_mul]) (by simp [hs, Nat.succ_mul])
            refine ⟨y.cells.toList ++ vs', ?_, ?_, ?_, ?_⟩
            · simp only [Instr.fill]
              have hmul : Nat.mul j sz = pre.length := hp.symm
              rw [if_neg]
              · have hfold := foldl_set (Nat.mul j sz) y.cells.toList 0 ⟨pre ++ suf⟩ (by simp [hsz]; omega)
                simp only [Nat.add_zero] at hfold
                have : y.cells.zipIdx.foldl (fun (cs : Array Value) (x : Value × Nat) => cs.setIfInBounds (Nat.mul j sz + x.2) x.1) (⟨pre ++ suf⟩ : Array Value) = ⟨(pre ++ y.cells.toList) ++ suf.drop sz⟩ := by
                  apply Array.ext'
                  rw [← Array.foldl_toList, Array.toList_zipIdx, hfold, hmul]
                  simp [hsz, List.drop_append]
                rw [this, q1, List.append_assoc]
              · simp [hsz]; omega
            · rw [catV_eq]; exact f1.append q2
            · rw [catV_eq]; intro z hz
              rcases List.mem_append.1 hz with hz | hz
              · exact f2 z hz
              · exact q3 z hz
            · rw [catV_eq]; simp [q4, hb2, Nat.succ_mul]; omega
theorem rep_rel {z z' : List Value} (h : VRs m z z') : ∀ k, VRs m (rep z k) (rep z' k)
  | 0 => by simpa [rep_zero] using VRs.nil
  | k + 1 => by rw [rep_succ, rep_succ]; exact h.append (rep_rel h k)
theorem rep_cells {z : List Value} (h : ∀ x ∈ z, isCell x = true) : ∀ k, ∀ x ∈ rep z k, isCell x = true
  | 0 => by simp [rep_zero]
  | k + 1 => by
    rw [rep_succ]; intro x hx
    rcases List.mem_append.1 hx with hx | hx
    · exact h x hx
    · exact rep_cells h k x hx
theorem row_rel {sz len : Nat} {z : List Value} {ps qs : List (Nat × Value)} {us : List Value} (hpr : PR m ps qs) (hz : VRs m z z) (hc : ∀ x ∈ z, isCell x = true) (hl : z.length = sz)
    (h : cellsOfRow sz len z ps = some us) : ∃ vs, Instr.fill (fun i => some (Nat.mul i sz, sz)) ⟨rep z len⟩ qs = some ⟨vs⟩ ∧ VRs m us vs ∧ (∀ x ∈ us, isCell x = true) := by
  have slow : fillParts (fun i => some (Nat.mul i sz, sz)) ps (rep z len) = some us → ∃ vs, Instr.fill (fun i => some (Nat.mul i sz, sz)) ⟨rep z len⟩ qs = some ⟨vs⟩ ∧ VRs m us vs ∧ (∀ x ∈ us, isCell x = true) := by
    intro h
    obtain ⟨vs, a, b, c, _⟩ := fill_rel hpr (rep_rel hz len) (rep_cells hc len) h
    exact ⟨vs, a, b, c⟩
  unfold cellsOfRow at h
  cases hb : Nat.beq (lenP ps) len with
  | false => rw [hb] at h; exact slow h
  | true =>
    rw [hb] at h
    simp only at h
    cases hr : rowOf sz ps 0 with
    | none => rw [hr] at h; exact slow h
    | some rr =>
      rw [hr] at h; injection h with h; subst h
      rw [Nat.beq_eq, lenP_eq] at hb
      obtain ⟨vs, a, b, c, _⟩ := rowOf_rel (m := m) [] (rep z len) hpr hr (by simp) (by rw [length_rep, hl, hb])
      exact ⟨vs, by simpa using a, b, c⟩
theorem op_buildSlice (hE : EnvOK P E) (r : Rel m s w) (hρ : ER m ev ρ) (t : TypeId) (len : Nat) (ps : Array (Nat × Operand)) (h : hBuildSlice t len ps E s ev = some (n, s')) :
    OpR P m s w n s' ((execOp ρ ⟨d, .buildSlice t len ps, ty, pos, af, g⟩).run P w) := by
  unfold hBuildSlice oBuildSlice at h
  split at h
  · rename_i e esz eb hk
    obtain ⟨k1, i, k2, k3, k4⟩ := kr_of hE hk (by simp)
    cases hz : zeroOf E e with
    | none => rw [hz] at h; cases h
    | some z =>
      rw [hz] at h
      simp only at h
      split at h
      · rename_i hb1 hb2 hb3
        cases hc : cellsOfRow esz len z (mapP ev ps.toList) with
        | none => rw [hc] at h; cases h
        | some cs =>
          rw [hc] at h; injection h with h; injection h with h1 h2; subst h1; subst h2
          obtain ⟨zv, z1, z2, z3, z4, _⟩ := run_zero hE hz m w
          rw [Nat.beq_eq, lenV_eq] at hb1
          rw [Nat.ble_eq] at hb2
          have hb3' : esz ≠ 0 := by rintro rfl; cases hb3
          obtain ⟨vs, q1, q2, q3⟩ := row_rel (PR.of hρ ps.toList) z3 z4 hb1 hc
          have hps : (ps.map fun (x : Nat × Operand) => (x.1, ρ x.2)).toList = ps.toList.map fun p => (p.1, ρ p.2) := by simp
          obtain ⟨r', x'⟩ := new_cells r (e := e) (k := .rw) (fr := (0, 0)) [] q2 q3 rfl
          have hb2' : len * esz ≤ 16777216 := hb2
          have hzc : zv.cells = ⟨z⟩ := by rw [← z2]
          have hza : ((Array.range (len * esz)).map fun i => (⟨z⟩ : Array Value)[i % (⟨z⟩ : Array Value).size]!) = ⟨rep z len⟩ := by
            rw [← hb1]; exact zeros_cells z len
          have hrun : (execOp ρ ⟨d, .buildSlice t len ps, ty, pos, af, g⟩).run P w = .ok (.value (.slice (some ⟨w.heap.size, 0, none⟩) len len)) (pushW w (.cells ⟨vs ++ []⟩ e (0, 0))) := by
            simp only [execOp, Instr.buildSlice, Sem.run_bind, run_underlying k1, Result.andThen_ok, run_size ⟨i, k2, k3⟩ w]
            rw [if_neg (by omega)]
            by_cases hl0 : len * esz = 0
            · have hl : len = 0 := by rcases Nat.mul_eq_zero.1 hl0 with h | h <;> omega
              subst hl
              rw [if_pos hl0]
              simp only [Sem.run_bind, Sem.run_pure, Result.andThen_ok, hps]
              rw [show ((Array.range (0 * esz)).map fun i => (#[] : Array Value)[i % (#[] : Array Value).size]!) = ⟨rep z 0⟩ by simp [rep_zero]]
              rw [show (fun i => some (i * esz, esz)) = (fun i => some (Nat.mul i esz, esz)) from rfl, q1]
              simp only [Sem.run_bind, newRow, run_newObj, Result.andThen_ok, Sem.run_pure, List.append_nil]
              rfl
            · rw [if_neg hl0]
              simp only [Sem.run_bind, z1, Sem.run_pure, Result.andThen_ok, hps, hzc, hza]
              rw [show (fun i => some (i * esz, esz)) = (fun i => some (Nat.mul i esz, esz)) from rfl, q1]
              simp only [Sem.run_bind, newRow, run_newObj, Result.andThen_ok, Sem.run_pure, List.append_nil]
              rfl
          rw [hrun]
          exact .v (.slice 0 len len (setM_self _ _ _)) r' x'
      · cases h
  · cases h
end
end Go.AM
