/- AM, regions whose order is drawn: whatever order is drawn, the model comes to what AM says. -/
import Derived.Test.YtnlbfblcjnpoaaaGreatDoorAmE
namespace Go.AM
open Go
/-! ## a region in whatever order is drawn -/
structure Cx (P : Program) (E : Env) (r : K) (D : Dw) (qs : List Stp) (tm0 : List Value) (s0 : St) (tmE : List Value) (sE : St) (lgE : List Lg) (σ L : List Nat) : Prop where
  hE : EnvOK P E
  ok : Ok P E r
  dE : D.E = E
  an : D.an = ancs D.ops []
  cl : D.cl = cls E D.ops
  opsok : opsOk E D.ops = true
  tr : Tr D r qs (qs.map (·.i)) tm0 s0 [] tmE sE lgE
  log : okLog D.an lgE lgE = true
  ord : OrdOK D.an D.cl D.ops σ
  pre : ∃ σ2, σ = qs.map (·.i) ++ σ2
  sched : Sched ⟨D.ops⟩ L
  fits0 : Fits E tm0 s0
section
variable {P : Program} {E : Env} {r : K} {D : Dw} {qs : List Stp} {tm0 : List Value} {s0 : St} {tmE : List Value} {sE : St} {lgE : List Lg} {σ L : List Nat}
theorem Cx.nodup (cx : Cx P E r D qs tm0 s0 tmE sE lgE σ L) : (qs.map (·.i)).Nodup := by
  obtain ⟨σ2, h⟩ := cx.pre
  have := cx.ord.nodup
  rw [h, List.nodup_append] at this
  exact this.1
theorem Cx.early (cx : Cx P E r D qs tm0 s0 tmE sE lgE σ L) {A B : List Stp} {q : Stp} (h : qs = A ++ q :: B) {j : Nat} (hb : bit (nthN D.an q.i) j = true) : j ∈ A.map (·.i) := by
  obtain ⟨σ2, hs⟩ := cx.pre
  exact cx.ord.early (A.map (·.i)) q.i (B.map (·.i) ++ σ2) (by rw [hs, h]; simp) j hb
theorem Cx.acts (cx : Cx P E r D qs tm0 s0 tmE sE lgE σ L) {A B : List Stp} {q : Stp} (h : qs = A ++ q :: B) (ha : isAct (nthC D.cl q.i) = true) : ∀ q' ∈ A, (isAct (nthC D.cl q'.i) = true ∨ isMake (nthC D.cl q'.i) = true) → bit (nthN D.an q.i) q'.i = true := by
  obtain ⟨σ2, hs⟩ := cx.pre
  intro q' hq hc
  exact cx.ord.acts (A.map (·.i)) q.i (B.map (·.i) ++ σ2) (by rw [hs, h]; simp) ha q'.i (List.mem_map_of_mem hq) hc
theorem Cx.fits (cx : Cx P E r D qs tm0 s0 tmE sE lgE σ L) : (∀ q ∈ qs, Fits E q.tm q.s ∧ q.s.next ≤ q.s'.next) ∧ Fits E tmE sE ∧ s0.next ≤ sE.next :=
  Fits.tr cx.hE cx.ok cx.dE cx.opsok cx.tr cx.fits0
theorem Cx.anc (cx : Cx P E r D qs tm0 s0 tmE sE lgE σ L) {pre suf : List Nat} {i j : Nat} (h : L = pre ++ i :: suf) (hb : bit (nthN D.an i) j = true) : j ∈ pre := by
  rw [cx.an] at hb
  exact sched_anc cx.ord.anc cx.sched i h hb
theorem not_later {l a b : List Nat} {i j : Nat} (hn : l.Nodup) (h1 : l = a ++ i :: b) (h2 : j ∈ a) (h3 : j ∈ i :: b) : False := by
  rw [h1, List.nodup_append] at hn
  exact hn.2.2 j h2 j h3 rfl
/-- of one step -/
theorem Cx.at (cx : Cx P E r D qs tm0 s0 tmE sE lgE σ L) {A B : List Stp} {q : Stp} (h : qs = A ++ q :: B) :
    ∃ o lgA lg1, D.ops[q.i]? = some o ∧ Tr D r A (A.map (·.i)) tm0 s0 [] q.tm q.s lgA ∧ StepR D r o q lgA lg1 ∧ Tr D r B (B.map (·.i)) (setT q.tm o.dst q.v) q.s' lg1 tmE sE lgE ∧ (∀ x ∈ lg1, x ∈ lgE) ∧ ∀ x ∈ o.op.operands, opdOk E x = true := by
  have ht := cx.tr
  rw [h] at ht
  obtain ⟨tm1, s1, lg1, g1, g2⟩ := ht.app
  cases g2 with
  | cons h1 h2 h3 h4 h5 =>
    rename_i o lg2
    subst h2; subst h3
    exact ⟨o, lg1, lg2, h1, g1, h4, by simpa using h5, h5.mem, fun x hx => opsOk_mem cx.opsok o (List.mem_of_getElem? h1) x hx⟩
theorem Fits.rho {tm : List Value} {s : St} (h : Fits E tm s) {op : Op} (ho : ∀ x ∈ op.operands, opdOk E x = true) : ∃ (m : Mp) (ρ : Operand → Value), ∀ x ∈ op.operands, VR m (evl tm x) (ρ x) := by
  obtain ⟨m, w, ts, rel, gr, ht⟩ := h
  exact ⟨m, (frT ts [] 0).eval, fun x hx => opd_rel (fr := frT ts [] 0) gr ht (ho x hx)⟩
/-- what a read finds stays along a part of the way -/
theorem Cx.chain (cx : Cx P E r D qs tm0 s0 tmE sE lgE σ L) (f : FP) (_hf : ∀ q ∈ qs, isAct (nthC D.cl q.i) = true → True) {B : List Stp} {is : List Nat} {tm1 tm2 : List Value} {s1 s2 : St} {lg1 lg2 : List Lg} (hB : Tr D r B is tm1 s1 lg1 tm2 s2 lg2) (hm : ∀ x ∈ lg2, x ∈ lgE) (hq : ∀ q ∈ B, q ∈ qs)
    (ha : ∀ q ∈ B, isAct (nthC D.cl q.i) = true → ∀ nx h h', Lg.act q.i nx h h' ∈ lgE → f.key < nx → f.obs h' = f.obs h) (hk : f.key < s1.next) : f.obs s2.heap = f.obs s1.heap := by
  induction hB with
  | nil => rfl
  | cons h1 h2 h3 h4 h5 ih =>
    rename_i q o B is tm tm2 s s2 lg lg1 lg2
    have hn := (cx.fits.1 q (hq q (by simp))).2
    have hstep : f.obs q.s'.heap = f.obs s.heap := by
      cases h4 with
      | skip hw => subst h3; rfl
      | calm hw hc hop hl =>
        rename_i i tm3 s3 v s4
        cases h2; cases h3
        have hft := (cx.fits.1 _ (hq _ (List.mem_cons_self))).1
        obtain ⟨m, ρ, hρ⟩ := hft.rho (op := o.op) (fun x hx => opsOk_mem cx.opsok o (List.mem_of_getElem? h1) x hx)
        rw [cx.dE] at hop hl
        rw [cx.cl, clsN E D.ops i o h1] at hc
        rcases calm_state cx.hE hc hop hl hρ with ⟨_, he⟩ | ⟨_, ob, he⟩
        · simp only [he]
        · refine FP.obs_get ?_
          simp only [he]
          show T.get (T.set s3.heap s3.next (some ob)) f.key = _
          rw [T.get_set, if_neg (by have : f.key < s3.next := hk; omega)]
      | act hw hc hact hmm =>
        rename_i i tm3 s3 v s4 lg0
        subst h2; subst h3
        exact ha ⟨i, tm3, s3, v, s4⟩ (List.mem_cons_self) hc s3.next s3.heap s4.heap (hm _ (h5.mem _ (List.mem_cons_self))) hk
    rw [ih hm (fun q' hq' => hq q' (by simp [hq'])) (fun q' hq' => ha q' (by simp [hq'])) (by subst h3; omega), hstep]

/-! ### where the walk stands -/
def MkAt (D : Dw) (q : Stp) (ob : Ob) : Prop := isMake (nthC D.cl q.i) = true ∧ q.s' = q.s.new ob
def Lv (D : Dw) (sp : St) (B : List Stp) (Dn : List Nat) (k : Nat) (o : Ob) : Prop := T.get sp.heap k = some o ∨ ∃ q ∈ B, q.i ∈ Dn ∧ MkAt D q o ∧ k = q.s.next
structure Inv (D : Dw) (m0 : Mp) (s0 : St) (w0 : World) (A B : List Stp) (Dn : List Nat) (sp : St) (m : Mp) (w : World) : Prop where
  accA : ∀ q ∈ A, (isAct (nthC D.cl q.i) = true ∨ isMake (nthC D.cl q.i) = true) → q.i ∈ Dn
  accB : ∀ q ∈ B, isAct (nthC D.cl q.i) = true → q.i ∉ Dn
  rel : RelP m (Lv D sp B Dn) w
  dom : ∀ k p, m k = some p → k < sp.next ∨ ∃ q ∈ B, q.i ∈ Dn ∧ ∃ ob, MkAt D q ob ∧ k = q.s.next
  newb : ∀ q ∈ B, q.i ∈ Dn → ∀ ob, MkAt D q ob → ∀ b n, m q.s.next = some (b, n) → w0.heap.size ≤ b
  ext : Ext m0 s0 w0 (cutM m sp.next) sp w
/-- a way between two states -/
def Seg (D : Dw) (r : K) (B : List Stp) (s s2 : St) : Prop := ∃ tm lg tm2 lg2, Tr D r B (B.map (·.i)) tm s lg tm2 s2 lg2
theorem Seg.cons {q : Stp} {B : List Stp} {s s2 : St} (h : Seg D r (q :: B) s s2) : q.s = s ∧ Seg D r B q.s' s2 := by
  obtain ⟨tm, lg, tm2, lg2, h⟩ := h
  cases h with
  | cons h1 h2 h3 h4 h5 => exact ⟨h3, _, _, _, _, by simpa using h5⟩
theorem Seg.split {A B : List Stp} {s s2 : St} (h : Seg D r (A ++ B) s s2) : ∃ s1, Seg D r A s s1 ∧ Seg D r B s1 s2 := by
  obtain ⟨tm, lg, tm2, lg2, h⟩ := h
  obtain ⟨tm1, s1, lg1, g1, g2⟩ := h.app
  exact ⟨s1, ⟨_, _, _, _, g1⟩, ⟨_, _, _, _, g2⟩⟩
theorem Cx.seg_next (cx : Cx P E r D qs tm0 s0 tmE sE lgE σ L) : ∀ {B : List Stp} {s s2 : St}, Seg D r B s s2 → (∀ q ∈ B, q ∈ qs) → s.next ≤ s2.next ∧ ∀ q ∈ B, s.next ≤ q.s.next ∧ q.s'.next ≤ s2.next
  | [], s, s2, h, _ => by
    obtain ⟨tm, lg, tm2, lg2, h⟩ := h
    cases h; exact ⟨Nat.le_refl _, by simp⟩
  | q :: B, s, s2, h, hq => by
    obtain ⟨h1, h2⟩ := h.cons
    have hn := (cx.fits.1 q (hq q (by simp))).2
    obtain ⟨g1, g2⟩ := cx.seg_next h2 (fun q' hq' => hq q' (by simp [hq']))
    subst h1
    refine ⟨by omega, ?_⟩
    intro q' hq'
    rcases List.mem_cons.1 hq' with rfl | hq'
    · exact ⟨Nat.le_refl _, g1⟩
    · have := g2 q' hq'; omega
theorem new_next (s : St) (ob : Ob) : (s.new ob).next = s.next + 1 := rfl
theorem MkAt.next {q : Stp} {ob : Ob} (h : MkAt D q ob) : q.s'.next = q.s.next + 1 := by rw [h.2]; rfl
theorem MkAt.get {q : Stp} {ob : Ob} (h : MkAt D q ob) : T.get q.s'.heap q.s.next = some ob := by
  rw [h.2]
  show T.get (T.set q.s.heap q.s.next (some ob)) q.s.next = _
  rw [T.get_set, if_pos rfl]
/-- two steps that make a block at one key are one step -/
theorem Cx.mk_one (cx : Cx P E r D qs tm0 s0 tmE sE lgE σ L) : ∀ {B : List Stp} {s s2 : St}, Seg D r B s s2 → (∀ q ∈ B, q ∈ qs) → ∀ q ∈ B, ∀ q' ∈ B, ∀ ob ob', MkAt D q ob → MkAt D q' ob' → q.s.next = q'.s.next → q = q' := by
  intro B
  induction B with
  | nil => intro s s2 _ _ q hq; simp at hq
  | cons p B ih =>
    intro s s2 h hqs q hq q' hq' ob ob' hm hm' he
    obtain ⟨h1, h2⟩ := h.cons
    have hsub : ∀ q ∈ B, q ∈ qs := fun q hq => hqs q (by simp [hq])
    obtain ⟨_, hn⟩ := cx.seg_next h2 hsub
    rcases List.mem_cons.1 hq with e1 | hq1 <;> rcases List.mem_cons.1 hq' with e2 | hq2
    · rw [e1, e2]
    · have := (hn q' hq2).1
      rw [e1] at hm he; have := hm.next; omega
    · have := (hn q hq1).1
      rw [e2] at hm' he; have := hm'.next; omega
    · exact ih h2 hsub q hq1 q' hq2 ob ob' hm hm' he

/-- what is behind the walk so far: one step more that is no act -/
theorem Inv.absorb (cx : Cx P E r D qs tm0 s0 tmE sE lgE σ L) {m0 : Mp} {w0 : World} {A B : List Stp} {q : Stp} {Dn : List Nat} {sp : St} {m : Mp} {w : World} (hqs : qs = A ++ q :: B) (hseg : Seg D r (q :: B) sp sE) (h : Inv D m0 s0 w0 A (q :: B) Dn sp m w)
    (hna : isAct (nthC D.cl q.i) = false) (hmk : isMake (nthC D.cl q.i) = true → q.i ∈ Dn) : Inv D m0 s0 w0 (A ++ [q]) B Dn q.s' m w := by
  obtain ⟨hsp, hseg2⟩ := hseg.cons
  have hin : ∀ q' ∈ q :: B, q' ∈ qs := by intro q' hq'; rw [hqs]; simp only [List.mem_append]; exact .inr hq'
  have hft := (cx.fits.1 q (hin q (by simp))).1
  obtain ⟨o, lgA, lg1, ho, _, hst, _, _, hopd⟩ := cx.at hqs
  -- what the step does to memory
  have hcl : nthC D.cl q.i = clOf E o.op := by rw [cx.cl]; exact clsN E D.ops q.i o ho
  have hcase : q.s' = q.s ∨ ∃ ob, MkAt D q ob := by
    cases hst with
    | skip hw => exact .inl rfl
    | calm hw hc hop hl =>
      obtain ⟨mm, ρ, hρ⟩ := hft.rho (op := o.op) hopd
      rw [cx.dE] at hop hl
      have hc' : isAct (clOf E o.op) = false := by rw [← hcl]; exact hc
      rcases calm_state cx.hE hc' hop hl hρ with ⟨_, he⟩ | ⟨h1, ob, he⟩
      · exact .inl he
      · refine .inr ⟨ob, ?_, he⟩
        rw [hcl]; exact h1
    | act hw hc => exact absurd (hna.symm.trans hc) (by simp)
  have accA : ∀ q' ∈ A ++ [q], (isAct (nthC D.cl q'.i) = true ∨ isMake (nthC D.cl q'.i) = true) → q'.i ∈ Dn := by
    intro q' hq' hc
    rcases List.mem_append.1 hq' with hq' | hq'
    · exact h.accA q' hq' hc
    · simp at hq'; subst hq'
      rcases hc with hc | hc
      · rw [hna] at hc; cases hc
      · exact hmk hc
  have accB : ∀ q' ∈ B, isAct (nthC D.cl q'.i) = true → q'.i ∉ Dn := fun q' hq' => h.accB q' (by simp [hq'])
  rcases hcase with he | ⟨ob, hmk1⟩
  · -- nothing
    have hnm : ∀ ob, ¬ MkAt D q ob := by intro ob hm; have := hm.next; rw [he] at this; omega
    rw [he, hsp]
    refine ⟨accA, accB, h.rel.sub ?_, ?_, fun q' hq' => h.newb q' (by simp [hq']), h.ext⟩
    · intro k o hk
      rcases hk with hk | ⟨q', hq', hk⟩
      · exact .inl hk
      · exact .inr ⟨q', by simp [hq'], hk⟩
    · intro k p hk
      rcases h.dom k p hk with h1 | ⟨q', hq', h1, ob, h2, h3⟩
      · exact .inl h1
      · rcases List.mem_cons.1 hq' with rfl | hq'
        · exact absurd h2 (hnm ob)
        · exact .inr ⟨q', hq', h1, ob, h2, h3⟩
  · -- one block
    have hqd := hmk hmk1.1
    have hget : ∀ k, T.get q.s'.heap k = if k = sp.next then some ob else T.get sp.heap k := by
      intro k; rw [hmk1.2, hsp]
      show T.get (T.set sp.heap sp.next (some ob)) k = _
      rw [T.get_set]
    have hnext : q.s'.next = sp.next + 1 := by rw [hmk1.next, hsp]
    obtain ⟨bb, nn, _, hmb, _, _⟩ := h.rel.ob sp.next ob (.inr ⟨q, by simp, hqd, hmk1, hsp ▸ rfl⟩)
    have hbb := h.newb q (by simp) hqd ob hmk1 bb nn (by rw [hsp]; exact hmb)
    refine ⟨accA, accB, h.rel.sub ?_, ?_, fun q' hq' => h.newb q' (by simp [hq']), ?_⟩
    · intro k o hk
      rcases hk with hk | ⟨q', hq', hk⟩
      · rw [hget] at hk
        by_cases hkk : k = sp.next
        · rw [if_pos hkk] at hk; injection hk with hk; subst hk
          exact .inr ⟨q, by simp, hqd, hmk1, by rw [hkk, hsp]⟩
        · rw [if_neg hkk] at hk; exact .inl hk
      · exact .inr ⟨q', by simp [hq'], hk⟩
    · intro k p hk
      rcases h.dom k p hk with h1 | ⟨q', hq', h1, ob', h2, h3⟩
      · exact .inl (by omega)
      · rcases List.mem_cons.1 hq' with rfl | hq'
        · exact .inl (by rw [h3, hsp]; omega)
        · exact .inr ⟨q', hq', h1, ob', h2, h3⟩
    · have hcut : ∀ k p, cutM m sp.next k = some p → cutM m q.s'.next k = some p := by
        intro k p hk
        have hlt := lt_of_low (cutM_low m sp.next) hk
        rw [cutM_of (by omega)]; exact cutM_mono _ _ _ _ hk
      refine ⟨fun k p hk => hcut _ _ (h.ext.mono k p hk), h.ext.keep, ?_, h.ext.size, by have := h.ext.next; omega, h.ext.os, h.ext.tape, h.ext.output, ?_⟩
      · intro k o b n hk hm hb
        rw [hget] at hk
        by_cases hkk : k = sp.next
        · have := cutM_mono _ _ _ _ hm
          rw [hkk, hmb] at this
          injection this with this; injection this with this _
          omega
        · rw [if_neg hkk] at hk
          refine h.ext.own k o b n hk ?_ hb
          have := lt_of_low (cutM_low m q.s'.next) hm
          rw [cutM_of (by omega)]; exact cutM_mono _ _ _ _ hm
      · intro k hk
        have := h.ext.next
        rw [cutM_of (by omega), ← h.ext.old k hk, cutM_of (by omega)]
theorem Inv.absorbs (cx : Cx P E r D qs tm0 s0 tmE sE lgE σ L) {m0 : Mp} {w0 : World} {Dn : List Nat} {m : Mp} {w : World} : ∀ {B1 A B : List Stp} {sp : St}, qs = A ++ (B1 ++ B) → Seg D r (B1 ++ B) sp sE → Inv D m0 s0 w0 A (B1 ++ B) Dn sp m w →
    (∀ q ∈ B1, isAct (nthC D.cl q.i) = false ∧ (isMake (nthC D.cl q.i) = true → q.i ∈ Dn)) → ∃ sp', Seg D r B sp' sE ∧ Inv D m0 s0 w0 (A ++ B1) B Dn sp' m w
  | [], A, B, sp, _, hs, h, _ => ⟨sp, hs, by simpa using h⟩
  | q :: B1, A, B, sp, hqs, hs, h, hb => by
    have h1 := h.absorb cx (q := q) (B := B1 ++ B) hqs hs (hb q (by simp)).1 (hb q (by simp)).2
    obtain ⟨sp', g1, g2⟩ := Inv.absorbs cx (A := A ++ [q]) (B1 := B1) (B := B) (by rw [hqs]; simp) hs.cons.2 h1 (fun q' hq' => hb q' (by simp [hq']))
    exact ⟨sp', g1, by simpa using g2⟩
end
end Go.AM

namespace Go.AM
open Go
section
variable {P : Program} {E : Env} {r : K} {D : Dw} {qs : List Stp} {tm0 : List Value} {s0 : St} {tmE : List Value} {sE : St} {lgE : List Lg} {σ L : List Nat}
structure FrR (fr0 fr : Frame) : Prop where
  mode : fr.mode = .run
  fn : fr.fn = fr0.fn
  kind : fr.kind = fr0.kind
  rnd : fr.roundOf = fr0.roundOf
  df : fr.defers = fr0.defers
theorem Seg.start {B : List Stp} {s s' s2 : St} (h : Seg D r B s s2) (h' : Seg D r B s' s2) : s = s' := by
  cases B with
  | nil =>
    obtain ⟨_, _, _, _, h⟩ := h
    obtain ⟨_, _, _, _, h'⟩ := h'
    cases h; cases h'; rfl
  | cons q B => rw [← h.cons.1, ← h'.cons.1]
theorem Cx.trB (cx : Cx P E r D qs tm0 s0 tmE sE lgE σ L) {A B : List Stp} {sp : St} (hqs : qs = A ++ B) (hs : Seg D r B sp sE) : ∃ tm lg, Tr D r B (B.map (·.i)) tm sp lg tmE sE lgE := by
  have ht := cx.tr
  rw [hqs] at ht
  obtain ⟨tm1, s1, lg1, _, g2⟩ := ht.app
  have : s1 = sp := Seg.start ⟨_, _, _, _, g2⟩ hs
  subst this
  exact ⟨_, _, g2⟩
theorem mem_before {l a b : List Nat} {i j : Nat} (hn : l.Nodup) (h1 : l = a ++ i :: b) (h2 : j ∈ a) (h3 : j = i ∨ j ∈ b) : False := by
  rw [h1, List.nodup_append] at hn
  refine hn.2.2 j h2 j ?_ rfl
  rcases h3 with rfl | h3
  · simp
  · simp [h3]
theorem Cx.look (cx : Cx P E r D qs tm0 s0 tmE sE lgE σ L) {A B : List Stp} {q : Stp} (hqs : qs = A ++ q :: B) {pre rest : List Nat} (hL : L = pre ++ q.i :: rest) {o : Oper} (ho : D.ops[q.i]? = some o) :
    ∀ t ∈ tmpsOf o D.ops, lk (fin D qs pre tm0) t = lk q.tm t := by
  intro t ht
  obtain ⟨_, _, _, _, hA, _⟩ := cx.at hqs
  have hv : ∀ q' ∈ A, valOf qs q'.i = q'.v := fun q' hq' => valOf_eq cx.nodup q' (by rw [hqs]; simp [hq'])
  rw [hA.fin hv]
  refine fin_agree D qs cx.ord.uniq ?_ tm0
  intro i hi
  by_cases hne : i = q.i
  · subst hne
    constructor
    · intro h; exact (mem_before cx.sched.nodup hL h (.inl rfl)).elim
    · intro h
      exact (mem_before cx.nodup (a := A.map (·.i)) (i := q.i) (b := B.map (·.i)) (by rw [hqs]; simp) h (.inl rfl)).elim
  · rcases cx.ord.look ho ht hi hne with hb | hb
    · constructor
      · intro h
        obtain ⟨p1, p2, hp⟩ := List.append_of_mem h
        have := cx.anc (pre := p1) (suf := p2 ++ q.i :: rest) (i := i) (by rw [hL, hp]; simp) hb
        exact (mem_before cx.sched.nodup hL (j := q.i) (by rw [hp]; simp [this]) (.inl rfl)).elim
      · intro h
        obtain ⟨q', hq', rfl⟩ := List.mem_map.1 h
        obtain ⟨a1, a2, ha⟩ := List.append_of_mem hq'
        have := cx.early (A := a1) (q := q') (B := a2 ++ q :: B) (by rw [hqs, ha]; simp) hb
        exact (mem_before cx.nodup (a := A.map (·.i)) (i := q.i) (b := B.map (·.i)) (j := q.i) (by rw [hqs]; simp) (by rw [ha]; simp only [List.map_append, List.mem_append]; exact .inl this) (.inl rfl)).elim
    · exact ⟨fun _ => cx.early hqs hb, fun _ => cx.anc hL hb⟩
theorem Inv.low (cx : Cx P E r D qs tm0 s0 tmE sE lgE σ L) {m0 : Mp} {w0 : World} {A B : List Stp} {Dn : List Nat} {sp : St} {m : Mp} {w : World} (hqs : qs = A ++ B) (hseg : Seg D r B sp sE) (h : Inv D m0 s0 w0 A B Dn sp m w) : ∀ k, sE.next ≤ k → m k = none := by
  intro k hk
  obtain ⟨h1, h2⟩ := cx.seg_next hseg (fun q hq => by rw [hqs]; simp [hq])
  cases hm : m k with
  | none => rfl
  | some p =>
    rcases h.dom k p hm with h3 | ⟨q, hq, _, ob, h4, h5⟩
    · omega
    · have := h4.next; have := (h2 q hq).2; omega
theorem Inv.gr {m0 : Mp} {w0 : World} {A B : List Stp} {Dn : List Nat} {sp : St} {m : Mp} {w : World} (h : Inv D m0 s0 w0 A B Dn sp m w) (gr : GR E m0) : GR E (cutM m sp.next) := gr.mono h.ext.mono
theorem Inv.grow {m0 : Mp} {w0 : World} {A B : List Stp} {Dn : List Nat} {sp : St} {m : Mp} {w : World} (h : Inv D m0 s0 w0 A B Dn sp m w) {i : Nat} (hb : ∀ q ∈ B, q.i = i → isAct (nthC D.cl q.i) = false ∧ ∀ ob, ¬ MkAt D q ob) : Inv D m0 s0 w0 A B (Dn ++ [i]) sp m w := by
  have hin : ∀ q ∈ B, q.i ∈ Dn ++ [i] → ∀ ob, MkAt D q ob → q.i ∈ Dn := by
    intro q hq hd ob hm
    rcases List.mem_append.1 hd with hd | hd
    · exact hd
    · simp at hd; exact absurd hm ((hb q hq hd).2 ob)
  refine ⟨fun q hq hc => by simp [h.accA q hq hc], ?_, h.rel.sub ?_, ?_, ?_, h.ext⟩
  · intro q hq hc hd
    rcases List.mem_append.1 hd with hd | hd
    · exact h.accB q hq hc hd
    · simp at hd; rw [(hb q hq hd).1] at hc; cases hc
  · intro k o hk
    rcases hk with hk | ⟨q, hq, hd, hm, he⟩
    · exact .inl hk
    · exact .inr ⟨q, hq, hin q hq hd _ hm, hm, he⟩
  · intro k p hk
    rcases h.dom k p hk with h1 | ⟨q, hq, h1, h2⟩
    · exact .inl h1
    · exact .inr ⟨q, hq, by simp [h1], h2⟩
  · intro q hq hd ob hm
    exact h.newb q hq (hin q hq hd ob hm) ob hm
/-- the walk stands still but for the world: an operation that changes no memory of AM -/
theorem Inv.still (cx : Cx P E r D qs tm0 s0 tmE sE lgE σ L) {m0 : Mp} {w0 : World} {A B : List Stp} {Dn : List Nat} {sp : St} {m : Mp} {w : World} (hqs : qs = A ++ B) (hseg : Seg D r B sp sE) (h : Inv D m0 s0 w0 A B Dn sp m w)
    {z : St} (hz : z = sp ∨ (z.next = sE.next ∧ ∀ k o, T.get z.heap k = some o → ∃ q ∈ B, q.i ∈ Dn ∧ MkAt D q o ∧ k = q.s.next)) :
    Rel (cutM m z.next) z w ∧ ∀ m1 w1, Rel m1 z w1 → Ext (cutM m z.next) z w m1 z w1 → m1 = cutM m z.next ∧ Inv D m0 s0 w0 A B Dn sp m w1 := by
  have hBq : ∀ q ∈ B, q ∈ qs := fun q hq => by rw [hqs]; simp [hq]
  obtain ⟨hn1, hn2⟩ := cx.seg_next hseg hBq
  have hlow := h.low cx hqs hseg
  have hzl : ∀ k o, T.get z.heap k = some o → Lv D sp B Dn k o := by
    rcases hz with rfl | ⟨_, hz⟩
    · intro k o hk; exact .inl hk
    · intro k o hk; exact .inr (hz k o hk)
  have hspf : ∀ k o, T.get sp.heap k = some o → k < sp.next ∧ KBo sp.next o := by
    intro k o hk
    have hft : ∃ tm, Fits E tm sp := by
      rcases B with _ | ⟨q, B⟩
      · obtain ⟨_, _, _, _, hs⟩ := hseg
        cases hs; exact ⟨_, cx.fits.2.1⟩
      · have := (cx.fits.1 q (hBq q (by simp))).1
        rw [hseg.cons.1] at this; exact ⟨_, this⟩
    obtain ⟨_, hft⟩ := hft
    exact hft.ob hk
  have hextra : ∀ q ∈ B, ∀ ob, MkAt D q ob → T.get sp.heap q.s.next = none := by
    intro q hq ob hm
    cases hg : T.get sp.heap q.s.next with
    | none => rfl
    | some o => have := (hspf _ _ hg).1; have := (hn2 q hq).1; omega
  have hrel : Rel (cutM m z.next) z w := by
    refine h.rel.base ?_
    intro k o hk
    refine ⟨hzl k o hk, ?_⟩
    rcases hz with rfl | ⟨hzn, hz⟩
    · exact hspf k o hk
    · obtain ⟨q, hq, hd, hm, he⟩ := hz k o hk
      have := hm.next
      have := (hn2 q hq).2
      obtain ⟨b, n, o', _, _, h3⟩ := h.rel.ob k o (hzl k o hk)
      exact ⟨by omega, by rw [hzn]; exact h3.kb hlow⟩
  refine ⟨hrel, ?_⟩
  intro m1 w1 rel1 ext1
  have hm1 : m1 = cutM m z.next := by
    funext k
    by_cases hk : k < z.next
    · exact ext1.old k hk
    · rw [rel1.low k (by omega), cutM_low m z.next k (by omega)]
  refine ⟨hm1, ?_⟩
  obtain ⟨_, _, hP⟩ := h.rel.frame hzl rel1 ext1 (fun k h1 h2 => by omega)
  have hover : overM m1 m z.next = m := by
    funext k
    unfold overM
    by_cases hk : k < z.next
    · rw [if_pos hk, hm1, cutM_of hk]
    · rw [if_neg hk]
  rw [hover] at hP
  refine ⟨h.accA, h.accB, hP.sub ?_, h.dom, h.newb, ?_⟩
  · intro k o hk
    rcases hz with rfl | ⟨hzn, hz⟩
    · rcases hk with hk | ⟨q, hq, hd, hm, he⟩
      · exact .inl hk
      · exact .inr ⟨.inr ⟨q, hq, hd, hm, he⟩, by rw [he]; exact hextra q hq _ hm⟩
    · cases hg : T.get z.heap k with
      | none => exact .inr ⟨hk, rfl⟩
      | some o1 =>
        left
        obtain ⟨q1, hq1, hd1, hm1, he1⟩ := hz k o1 hg
        rcases hk with hk | ⟨q, hq, hd, hm, he⟩
        · rw [he1, hextra q1 hq1 _ hm1] at hk; cases hk
        · have := cx.mk_one hseg hBq q1 hq1 q hq _ _ hm1 hm (by rw [← he1, ← he])
          subst this
          have h1 := hm1.get; have h2 := hm.get
          rw [h1] at h2; rw [h2]
  · rcases hz with rfl | ⟨hzn, hz⟩
    · rw [hm1] at ext1; exact h.ext.trans ext1
    · refine ⟨h.ext.mono, ?_, h.ext.own, Nat.le_trans h.ext.size ext1.size, h.ext.next, ext1.os.trans h.ext.os, ext1.tape.trans h.ext.tape, ext1.output.trans h.ext.output, h.ext.old⟩
      intro b hb hno
      rw [← h.ext.keep b hb hno]
      refine ext1.keep b (Nat.lt_of_lt_of_le hb h.ext.size) ?_
      intro k o n hk hm
      obtain ⟨q, hq, hd, hmk, he⟩ := hz k o hk
      have := h.newb q hq hd _ hmk b n (by rw [← he]; exact cutM_mono _ _ _ _ hm)
      omega
end
end Go.AM

namespace Go.AM
open Go
section
variable {P : Program} {E : Env} {r : K} {D : Dw} {qs : List Stp} {tm0 : List Value} {s0 : St} {tmE : List Value} {sE : St} {lgE : List Lg} {σ L : List Nat}
theorem step_skip {ops : List Oper} {i : Nat} {rest : List Nat} {K : List Item} {o : Oper} {fr : Frame} {cs : List Frame} {w : World} (ho : ops[i]? = some o) (htodo : fr.todo = .inRegion ⟨ops⟩ (i :: rest) :: K) (hw : Region.wanted o (yielded ⟨ops⟩ fr.tmps) = false) (hmode : fr.mode = .run) :
    step P (lone fr cs w) = .next (lone (fr.finish undef) cs w) := by
  refine st_opSkip hmode htodo ?_
  have : (⟨ops⟩ : Array Oper)[i]? = some o := by simpa using ho
  rw [this]; simpa using hw
/-- the read of a region, at whatever time its turn comes -/
theorem Inv.readAt (cx : Cx P E r D qs tm0 s0 tmE sE lgE σ L) {m0 : Mp} {w0 : World} {A B : List Stp} {sp : St} {m : Mp} {w : World} {pre rest : List Nat} {q : Stp} (hL : L = pre ++ q.i :: rest) (hq : q ∈ qs) (hqs : qs = A ++ B) (hseg : Seg D r B sp sE) (h : Inv D m0 s0 w0 A B pre sp m w)
    (hnm : isMake (nthC D.cl q.i) = false) (hse : q.s' = q.s) {f : FP} (hlg : f.lg q.i ∈ lgE) (hlive : T.get q.s.heap f.key ≠ none) (hmk : ∃ p, m f.key = some p) :
    ∃ z : St, f.obs z.heap = f.obs q.s.heap ∧ f.key < z.next ∧ (z = sp ∨ (z.next = sE.next ∧ ∀ k o, T.get z.heap k = some o → ∃ q ∈ B, q.i ∈ pre ∧ MkAt D q o ∧ k = q.s.next)) := by
  have hBq : ∀ q ∈ B, q ∈ qs := fun q hq => by rw [hqs]; simp [hq]
  have hnotpre : q.i ∉ pre := fun hin => mem_before cx.sched.nodup hL hin (.inl rfl)
  have hkq : f.key < q.s.next := by
    cases hg : T.get q.s.heap f.key with
    | none => exact absurd hg hlive
    | some o => exact ((cx.fits.1 q hq).1.ob hg).1
  have okp : ∀ q'' : Stp, bit (nthN D.an q.i) q''.i = false → bit (nthN D.an q''.i) q.i = false → ∀ nx hh hh', Lg.act q''.i nx hh hh' ∈ lgE → f.key < nx → f.obs hh' = f.obs hh := by
    intro q'' h1 h2 nx hh hh' hin hlt
    exact FP.okp (okLog_mem cx.log _ hlg _ hin) (apartB_of h1 h2) hlt
  have bfalse : ∀ {b : Bool}, (b = true → False) → b = false := by intro b hb; cases b; rfl; exact (hb rfl).elim
  rw [hqs] at hq
  rcases List.mem_append.1 hq with hqA | hqB
  · -- it is behind: what came since is apart
    obtain ⟨A1, A2, hA⟩ := List.append_of_mem hqA
    have hsp : qs = A1 ++ q :: (A2 ++ B) := by rw [hqs, hA]; simp
    obtain ⟨o, lgA, lg1, ho, _, _, htr, _, _⟩ := cx.at hsp
    obtain ⟨tm1, s1, lg2, g1, g2⟩ := htr.app
    have hs1 : s1 = sp := Seg.start ⟨_, _, _, _, g2⟩ hseg
    subst hs1
    have hqin : ∀ q' ∈ A2, q' ∈ qs := fun q' hq' => by rw [hsp]; simp [hq']
    have hch := cx.chain f (fun _ _ _ => trivial) g1 g2.mem hqin (by
      intro q'' hq'' ha
      refine okp q'' (bfalse ?_) (bfalse ?_)
      · intro hb
        have := cx.early hsp hb
        exact mem_before cx.nodup (a := A1.map (·.i)) (i := q.i) (b := (A2 ++ B).map (·.i)) (by rw [hsp]; simp) this (.inr (List.mem_map_of_mem (by simp [hq''])))
      · intro hb
        have hin := h.accA q'' (by rw [hA]; simp [hq'']) (.inl ha)
        obtain ⟨p1, p2, hp⟩ := List.append_of_mem hin
        have := cx.anc (pre := p1) (suf := p2 ++ q.i :: rest) (i := q''.i) (by rw [hL, hp]; simp) hb
        exact hnotpre (by rw [hp]; simp [this])) (by rw [hse]; exact hkq)
    have hn := cx.seg_next (B := A2) ⟨_, _, _, _, g1⟩ hqin
    exact ⟨s1, by rw [hch, hse], by rw [hse] at hn; omega, .inl rfl⟩
  · -- it is ahead
    obtain ⟨B1, B2, hB⟩ := List.append_of_mem hqB
    have hsp : qs = (A ++ B1) ++ q :: B2 := by rw [hqs, hB]; simp
    obtain ⟨tm1, lg1, htr⟩ := cx.trB hqs hseg
    rw [hB] at htr
    obtain ⟨tm2, s2, lg2, g1, g2⟩ := htr.app
    have hs2 : q.s = s2 := (Seg.cons ⟨_, _, _, _, g2⟩).1
    subst hs2
    have hact : ∀ q'' ∈ B1, isAct (nthC D.cl q''.i) = true → ∀ nx hh hh', Lg.act q''.i nx hh hh' ∈ lgE → f.key < nx → f.obs hh' = f.obs hh := by
      intro q'' hq'' ha
      refine okp q'' (bfalse ?_) (bfalse ?_)
      · intro hb
        exact h.accB q'' (by rw [hB]; simp [hq'']) ha (cx.anc hL hb)
      · intro hb
        obtain ⟨C1, C2, hC⟩ := List.append_of_mem hq''
        have := cx.early (A := A ++ C1) (q := q'') (B := C2 ++ q :: B2) (by rw [hsp, hC]; simp) hb
        exact mem_before cx.nodup (a := (A ++ B1).map (·.i)) (i := q.i) (b := B2.map (·.i)) (j := q.i) (by rw [hsp]; simp) (by
          rw [hC]; simp only [List.map_append, List.mem_append] at this ⊢
          rcases this with this | this
          · exact .inl this
          · exact .inr (.inl this)) (.inl rfl)
    obtain ⟨p, hp⟩ := hmk
    rcases h.dom _ _ hp with hlt | ⟨q', hq', hd, ob, hm, he⟩
    · have hch := cx.chain f (fun _ _ _ => trivial) g1 g2.mem (fun q' hq' => by rw [hsp]; simp [hq']) hact hlt
      exact ⟨sp, hch.symm, hlt, .inl rfl⟩
    · -- a block that was made since
      obtain ⟨hn1, hn2⟩ := cx.seg_next hseg hBq
      have hq'1 : q' ∈ B1 := by
        rw [hB] at hq'
        rcases List.mem_append.1 hq' with hq' | hq'
        · exact hq'
        · rcases List.mem_cons.1 hq' with rfl | hq'
          · omega
          · have hs2 := (Seg.cons (D := D) (r := r) (q := q) (B := B2) ⟨_, _, _, _, g2⟩).2
            have h1 := (cx.seg_next hs2 (fun q hq => by rw [hsp]; simp [hq])).2 q' hq'
            have h2 := (cx.fits.1 q (by rw [hsp]; simp)).2
            omega
      obtain ⟨C1, C2, hC⟩ := List.append_of_mem hq'1
      rw [hC] at g1
      have g1' : Tr D r (C1 ++ ([q'] ++ C2)) ((C1 ++ q' :: C2).map (·.i)) tm1 sp lg1 tm2 q.s lg2 := by simpa using g1
      obtain ⟨tm3, s3, lg3, k1, k2⟩ := g1'.app
      obtain ⟨tm4, s4, lg4, k3, k4⟩ := k2.app
      have hs4 : s4 = q'.s' := by
        cases k3 with
        | cons _ _ _ _ k => cases k; rfl
      subst hs4
      have hch := cx.chain f (fun _ _ _ => trivial) k4 (g2.mem) (fun q2 hq2 => by rw [hsp, hC]; simp [hq2]) (fun q2 hq2 => hact q2 (by rw [hC]; simp [hq2])) (by rw [hm.next]; omega)
      refine ⟨⟨T.set .lf f.key (some ob), sE.next⟩, ?_, ?_, .inr ⟨rfl, ?_⟩⟩
      · rw [hch]
        refine FP.obs_get ?_
        show T.get (T.set .lf f.key (some ob)) f.key = _
        rw [T.get_set, if_pos rfl, he, hm.get]
      · have := hm.next; have := (hn2 q' hq').2
        show f.key < sE.next
        omega
      · intro k o hk
        have hk' : T.get (T.set (.lf : T Ob) f.key (some ob)) k = some o := hk
        rw [T.get_set] at hk'
        by_cases hkk : k = f.key
        · rw [if_pos hkk] at hk'; injection hk' with hk'; subst hk'
          exact ⟨q', hq', hd, hm, by rw [hkk, he]⟩
        · rw [if_neg hkk] at hk'; cases hk'
end
end Go.AM

namespace Go.AM
open Go
section
variable {P : Program} {E : Env} {r : K} {D : Dw} {qs : List Stp} {tm0 : List Value} {s0 : St} {tmE : List Value} {sE : St} {lgE : List Lg} {σ L : List Nat}
/-- one operation of a region, in whatever order -/
theorem Inv.step (cx : Cx P E r D qs tm0 s0 tmE sE lgE σ L) {m0 : Mp} {w0 : World} {A B : List Stp} {sp : St} {m : Mp} {w : World} {pre rest : List Nat} {q : Stp} {K : List Item} {fr0 fr : Frame} {cs : List Frame}
    (hL : L = pre ++ q.i :: rest) (hq : q ∈ qs) (hqs : qs = A ++ B) (hseg : Seg D r B sp sE) (h : Inv D m0 s0 w0 A B pre sp m w) (gr0 : GR E m0) (hfr : FrR fr0 fr) (htodo : fr.todo = .inRegion ⟨D.ops⟩ (q.i :: rest) :: K) (htm : VRs m (fin D qs pre tm0) fr.tmps.toList) :
    ∃ A' B' sp' m' w' fr', qs = A' ++ B' ∧ Seg D r B' sp' sE ∧ Inv D m0 s0 w0 A' B' (pre ++ [q.i]) sp' m' w' ∧ Steps P (lone fr cs w) (lone fr' cs w') ∧ FrR fr0 fr' ∧ fr'.todo = .inRegion ⟨D.ops⟩ rest :: K ∧ VRs m' (fin D qs (pre ++ [q.i]) tm0) fr'.tmps.toList := by
  classical
  have hBq : ∀ q ∈ B, q ∈ qs := fun q hq => by rw [hqs]; simp [hq]
  have hnotpre : q.i ∉ pre := fun hin => mem_before cx.sched.nodup hL hin (.inl rfl)
  have honly : ∀ q' ∈ qs, q'.i = q.i → q' = q := by
    intro q' hq' he
    obtain ⟨a, b, hab⟩ := List.append_of_mem hq
    rw [hab] at hq'
    have hn := cx.nodup
    rw [hab] at hn
    simp only [List.map_append, List.map_cons, List.nodup_append, List.nodup_cons] at hn
    rcases List.mem_append.1 hq' with h1 | h1
    · exact absurd he (hn.2.2 q'.i (List.mem_map_of_mem h1) q.i (by simp))
    · rcases List.mem_cons.1 h1 with rfl | h1
      · rfl
      · exact absurd (by rw [← he]; exact List.mem_map_of_mem h1) hn.2.1.1
  obtain ⟨qa, qb, hab⟩ := List.append_of_mem hq
  obtain ⟨o, lgA, lg1, ho, _, hst, _, hlgE, hopd⟩ := cx.at hab
  have hlk := cx.look hab hL ho
  have hoA : (⟨D.ops⟩ : Array Oper)[q.i]? = some o := by simpa using ho
  have hcl : nthC D.cl q.i = clOf E o.op := by rw [cx.cl]; exact clsN E D.ops q.i o ho
  have hwant : Region.wanted o (yielded ⟨D.ops⟩ fr.tmps) = wantedO D.ops q.tm o.guard := by rw [wanted_rel htm]; exact wantedO_agree hlk
  have hgm : ∀ k p, cutM m sp.next k = some p → m k = some p := cutM_mono m sp.next
  have grm : GR E m := (h.gr gr0).mono hgm
  have hev := evl_agree (o := o) (ops := D.ops) hlk
  have hx : ∀ x ∈ o.op.operands, VR m (evl q.tm x) (fr.eval x) := by
    intro x hxm
    rw [← hev x hxm]; exact opd_rel grm htm (hopd x hxm)
  have hdst : dstI D q.i = o.dst := by simp [dstI, ho]
  have hval : valOf qs q.i = q.v := valOf_eq cx.nodup q hq
  have done : ∀ {A' B' : List Stp} {sp' : St} {m' : Mp} {w' : World} {v' : Value}, qs = A' ++ B' → Seg D r B' sp' sE → Inv D m0 s0 w0 A' B' (pre ++ [q.i]) sp' m' w' → Steps P (lone fr cs w) (lone (fr.finish v') cs w') → (∀ k p, m k = some p → m' k = some p) → VR m' q.v v' →
      ∃ A' B' sp' m' w' fr', qs = A' ++ B' ∧ Seg D r B' sp' sE ∧ Inv D m0 s0 w0 A' B' (pre ++ [q.i]) sp' m' w' ∧ Steps P (lone fr cs w) (lone fr' cs w') ∧ FrR fr0 fr' ∧ fr'.todo = .inRegion ⟨D.ops⟩ rest :: K ∧ VRs m' (fin D qs (pre ++ [q.i]) tm0) fr'.tmps.toList := by
    intro A' B' sp' m' w' v' h1 h2 h3 h4 h5 h6
    have hfin := finish_eq (v := v') htodo hoA
    refine ⟨A', B', sp', m', w', fr.finish v', h1, h2, h3, h4, ?_, ?_, ?_⟩
    · rw [hfin]; exact ⟨hfr.mode, hfr.fn, hfr.kind, hfr.rnd, hfr.df⟩
    · rw [hfin]; rfl
    · rw [hfin, fin_snoc, hdst, hval]
      exact setT_rel (htm.mono h5) h6 o.dst
  have hlow := h.low cx hqs hseg
  obtain ⟨hn1, hn2⟩ := cx.seg_next hseg hBq
  by_cases hact : isAct (nthC D.cl q.i) = true
  · -- an act: all that AM did before is done
    have hqB : q ∈ B := by
      have hq' := hq
      rw [hqs] at hq'
      rcases List.mem_append.1 hq' with h1 | h1
      · exact absurd (h.accA q h1 (.inl hact)) hnotpre
      · exact h1
    obtain ⟨B1, B2, hB⟩ := List.append_of_mem hqB
    have hsp : qs = (A ++ B1) ++ q :: B2 := by rw [hqs, hB]; simp
    rw [hB] at hseg h
    have hb1 : ∀ q' ∈ B1, isAct (nthC D.cl q'.i) = false ∧ (isMake (nthC D.cl q'.i) = true → q'.i ∈ pre) := by
      intro q' hq'
      have hin : (isAct (nthC D.cl q'.i) = true ∨ isMake (nthC D.cl q'.i) = true) → q'.i ∈ pre := fun hc => cx.anc hL (cx.acts hsp hact q' (by simp [hq']) hc)
      refine ⟨?_, fun hc => hin (.inr hc)⟩
      cases hc : isAct (nthC D.cl q'.i) with
      | false => rfl
      | true => exact absurd (hin (.inl hc)) (h.accB q' (by simp [hq']) hc)
    obtain ⟨sp', hseg', h'⟩ := Inv.absorbs cx (by rw [hqs, hB]) hseg h hb1
    obtain ⟨hqsp, hseg2⟩ := hseg'.cons
    have hB2 : ∀ q' ∈ B2, q' ∈ qs := fun q' hq' => by rw [hsp]; simp [hq']
    have hnotmk : ∀ ob, ¬ MkAt D q ob := by
      intro ob hm
      have := hm.1
      cases hc : nthC D.cl q.i <;> rw [hc] at hact this <;> simp [isAct, isMake] at hact this
    have accA' : ∀ q' ∈ (A ++ B1) ++ [q], (isAct (nthC D.cl q'.i) = true ∨ isMake (nthC D.cl q'.i) = true) → q'.i ∈ pre ++ [q.i] := by
      intro q' hq' hc
      rcases List.mem_append.1 hq' with h1 | h1
      · simp [h'.accA q' h1 hc]
      · simp at h1; subst h1; simp
    have hne2 : ∀ q' ∈ B2, q'.i ≠ q.i := by
      intro q' hq' he
      have := cx.nodup
      rw [hsp] at this
      simp only [List.map_append, List.map_cons, List.nodup_append, List.nodup_cons] at this
      exact this.2.1.1 (by rw [← he]; exact List.mem_map_of_mem hq')
    have accB' : ∀ q' ∈ B2, isAct (nthC D.cl q'.i) = true → q'.i ∉ pre ++ [q.i] := by
      intro q' hq' hc hin
      rcases List.mem_append.1 hin with h1 | h1
      · exact h'.accB q' (by simp [hq']) hc h1
      · simp at h1; exact hne2 q' hq' h1
    have hin2 : ∀ q' ∈ B2, q'.i ∈ pre ++ [q.i] → q'.i ∈ pre := by
      intro q' hq' hin
      rcases List.mem_append.1 hin with h1 | h1
      · exact h1
      · simp at h1; exact absurd h1 (hne2 q' hq')
    have hqs' : qs = ((A ++ B1) ++ [q]) ++ B2 := by rw [hsp]; simp
    rcases hst.parts with ⟨hw, hv, he⟩ | ⟨hw, hc, _, _⟩ | ⟨hw, hc, har⟩
    · subst hqsp
      have hinv : Inv D m0 s0 w0 ((A ++ B1) ++ [q]) B2 (pre ++ [q.i]) q.s m w := by
        refine ⟨accA', accB', h'.rel.sub ?_, ?_, ?_, h'.ext⟩
        · intro k o hk
          rcases hk with hk | ⟨q', hq', hd, hm, he⟩
          · exact .inl hk
          · exact .inr ⟨q', by simp [hq'], hin2 q' hq' hd, hm, he⟩
        · intro k p hk
          rcases h'.dom k p hk with h1 | ⟨q', hq', hd, ob, hm, he⟩
          · exact .inl h1
          · rcases List.mem_cons.1 hq' with rfl | hq'
            · exact absurd hm (hnotmk ob)
            · exact .inr ⟨q', hq', by simp [hd], ob, hm, he⟩
        · intro q' hq' hd ob hm
          exact h'.newb q' (by simp [hq']) (hin2 q' hq' hd) ob hm
      exact done hqs' (by rw [he] at hseg2; exact hseg2) hinv (.one (step_skip ho htodo (by rw [hwant]; exact hw) hfr.mode)) (fun _ _ h => h) (by rw [hv]; exact .undef)
    · exact absurd (hc.symm.trans hact) (by simp)
    · subst hqsp
      have hft := (cx.fits.1 _ hq).1
      have hobsp : ∀ k o, T.get q.s.heap k = some o → k < q.s.next ∧ KBo q.s.next o := fun k o hk => hft.ob hk
      have hrel : Rel (cutM m q.s.next) q.s w := h'.rel.base (fun k o hk => ⟨.inl hk, hobsp k o hk⟩)
      have hxc : ∀ x ∈ o.op.operands, VR (cutM m q.s.next) (evl q.tm x) (fr.eval x) := fun x hxm => (hx x hxm).cut (hft.opd (hopd x hxm))
      rw [cx.dE] at har
      obtain ⟨m1, w1, v1, g1, g2, g3, g4⟩ := act_step (cs := cs) cx.hE cx.ok hoA htodo (by rw [hwant]; exact hw) hfr.mode hrel (h'.gr gr0) hxc har
      obtain ⟨_, hn4⟩ := cx.seg_next hseg2 hB2
      have hgap : ∀ k, q.s.next ≤ k → k < q.s'.next → m k = none := by
        intro k h1 h2
        cases hmk : m k with
        | none => rfl
        | some p =>
          rcases h'.dom k p hmk with h3 | ⟨q', hq', hd, ob, hm, he⟩
          · omega
          · rcases List.mem_cons.1 hq' with rfl | hq'
            · exact absurd hm (hnotmk ob)
            · have := (hn4 q' hq').1
              have h2' : k < q.s'.next := h2
              have : q.s'.next ≤ q'.s.next := this
              omega
      obtain ⟨f1, f2, f3⟩ := h'.rel.frame (s1 := q.s) (fun k o hk => .inl hk) g2 g3 hgap
      have hbig : ∀ k, q.s'.next ≤ k → overM m1 m q.s'.next k = m k := by intro k hk; unfold overM; rw [if_neg (by omega)]
      have hcut : cutM (overM m1 m q.s'.next) q.s'.next = m1 := by
        funext k
        unfold cutM overM
        by_cases hk : k < q.s'.next
        · rw [if_pos hk, if_pos hk]
        · rw [if_neg hk, g2.low k (by omega)]
      have hinv : Inv D m0 s0 w0 ((A ++ B1) ++ [q]) B2 (pre ++ [q.i]) q.s' (overM m1 m q.s'.next) w1 := by
        refine ⟨accA', accB', f3.sub ?_, ?_, ?_, ?_⟩
        · intro k o hk
          rcases hk with hk | ⟨q', hq', hd, hm, he⟩
          · exact .inl hk
          · refine .inr ⟨.inr ⟨q', by simp [hq'], hin2 q' hq' hd, hm, he⟩, ?_⟩
            cases hg : T.get q.s.heap k with
            | none => rfl
            | some o1 =>
              have h1 := (hobsp k o1 hg).1
              have h2 : q.s'.next ≤ q'.s.next := (hn4 q' hq').1
              have h3 := g3.next
              omega
        · intro k p hk
          by_cases hks : k < q.s'.next
          · exact .inl hks
          · rw [hbig k (by omega)] at hk
            have h3 := g3.next
            rcases h'.dom k p hk with h1 | ⟨q', hq', hd, ob, hm, he⟩
            · have h1' : k < q.s.next := h1
              omega
            · rcases List.mem_cons.1 hq' with rfl | hq'
              · exact absurd hm (hnotmk ob)
              · exact .inr ⟨q', hq', by simp [hd], ob, hm, he⟩
        · intro q' hq' hd ob hm b n hb
          have h2 : q.s'.next ≤ q'.s.next := (hn4 q' hq').1
          rw [hbig _ h2] at hb
          exact h'.newb q' (by simp [hq']) (hin2 q' hq' hd) ob hm b n hb
        · rw [hcut]; exact h'.ext.trans g3
      exact done hqs' hseg2 hinv g1 f1 (g4.mono f2)
  · have hact' : isAct (nthC D.cl q.i) = false := by cases hc : isAct (nthC D.cl q.i); rfl; exact absurd hc hact
    rcases hst.parts with ⟨hw, hv, he0⟩ | ⟨hw, hc, hop, hl⟩ | ⟨hw, hc, har⟩
    rotate_right
    · exact absurd hc hact
    · refine done hqs hseg (h.grow ?_) (.one (step_skip ho htodo (by rw [hwant]; exact hw) hfr.mode)) (fun _ _ h => h) (by rw [hv]; exact .undef)
      intro q' hq' he
      have := honly q' (hBq q' hq') he
      subst this
      exact ⟨hact', fun ob hm => by have := hm.next; rw [he0] at this; omega⟩
    · rw [cx.dE] at hop hl
      have hclact : isAct (clOf E o.op) = false := by rw [← hcl]; exact hact'
      by_cases hmk : isMake (clOf E o.op) = true
      · -- a new block
        have hmkq : isMake (nthC D.cl q.i) = true := by have := hcl; rw [← this] at hmk; exact hmk
        have hqB : (q : Stp) ∈ B := by
          have hq' := hq
          rw [hqs] at hq'
          rcases List.mem_append.1 hq' with h1 | h1
          · exact absurd (h.accA _ h1 (.inr hmkq)) hnotpre
          · exact h1
        let ev1 : Operand → Value := fun x => if x ∈ o.op.operands then evl q.tm x else Go.undef
        let ρ1 : Operand → Value := fun x => if x ∈ o.op.operands then fr.eval x else Go.undef
        have e1 : ∀ zz, opr o.op E zz ev1 = opr o.op E zz (evl q.tm) := fun zz => opr_congr o.op E zz (fun x hx => by simp [ev1, hx])
        have hsel : ∀ cs b, o.op ≠ .select cs b := by intro cs b he; rw [he] at hmk; cases hmk
        have e2 : execOp fr.eval o = execOp ρ1 o := execOp_congr o hsel (fun x hx => by simp [ρ1, hx])
        have er : ER m ev1 ρ1 := by
          intro x
          by_cases hm : x ∈ o.op.operands
          · simp only [ev1, ρ1, if_pos hm]; exact hx x hm
          · simp only [ev1, ρ1, if_neg hm]; exact VR.undef
        obtain ⟨mk, mk', ob, o', cnt, hM⟩ := make_any cx.hE er hmk (s := q.s) (s' := q.s') (n := .v q.v) (by rw [e1]; exact hop)
        have ham := hM.am q.s
        rw [e1, hop] at ham
        injection ham with ham; injection ham with hv hs'
        injection hv with hv
        have hMk : MkAt D q ob := ⟨hmkq, hs'⟩
        have hkn : m q.s.next = none := by
          cases hmn : m q.s.next with
          | none => rfl
          | some p =>
            rcases h.dom _ p hmn with h1 | ⟨q', hq', hd, ob', hm', he⟩
            · have := (hn2 _ hqB).1
              have h2 : sp.next ≤ q.s.next := this
              omega
            · have := cx.mk_one hseg hBq _ hqB q' hq' _ _ hMk hm' he
              rw [← this] at hd
              exact absurd hd hnotpre
        have hrun : (execOp fr.eval o).run P w = .ok (.value (mk' w.heap.size)) (pushW w o') := by rw [e2]; exact hM.run w
        have hstep : Go.step P (lone fr cs w) = .next (lone (fr.finish (mk' w.heap.size)) cs (pushW w o')) := by
          have hd : fr.roundOf = none ∨ ∀ c, o.op ≠ .defer c := .inr (by intro c he; rw [he] at hmk; cases hmk)
          have hg := stG_op (P := P) (w := w) (cs := cs) hfr.mode htodo hoA (by rw [hwant]; exact hw) hd
          exact step_lone_go (by rw [hg]; simp [stepG.apply, hrun])
        have hmono := setM_mono (b := w.heap.size) (n := cnt) hkn
        have hadd := h.rel.add hkn (hM.rel.mono hmono)
        have hsame : ∀ q' ∈ B, q'.i = q.i → q' = q := fun q' hq' he => honly q' (hBq q' hq') he
        have hcutk : cutM (setM m q.s.next w.heap.size cnt) sp.next = cutM m sp.next := by
          funext k
          unfold cutM
          by_cases hk : k < sp.next
          · rw [if_pos hk, if_pos hk]
            have : sp.next ≤ q.s.next := (hn2 _ hqB).1
            unfold setM; rw [if_neg (by omega)]
          · rw [if_neg hk, if_neg hk]
        have hinv : Inv D m0 s0 w0 A B (pre ++ [q.i]) sp (setM m q.s.next w.heap.size cnt) (pushW w o') := by
          refine ⟨fun q' hq' hc => by simp [h.accA q' hq' hc], ?_, hadd.sub ?_, ?_, ?_, ?_⟩
          · intro q' hq' hcc hin
            rcases List.mem_append.1 hin with h1 | h1
            · exact h.accB q' hq' hcc h1
            · simp at h1
              have := hsame q' hq' h1
              subst this
              exact absurd hcc hact
          · intro k o1 hk
            rcases hk with hk | ⟨q', hq', hd, hm', he⟩
            · exact .inl (.inl hk)
            · rcases List.mem_append.1 hd with hd | hd
              · exact .inl (.inr ⟨q', hq', hd, hm', he⟩)
              · simp at hd
                have := hsame q' hq' hd
                subst this
                have h1 := hm'.get; have h2 := hMk.get
                rw [h1] at h2; injection h2 with h2
                exact .inr ⟨he, h2⟩
          · intro k p hk
            unfold setM at hk
            by_cases hks : k = q.s.next
            · exact .inr ⟨_, hqB, by simp, ob, hMk, hks⟩
            · rw [if_neg hks] at hk
              rcases h.dom k p hk with h1 | ⟨q', hq', hd, h2⟩
              · exact .inl h1
              · exact .inr ⟨q', hq', by simp [hd], h2⟩
          · intro q' hq' hd ob' hm' b n hb
            unfold setM at hb
            by_cases hks : q'.s.next = q.s.next
            · rw [if_pos hks] at hb; injection hb with hb; injection hb with hb _
              rw [← hb]; exact h.ext.size
            · rw [if_neg hks] at hb
              rcases List.mem_append.1 hd with hd | hd
              · exact h.newb q' hq' hd ob' hm' b n hb
              · simp at hd
                have := hsame q' hq' hd
                subst this
                exact absurd rfl hks
          · rw [hcutk]
            refine ⟨h.ext.mono, ?_, h.ext.own, ?_, h.ext.next, h.ext.os, h.ext.tape, h.ext.output, h.ext.old⟩
            · intro b hb hno
              rw [← h.ext.keep b hb hno]
              show (w.heap.push o')[b]? = _
              have := h.ext.size
              rw [Array.getElem?_push, if_neg (by omega)]
            · show w0.heap.size ≤ (w.heap.push o').size
              have := h.ext.size
              rw [Array.size_push]; omega
        refine done hqs hseg hinv (.one hstep) hmono ?_
        show VR _ q.v _
        rw [hv]; exact hM.val _ _ _ (setM_self _ _ _)
      · have hmk' : isMake (clOf E o.op) = false := by cases hc : isMake (clOf E o.op); rfl; exact absurd hc hmk
        have hnm : ∀ ob, ¬ MkAt D q ob := by
          intro ob hm
          have h1 : isMake (nthC D.cl q.i) = true := hm.1
          have h2 : nthC D.cl q.i = clOf E o.op := hcl
          rw [h2] at h1
          exact hmk h1
        -- some state of AM at which the operation answers the same
        have hz : ∃ z : St, opr o.op E z (evl q.tm) = some (.v q.v, z) ∧ (∀ x ∈ o.op.operands, VR (cutM m z.next) (evl q.tm x) (fr.eval x)) ∧ (z = sp ∨ (z.next = sE.next ∧ ∀ k o, T.get z.heap k = some o → ∃ q ∈ B, q.i ∈ pre ∧ MkAt D q o ∧ k = q.s.next)) := by
          have any : (∀ z : St, opr o.op E z (evl q.tm) = some (.v q.v, z)) → ∃ z : St, opr o.op E z (evl q.tm) = some (.v q.v, z) ∧ (∀ x ∈ o.op.operands, VR (cutM m z.next) (evl q.tm x) (fr.eval x)) ∧ (z = sp ∨ (z.next = sE.next ∧ ∀ k o, T.get z.heap k = some o → ∃ q ∈ B, q.i ∈ pre ∧ MkAt D q o ∧ k = q.s.next)) := by
            intro ha
            refine ⟨⟨.lf, sE.next⟩, ha _, fun x hxm => (hx x hxm).cut ((hx x hxm).kb hlow), .inr ⟨rfl, ?_⟩⟩
            intro k o hk; cases hk
          by_cases hrd : isRead (clOf E o.op) = true
          · obtain ⟨hse, hr⟩ := read_fp hrd hop hl
            rcases hr with hr | ⟨f, r1, r2, ⟨x, hxm, r3⟩, r4, r5⟩
            · exact any hr
            · have hnmq : isMake (nthC D.cl q.i) = false := by have h2 : nthC D.cl q.i = clOf E o.op := hcl; rw [h2]; exact hmk'
              obtain ⟨z, z1, z2, z3⟩ := h.readAt cx hL hq hqs hseg hnmq hse (hlgE _ r1) r2 (r3 m _ (hx x hxm))
              exact ⟨z, r5 z z1, fun x hxm => (hx x hxm).cut (r4 _ z2 x hxm), z3⟩
          · have hrd' : isRead (clOf E o.op) = false := by cases hc : isRead (clOf E o.op); rfl; exact absurd hc hrd
            obtain ⟨rv, hrv⟩ := pure_opr (E := E) (ev := evl q.tm) o.op hclact hrd' hmk'
            apply any
            intro z
            have h1 := hrv q.s
            rw [hop] at h1
            cases rv with
            | none => cases h1
            | some x => injection h1 with h1; injection h1 with h1 _; injection h1 with h1; rw [hrv z, h1]
        obtain ⟨z, z1, z2, z3⟩ := hz
        obtain ⟨hrel, hgo⟩ := h.still cx hqs hseg z3
        have grz : GR E (cutM m z.next) := by
          refine (h.gr gr0).mono ?_
          intro k p hk
          have hlt := lt_of_low (cutM_low m sp.next) hk
          have : sp.next ≤ z.next := by
            rcases z3 with rfl | ⟨h1, _⟩
            · exact Nat.le_refl _
            · omega
          rw [cutM_of (by omega)]; exact cutM_mono _ _ _ _ hk
        obtain ⟨m1, w1, v1, g1, g2, g3, g4⟩ := act_step (cs := cs) cx.hE cx.ok hoA htodo (by rw [hwant]; exact hw) hfr.mode hrel grz z2 (ActR.v z1)
        obtain ⟨hm1, hinv⟩ := hgo m1 w1 g2 g3
        refine done hqs hseg (hinv.grow ?_) g1 (fun _ _ h => h) ?_
        · intro q' hq' he
          have := honly q' (hBq q' hq') he
          subst this
          exact ⟨hact', hnm⟩
        · rw [hm1] at g4; exact g4.mono (cutM_mono _ _)
end
end Go.AM

namespace Go.AM
open Go
section
variable {P : Program} {E : Env} {r : K} {D : Dw} {qs : List Stp} {tm0 : List Value} {s0 : St} {tmE : List Value} {sE : St} {lgE : List Lg} {σ L : List Nat}
theorem Inv.walk (cx : Cx P E r D qs tm0 s0 tmE sE lgE σ L) {m0 : Mp} {w0 : World} {K : List Item} {fr0 : Frame} {cs : List Frame} (gr0 : GR E m0) : ∀ (mid : List Nat) {pre suf : List Nat} {A B : List Stp} {sp : St} {m : Mp} {w : World} {fr : Frame}, L = pre ++ (mid ++ suf) → (∀ i ∈ mid, i ∈ qs.map (·.i)) → qs = A ++ B → Seg D r B sp sE → Inv D m0 s0 w0 A B pre sp m w →
    FrR fr0 fr → fr.todo = .inRegion ⟨D.ops⟩ (mid ++ suf) :: K → VRs m (fin D qs pre tm0) fr.tmps.toList →
    ∃ A' B' sp' m' w' fr', qs = A' ++ B' ∧ Seg D r B' sp' sE ∧ Inv D m0 s0 w0 A' B' (pre ++ mid) sp' m' w' ∧ Steps P (lone fr cs w) (lone fr' cs w') ∧ FrR fr0 fr' ∧ fr'.todo = .inRegion ⟨D.ops⟩ suf :: K ∧ VRs m' (fin D qs (pre ++ mid) tm0) fr'.tmps.toList
  | [], pre, suf, A, B, sp, m, w, fr, _, _, hqs, hseg, h, hfr, htodo, htm => ⟨A, B, sp, m, w, fr, hqs, hseg, by simpa using h, Steps.refl P _, hfr, by simpa using htodo, by simpa using htm⟩
  | i :: mid, pre, suf, A, B, sp, m, w, fr, hL, hm, hqs, hseg, h, hfr, htodo, htm => by
    obtain ⟨q, hq, rfl⟩ := List.mem_map.1 (hm i (by simp))
    obtain ⟨A1, B1, sp1, m1, w1, fr1, g1, g2, g3, g4, g5, g6, g7⟩ := h.step cx (cs := cs) (rest := mid ++ suf) (by rw [hL]; rfl) hq hqs hseg gr0 hfr htodo htm
    obtain ⟨A2, B2, sp2, m2, w2, fr2, k1, k2, k3, k4, k5, k6, k7⟩ := Inv.walk cx gr0 mid (pre := pre ++ [q.i]) (suf := suf) (by rw [hL]; simp) (fun j hj => hm j (by simp [hj])) g1 g2 g3 g5 g6 g7
    exact ⟨A2, B2, sp2, m2, w2, fr2, k1, k2, by simpa using k3, g4.trans k4, k5, k6, by simpa using k7⟩
/-- all that there is of the way is behind -/
theorem Inv.close (cx : Cx P E r D qs tm0 s0 tmE sE lgE σ L) {m0 : Mp} {w0 : World} {A B : List Stp} {sp : St} {m : Mp} {w : World} {Dn : List Nat} (hqs : qs = A ++ B) (hseg : Seg D r B sp sE) (h : Inv D m0 s0 w0 A B Dn sp m w)
    (hin : ∀ q ∈ B, (isAct (nthC D.cl q.i) = true ∨ isMake (nthC D.cl q.i) = true) → q.i ∈ Dn) : Rel m sE w ∧ Ext m0 s0 w0 m sE w := by
  have hb1 : ∀ q' ∈ B, isAct (nthC D.cl q'.i) = false ∧ (isMake (nthC D.cl q'.i) = true → q'.i ∈ Dn) := by
    intro q' hq'
    refine ⟨?_, fun hc => hin q' hq' (.inr hc)⟩
    cases hc : isAct (nthC D.cl q'.i) with
    | false => rfl
    | true => exact absurd (hin q' hq' (.inl hc)) (h.accB q' hq' hc)
  obtain ⟨sp', hs', h'⟩ := Inv.absorbs cx (B1 := B) (B := []) (by simpa using hqs) (by simpa using hseg) (by simpa using h) hb1
  have hsE : sp' = sE := by
    obtain ⟨_, _, _, _, hs'⟩ := hs'
    cases hs'; rfl
  subst hsE
  have hlow : ∀ k, sp'.next ≤ k → m k = none := by
    intro k hk
    cases hm : m k with
    | none => rfl
    | some p =>
      rcases h'.dom k p hm with h1 | ⟨q, hq, _⟩
      · omega
      · simp at hq
  have hcut : cutM m sp'.next = m := by
    funext k
    unfold cutM
    by_cases hk : k < sp'.next
    · rw [if_pos hk]
    · rw [if_neg hk, hlow k (by omega)]
  refine ⟨⟨fun k o hk => h'.rel.ob k o (.inl hk), fun k k' o o' b n n' hk hk' => h'.rel.inj k k' o o' b n n' (.inl hk) (.inl hk'), hlow, h'.rel.rng⟩, ?_⟩
  have := h'.ext
  rw [hcut] at this; exact this
end
theorem drawn_ok {P : Program} {E : Env} (hE : EnvOK P E) : DrawnOK P E := by
  intro r ok id ops a s e a' s' h hops m w fr k cs rel gr ar cr htodo
  obtain ⟨tm, df, rc, rd⟩ := a
  have h' : (match okD E ops.toList (orderD E ops.toList), (⟨tm, df, rc, rd⟩ : Ac) with
    | true, ⟨tm, df, rc, rd⟩ => dOps ⟨E, ops.toList, ancs ops.toList [], cls E ops.toList, df, rc, rd⟩ r (orderD E ops.toList) tm s [] []
    | false, _ => none) = some (.ex e a', s') := h
  cases hok : okD E ops.toList (orderD E ops.toList) with
  | false => rw [hok] at h'; cases h'
  | true =>
    rw [hok] at h'
    simp only at h'
    have ord := okD_ord hok
    generalize orderD E ops.toList = σ at h' ord hok
    -- the model draws an order
    have hdraw := st_draw (P := P) (fr := fr) (cs := cs) (w := w) ar.mode htodo
    rw [hE.mixed] at hdraw
    generalize hL : Region.schedule true ops (w.tape w.drawn (.order fr.fn id)) = L at hdraw
    have sched : Sched ops L := by rw [← hL]; exact schedule_sched ops _
    have hlen : L.length = ops.size := by
      rw [← hL]
      exact schedule_full ops (σ := σ) (by exact ord.sched) (fun i hi => ord.all i (by simpa using hi)) _
    have hLall : ∀ j, j < ops.size → j ∈ L := fun j hj => all_in sched.nodup hlen sched.mem hj
    have rel1 := rel.draw
    have relP : RelP m (fun k o => T.get s.heap k = some o) (drawW w) := ⟨rel1.ob, rel1.inj, rel1.rng⟩
    have fits0 : Fits E tm s := ⟨m, w, _, rel, gr, ar.tm⟩
    have hcut : cutM m s.next = m := by
      funext j
      unfold cutM
      by_cases hj : j < s.next
      · rw [if_pos hj]
      · rw [if_neg hj, rel.low j (by omega)]
    have fr0 : FrR fr (todoF fr (.inRegion ops L :: k)) := ⟨ar.mode, rfl, rfl, rfl, rfl⟩
    -- the walk begins
    have start : ∀ qs : List Stp, Inv ⟨E, ops.toList, ancs ops.toList [], cls E ops.toList, df, rc, rd⟩ m s (drawW w) [] qs [] s m (drawW w) := by
      intro qs
      refine ⟨by simp, by simp, relP.sub ?_, ?_, by simp, ?_⟩
      · intro j o hj
        rcases hj with hj | ⟨_, _, hd, _⟩
        · exact hj
        · simp at hd
      · intro j p hj; exact .inl (lt_of_low rel.low hj)
      · rw [hcut]; exact Ext.refl m s (drawW w)
    rcases dOps_tr h' with ⟨qs, tm2, lg2, h1, h2, rfl, rfl⟩ | ⟨qs, σ1, i, σ2, o, tm2, s2, lg2, v, hσ, h1, ho, hw, hact, hap, hdf, h2, hleft, rfl, rfl⟩
    · -- to the end
      have his := h1.is
      have cx : Cx P E r ⟨E, ops.toList, ancs ops.toList [], cls E ops.toList, df, rc, rd⟩ qs tm s tm2 s' lg2 σ L :=
        ⟨hE, ok, rfl, rfl, rfl, hops, by rw [← his]; exact h1, h2, ord, ⟨[], by rw [his]; simp⟩, sched, fits0⟩
      have hin : ∀ j ∈ L, j ∈ qs.map (·.i) := fun j hj => by rw [← his]; exact ord.all j (by simpa using sched.mem j hj)
      obtain ⟨A, B, sp, m1, w1, fr1, g1, g2, g3, g4, g5, g6, g7⟩ := (start qs).walk cx (cs := cs) (K := k) gr L (suf := []) (by simp) hin (by simp) ⟨_, _, _, _, cx.tr⟩ fr0 (by simp [todoF]) (show VRs m tm _ from ar.tm)
      have hall : ∀ q ∈ B, (isAct (nthC (cls E ops.toList) q.i) = true ∨ isMake (nthC (cls E ops.toList) q.i) = true) → q.i ∈ [] ++ L := by
        intro q hq _
        rw [List.nil_append]
        apply hLall
        have : q.i ∈ qs.map (·.i) := List.mem_map_of_mem (by rw [g1]; simp [hq])
        rw [← his] at this
        simpa using ord.lt _ this
      obtain ⟨k1, k2⟩ := g3.close cx g1 g2 hall
      have hfin : fin ⟨E, ops.toList, ancs ops.toList [], cls E ops.toList, df, rc, rd⟩ qs ([] ++ L) tm = tm2 := by
        have e := h1.fin (qs0 := qs) (fun q hq => valOf_eq cx.nodup q hq)
        rw [e]
        refine lk_ext (by rw [fin_len, fin_len]) (fun t => fin_agree _ qs (ord.uniq (D := ⟨E, ops.toList, ancs ops.toList [], cls E ops.toList, df, rc, rd⟩)) ?_ tm)
        intro i hi
        have hlt : i < ops.size := by
          unfold dstI at hi
          cases hp : ops.toList[i]? with
          | none => simp only [hp] at hi; cases hi
          | some p => have := (List.getElem?_eq_some_iff.1 hp).1; simpa using this
        exact ⟨fun _ => ord.all i (by simpa using hlt), fun _ => by simpa using hLall i hlt⟩
      rw [hfin] at g7
      have hend := st_regionEnd (P := P) (fr := fr1) (cs := cs) (w := w1) g5.mode g6
      have hm : ∀ k p, m k = some p → m1 k = some p := k2.mono
      refine ⟨m1, w1, todoF fr1 k, cs, (Steps.head hdraw g4).trans (.one hend), k1, (Ext.draw m s w).trans k2, ?_, ⟨g5.mode, rfl⟩, CsR.refl _ _⟩
      exact ⟨fun _ => g7, by show DfRs m1 df fr1.defers; rw [g5.df]; exact ar.df.mono hm, by show OptR m1 rd fr1.roundOf; rw [g5.rnd]; exact ar.rd.mono hm, g5.fn, g5.kind, g5.rnd⟩
    · -- a panic
      have his := h1.is
      have cx : Cx P E r ⟨E, ops.toList, ancs ops.toList [], cls E ops.toList, df, rc, rd⟩ qs tm s tm2 s2 lg2 σ L :=
        ⟨hE, ok, rfl, rfl, rfl, hops, by rw [← his]; exact h1, h2, ord, ⟨i :: σ2, by rw [← his]; exact hσ⟩, sched, fits0⟩
      have hilt : i < ops.size := by have := ord.lt i (by rw [hσ]; simp); simpa using this
      obtain ⟨pre, suf, hLs⟩ := List.append_of_mem (hLall i hilt)
      have hin : ∀ j ∈ pre, j ∈ qs.map (·.i) := by
        intro j hj
        have hjL : j ∈ L := by rw [hLs]; simp [hj]
        have hjσ := ord.all j (by simpa using sched.mem j hjL)
        rw [hσ] at hjσ
        rcases List.mem_append.1 hjσ with h3 | h3
        · rw [← his]; exact h3
        · rcases List.mem_cons.1 h3 with rfl | h3
          · exact (mem_before sched.nodup hLs hj (.inl rfl)).elim
          · have hb := okLeft_mem hleft j h3
            obtain ⟨p1, p2, hp⟩ := List.append_of_mem hj
            have := cx.anc (pre := p1) (suf := p2 ++ i :: suf) (i := j) (by rw [hLs, hp]; simp) hb
            exact (mem_before sched.nodup hLs (j := i) (by rw [hp]; simp [this]) (.inl rfl)).elim
      obtain ⟨A, B, sp, m1, w1, fr1, g1, g2, g3, g4, g5, g6, g7⟩ := (start qs).walk cx (cs := cs) (K := k) gr pre (suf := i :: suf) (by rw [hLs]; simp) hin (by simp) ⟨_, _, _, _, cx.tr⟩ fr0 (by rw [← hLs]; simp [todoF]) (show VRs m tm _ from ar.tm)
      have hall : ∀ q ∈ B, (isAct (nthC (cls E ops.toList) q.i) = true ∨ isMake (nthC (cls E ops.toList) q.i) = true) → q.i ∈ [] ++ pre := by
        intro q hq hc
        have hq1 : q.i ∈ σ1 := by rw [his]; exact List.mem_map_of_mem (by rw [g1]; simp [hq])
        have := ord.acts σ1 i σ2 hσ hact q.i hq1 hc
        exact cx.anc hLs this
      obtain ⟨k1, k2⟩ := g3.close cx g1 g2 hall
      have hm : ∀ k p, m k = some p → m1 k = some p := k2.mono
      have hlk : ∀ t ∈ tmpsOf o ops.toList, lk (fin ⟨E, ops.toList, ancs ops.toList [], cls E ops.toList, df, rc, rd⟩ qs ([] ++ pre) tm) t = lk tm2 t := by
        intro t ht
        have e := h1.fin (qs0 := qs) (fun q hq => valOf_eq cx.nodup q hq)
        rw [e]
        refine fin_agree _ qs (ord.uniq (D := ⟨E, ops.toList, ancs ops.toList [], cls E ops.toList, df, rc, rd⟩)) ?_ tm
        intro j hj
        rw [List.nil_append]
        have nin : i ∉ pre := fun hh => mem_before sched.nodup hLs hh (.inl rfl)
        have nin1 : i ∉ σ1 := fun hh => mem_before ord.nodup hσ hh (.inl rfl)
        by_cases hne : j = i
        · subst hne; exact ⟨fun hh => absurd hh nin, fun hh => absurd hh nin1⟩
        · rcases OrdOK.look (D := ⟨E, ops.toList, ancs ops.toList [], cls E ops.toList, df, rc, rd⟩) ord ho ht hj hne with hb | hb
          · constructor
            · intro hh
              obtain ⟨p1, p2, hp⟩ := List.append_of_mem hh
              have := cx.anc (pre := p1) (suf := p2 ++ i :: suf) (i := j) (by rw [hLs, hp]; simp) hb
              exact absurd (by rw [hp]; simp [this]) nin
            · intro hh
              obtain ⟨p1, p2, hp⟩ := List.append_of_mem hh
              have := ord.early p1 j (p2 ++ i :: σ2) (by rw [hσ, hp]; simp) i hb
              exact absurd (by rw [hp]; simp [this]) nin1
          · exact ⟨fun _ => ord.early σ1 i σ2 hσ j hb, fun _ => cx.anc hLs hb⟩
      have hoA : ops[i]? = some o := by simpa using ho
      have hwant : Region.wanted o (yielded ops fr1.tmps) = true := by
        have h3 := wanted_rel (ops := ops.toList) (o := o) g7
        rw [wantedO_agree hlk, hw] at h3
        exact h3
      have hx : ∀ x ∈ o.op.operands, VR m1 (evl tm2 x) (fr1.eval x) := by
        intro x hxm
        rw [← evl_agree hlk x hxm]
        exact opd_rel (gr.mono hm) g7 (opsOk_mem hops o (List.mem_of_getElem? ho) x hxm)
      obtain ⟨m2, w2, v', f1, f2, f3, f4⟩ := act_pan (cs := cs) hE ok hoA g6 hwant g5.mode k1 (gr.mono hm) hx hap
      have hdf' : df = [] := hdf
      subst hdf'
      have hd0 : fr.defers = [] := by
        have := ar.df
        cases hfd : fr.defers with
        | nil => rfl
        | cons x xs => rw [hfd] at this; cases this
      refine ⟨m2, w2, _, cs, (Steps.head hdraw g4).trans f1, f2, ((Ext.draw m s w).trans k2).trans f3, ?_, ⟨⟨_, _, _, g6⟩, v', rfl, f4⟩, CsR.refl _ _⟩
      refine ⟨fun hh => absurd rfl (hh v rfl), ?_, ?_, g5.fn, g5.kind, g5.rnd⟩
      · show DfRs m2 [] fr1.defers
        rw [g5.df, hd0]; exact .nil
      · show OptR m2 rd fr1.roundOf
        rw [g5.rnd]; exact (ar.rd.mono hm).mono f3.mono
theorem run_sound {P : Program} {E : Env} (hE : EnvOK P E) (n : Nat) : Ok P E (run E n) := run_ok hE (drawn_ok hE) n
end Go.AM
