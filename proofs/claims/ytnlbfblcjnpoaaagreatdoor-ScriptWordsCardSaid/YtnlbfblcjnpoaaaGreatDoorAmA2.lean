/- An evaluator of the translated program (AM): values, memory, operations, texts; and what its words are. -/
import Derived.Test.YtnlbfblcjnpoaaaGreatDoorAmA
import GoSem.Core.Machine
namespace Go.AM
open Go

/-! ## how values of AM stand to values of the model -/
/-- of a key of AM's memory: the block, and how many cells that has -/
abbrev Mp := Nat → Option (Nat × Nat)
def isCell (v : Value) : Bool := match v with | .agg _ => false | .tuple _ => false | _ => true

inductive FnR (m : Mp) : Fn → Fn → Prop
  | func (f : FuncId) : FnR m (.func f) (.func f)
  | methodOf (t : TypeId) (n : String) : FnR m (.methodOf t n) (.methodOf t n)
  | yield {l b n : Nat} : m l = some (b, n) → FnR m (.yield l) (.yield b)

mutual
inductive VR (m : Mp) : Value → Value → Prop
  | bool (b : Bool) : VR m (.bool b) (.bool b)
  | int (k : IntKind) (n : Int) : VR m (.int k n) (.int k n)
  | string (s : ByteArray) : VR m (.string s) (.string s)
  | ptrNil : VR m (.pointer none) (.pointer none)
  | ptr {k b n : Nat} (o : Nat) : m k = some (b, n) → VR m (.pointer (some ⟨k, o, none⟩)) (.pointer (some ⟨b, o, none⟩))
  | sliceNil (l c : Nat) : VR m (.slice none l c) (.slice none l c)
  | slice {k b n : Nat} (o l c : Nat) : m k = some (b, n) → VR m (.slice (some ⟨k, o, none⟩) l c) (.slice (some ⟨b, o, none⟩) l c)
  | soft {k b n c' : Nat} (o l c e : Nat) : m k = some (b, n) → c ≤ c' → o + c' * e ≤ n → VR m (.slice (some ⟨k, o, some e⟩) l c) (.slice (some ⟨b, o, none⟩) l c')
  | mapNil : VR m (.map none) (.map none)
  | map {k b n : Nat} : m k = some (b, n) → VR m (.map (some k)) (.map (some b))
  | nilFunc : VR m .nilFunc .nilFunc
  | nilIface : VR m .nilIface .nilIface
  | func {f g : Fn} {a a' c c' : List Value} : FnR m f g → VRs m a a' → VRs m c c' → VR m (.func f ⟨a⟩ ⟨c⟩) (.func g ⟨a'⟩ ⟨c'⟩)
  | iface (t : TypeId) {v v' : Value} : VR m v v' → VR m (.iface t v) (.iface t v')
  | agg {xs ys : List Value} : VRs m xs ys → (∀ x ∈ xs, isCell x = true) → VR m (.agg ⟨xs⟩) (.agg ⟨ys⟩)
  | tuple {xs ys : List Value} : VRs m xs ys → VR m (.tuple ⟨xs⟩) (.tuple ⟨ys⟩)
inductive VRs (m : Mp) : List Value → List Value → Prop
  | nil : VRs m [] []
  | cons {x y : Value} {xs ys : List Value} : VR m x y → VRs m xs ys → VRs m (x :: xs) (y :: ys)
end

theorem FnR.mono {m m' : Mp} (h : ∀ k p, m k = some p → m' k = some p) {f g : Fn} (r : FnR m f g) : FnR m' f g := by
  cases r with
  | func f => exact .func f
  | methodOf t n => exact .methodOf t n
  | yield hl => exact .yield (h _ _ hl)

mutual
theorem VR.mono {m m' : Mp} (h : ∀ k p, m k = some p → m' k = some p) : ∀ {x y : Value}, VR m x y → VR m' x y
  | _, _, .bool b => .bool b
  | _, _, .int k n => .int k n
  | _, _, .string s => .string s
  | _, _, .ptrNil => .ptrNil
  | _, _, .ptr o hk => .ptr o (h _ _ hk)
  | _, _, .sliceNil l c => .sliceNil l c
  | _, _, .slice o l c hk => .slice o l c (h _ _ hk)
  | _, _, .soft o l c e hk h1 h2 => .soft o l c e (h _ _ hk) h1 h2
  | _, _, .mapNil => .mapNil
  | _, _, .map hk => .map (h _ _ hk)
  | _, _, .nilFunc => .nilFunc
  | _, _, .nilIface => .nilIface
  | _, _, .func hf ha hc => .func (hf.mono h) (VRs.mono h ha) (VRs.mono h hc)
  | _, _, .iface t hv => .iface t (VR.mono h hv)
  | _, _, .agg hs hp => .agg (VRs.mono h hs) hp
  | _, _, .tuple hs => .tuple (VRs.mono h hs)
theorem VRs.mono {m m' : Mp} (h : ∀ k p, m k = some p → m' k = some p) : ∀ {x y : List Value}, VRs m x y → VRs m' x y
  | _, _, .nil => .nil
  | _, _, .cons hx hs => .cons (VR.mono h hx) (VRs.mono h hs)
end

theorem VRs.length {m : Mp} : ∀ {x y : List Value}, VRs m x y → x.length = y.length
  | _, _, .nil => rfl
  | _, _, .cons _ h => by simp [VRs.length h]
theorem VRs.append {m : Mp} : ∀ {x y x' y' : List Value}, VRs m x y → VRs m x' y' → VRs m (x ++ x') (y ++ y')
  | _, _, _, _, .nil, h => h
  | _, _, _, _, .cons a h, h' => .cons a (VRs.append h h')
theorem VRs.take {m : Mp} : ∀ {x y : List Value} (n : Nat), VRs m x y → VRs m (x.take n) (y.take n)
  | _, _, 0, _ => by simpa using VRs.nil
  | _, _, n + 1, .nil => by simpa using VRs.nil
  | _, _, n + 1, .cons a h => by simpa using VRs.cons a (VRs.take n h)
theorem VRs.drop {m : Mp} : ∀ {x y : List Value} (n : Nat), VRs m x y → VRs m (x.drop n) (y.drop n)
  | _, _, 0, h => by simpa using h
  | _, _, n + 1, .nil => by simpa using VRs.nil
  | _, _, n + 1, .cons _ h => by simpa using VRs.drop n h
theorem VRs.get {m : Mp} : ∀ {x y : List Value} (n : Nat) {v : Value}, VRs m x y → x[n]? = some v → ∃ v', y[n]? = some v' ∧ VR m v v'
  | _, _, n, _, .nil, h => by simp at h
  | _, _, 0, _, .cons a _, h => by simp at h; subst h; exact ⟨_, by simp, a⟩
  | _, _, n + 1, _, .cons _ r, h => by simpa using VRs.get n r (by simpa using h)
theorem VRs.set {m : Mp} : ∀ {x y : List Value} (n : Nat) {v v' : Value}, VRs m x y → VR m v v' → VRs m (x.set n v) (y.set n v')
  | _, _, n, _, _, .nil, _ => by simpa using VRs.nil
  | _, _, 0, _, _, .cons _ r, h => by simpa using VRs.cons h r
  | _, _, n + 1, _, _, .cons a r, h => by simpa using VRs.cons a (VRs.set n r h)
theorem VRs.replicate {m : Mp} {v v' : Value} (h : VR m v v') : ∀ n, VRs m (List.replicate n v) (List.replicate n v')
  | 0 => by simpa using VRs.nil
  | n + 1 => by simpa [List.replicate_succ] using VRs.cons h (VRs.replicate h n)
theorem VRs.of_append {m : Mp} : ∀ {x x' y : List Value}, VRs m (x ++ x') y → ∃ y1 y2, y = y1 ++ y2 ∧ VRs m x y1 ∧ VRs m x' y2
  | [], _, y, h => ⟨[], y, rfl, .nil, h⟩
  | _ :: x, x', _, .cons a r => by
    obtain ⟨y1, y2, rfl, h1, h2⟩ := VRs.of_append (x := x) r
    exact ⟨_ :: y1, y2, rfl, .cons a h1, h2⟩
theorem VRs.map {m : Mp} {α : Type} {f g : α → Value} (h : ∀ a, VR m (f a) (g a)) : ∀ l : List α, VRs m (l.map f) (l.map g)
  | [] => by simpa using VRs.nil
  | a :: l => by simpa using VRs.cons (h a) (VRs.map h l)
theorem VR.undef {m : Mp} : VR m undef undef := .tuple .nil
theorem VRs.lk {m : Mp} {x y : List Value} (h : VRs m x y) (i : Nat) : VR m (lk x i) (y.getD i Go.undef) := by
  rw [lk_eq]
  cases hx : x[i]? with
  | none =>
    have h1 : x.length ≤ i := by simpa using hx
    have h2 : y.length ≤ i := by rw [← h.length]; exact h1
    simp [List.getD, hx, List.getElem?_eq_none h2]
    exact VR.undef
  | some v =>
    obtain ⟨v', h1, h2⟩ := VRs.get i h hx
    simp [List.getD, hx, h1]; exact h2
theorem VR.isCell {m : Mp} {x y : Value} (h : VR m x y) : isCell y = isCell x := by cases h <;> rfl
theorem VRs.cells {m : Mp} : ∀ {x y : List Value}, VRs m x y → (∀ v ∈ x, AM.isCell v = true) → ∀ v ∈ y, AM.isCell v = true
  | _, _, .nil, _ => by simp
  | _, _, .cons a r, h => by
    intro v hv
    rcases List.mem_cons.1 hv with rfl | hv
    · rw [a.isCell]; exact h _ (by simp)
    · exact VRs.cells r (fun v hv => h v (by simp [hv])) v hv

/-- the cells that a value fills, on both sides -/
theorem flat_rel {m : Mp} {x y : Value} {cs : List Value} (h : VR m x y) (hf : flat x = some cs) :
    VRs m cs y.cells.toList ∧ ∀ v ∈ cs, isCell v = true := by
  cases h <;> simp only [flat, Option.some.injEq, reduceCtorEq] at hf <;>
    first
    | (subst hf; exact ⟨by simpa [Value.cells] using ‹VRs m _ _›, ‹_›⟩)
    | (subst hf; exact ⟨.cons (by constructor <;> assumption) .nil, by simp [isCell]⟩)

/-! ## how memory of AM stands to the model's -/
def frozenOk (k : CK) (fr : Nat × Nat) (n : Nat) : Prop :=
  match k with
  | .rw => fr = (0, 0)
  | .sb => fr.2 ≤ fr.1 ∨ n ≤ fr.1
  | .ro => True
structure MER (m : Mp) (e : ME) (e' : MapEntry) : Prop where
  key : VR m e.key e'.key
  val : VR m e.val e'.val
  born : e'.born = e.born
inductive MERs (m : Mp) : List ME → List MapEntry → Prop
  | nil : MERs m [] []
  | cons {x : ME} {y : MapEntry} {xs : List ME} {ys : List MapEntry} : MER m x y → MERs m xs ys → MERs m (x :: xs) (y :: ys)
structure LR (m : Mp) (l : Lp) (l' : Loop) : Prop where
  tmps : VRs m l.tmps l'.tmps.toList
  params : l'.params.toList = l.params
  assign : l'.assign = l.assign
  body : l'.body = l.body
  state : l'.state = l.state
  pending : l'.pending = l.pending
  defers : ∃ n, m l.defers = some (l'.defers, n)
inductive OptR (m : Mp) : Option Nat → Option Nat → Prop
  | no : OptR m none none
  | yes {k b n : Nat} : m k = some (b, n) → OptR m (some k) (some b)
inductive OR (m : Mp) : Ob → Obj → Nat → Prop
  | cells {xs ys zs : List Value} {k : CK} {e e' : TypeId} {fr : Nat × Nat} : VRs m xs ys → (∀ x ∈ xs, isCell x = true) → frozenOk k fr (ys ++ zs).length →
      (k = .ro ∨ e' = e) → OR m (.cells xs k e) (.cells ⟨ys ++ zs⟩ e' fr) (ys ++ zs).length
  | map {es : List ME} {es' : List MapEntry} (c n : Nat) : MERs m es es' → OR m (.map es c) (.map ⟨es'⟩ c) n
  | iter {r r' : Option Nat} (a : Nat) (b : List Nat) (c n : Nat) : OptR m r r' → OR m (.iter r a b c) (.mapIter r' a ⟨b⟩ c) n
  | loop {l : Lp} {l' : Loop} (n : Nat) : LR m l l' → OR m (.loop l) (.loop l') n
  | defd (t : Bool) (n : Nat) : OR m (.defd t) (.deferred (if t then none else some [])) n

theorem MER.mono {m m' : Mp} (h : ∀ k p, m k = some p → m' k = some p) {e : ME} {e' : MapEntry} (r : MER m e e') : MER m' e e' :=
  ⟨r.key.mono h, r.val.mono h, r.born⟩
theorem MERs.mono {m m' : Mp} (h : ∀ k p, m k = some p → m' k = some p) : ∀ {e : List ME} {e' : List MapEntry}, MERs m e e' → MERs m' e e'
  | _, _, .nil => .nil
  | _, _, .cons a r => .cons (a.mono h) (MERs.mono h r)
theorem MERs.length {m : Mp} : ∀ {e : List ME} {e' : List MapEntry}, MERs m e e' → e.length = e'.length
  | _, _, .nil => rfl
  | _, _, .cons _ r => by simp [MERs.length r]
theorem MERs.append {m : Mp} : ∀ {x : List ME} {y : List MapEntry} {x' : List ME} {y' : List MapEntry}, MERs m x y → MERs m x' y' → MERs m (x ++ x') (y ++ y')
  | _, _, _, _, .nil, h => h
  | _, _, _, _, .cons a h, h' => .cons a (MERs.append h h')
theorem LR.mono {m m' : Mp} (h : ∀ k p, m k = some p → m' k = some p) {l : Lp} {l' : Loop} (r : LR m l l') : LR m' l l' :=
  ⟨r.tmps.mono h, r.params, r.assign, r.body, r.state, r.pending, let ⟨n, hn⟩ := r.defers; ⟨n, h _ _ hn⟩⟩
theorem OptR.mono {m m' : Mp} (h : ∀ k p, m k = some p → m' k = some p) {a b : Option Nat} (r : OptR m a b) : OptR m' a b := by
  cases r with
  | no => exact .no
  | yes hk => exact .yes (h _ _ hk)
theorem OR.mono {m m' : Mp} (h : ∀ k p, m k = some p → m' k = some p) {o : Ob} {o' : Obj} {n : Nat} (r : OR m o o' n) : OR m' o o' n := by
  cases r with
  | cells a b c d => exact .cells (a.mono h) b c d
  | map c n a => exact .map c n (a.mono h)
  | iter a b c n r => exact .iter a b c n (r.mono h)
  | loop n a => exact .loop n (a.mono h)
  | defd t n => exact .defd t n

def isRo (o : Ob) : Prop := match o with | .cells _ .ro _ => True | _ => False

structure Rel (m : Mp) (s : St) (w : World) : Prop where
  ob : ∀ k o, T.get s.heap k = some o → ∃ b n o', m k = some (b, n) ∧ w.heap[b]? = some o' ∧ OR m o o' n
  inj : ∀ k k' o o' b n n', T.get s.heap k = some o → T.get s.heap k' = some o' → m k = some (b, n) → m k' = some (b, n') → k = k'
  low : ∀ k, s.next ≤ k → m k = none
  rng : ∀ k b n, m k = some (b, n) → b < w.heap.size

/-- from one pair of states to a later one -/
structure Ext (m : Mp) (s : St) (w : World) (m' : Mp) (s' : St) (w' : World) : Prop where
  mono : ∀ k p, m k = some p → m' k = some p
  keep : ∀ b, b < w.heap.size → (∀ k o n, T.get s.heap k = some o → m k = some (b, n) → isRo o) → w'.heap[b]? = w.heap[b]?
  own : ∀ k o b n, T.get s'.heap k = some o → m' k = some (b, n) → b < w.heap.size →
    ∃ k0 o0 n0, T.get s.heap k0 = some o0 ∧ m k0 = some (b, n0) ∧ (isRo o0 → isRo o)
  size : w.heap.size ≤ w'.heap.size
  next : s.next ≤ s'.next
  os : w'.os = w.os
  tape : w'.tape = w.tape
  output : w'.output = w.output
  old : ∀ k, k < s.next → m' k = m k

theorem Ext.refl (m : Mp) (s : St) (w : World) : Ext m s w m s w :=
  ⟨fun _ _ h => h, fun _ _ _ => rfl, fun k o _ n h hm _ => ⟨k, o, n, h, hm, id⟩, Nat.le_refl _, Nat.le_refl _, rfl, rfl, rfl, fun _ _ => rfl⟩
theorem Ext.trans {m m' m'' : Mp} {s s' s'' : St} {w w' w'' : World} (a : Ext m s w m' s' w') (b : Ext m' s' w' m'' s'' w'') : Ext m s w m'' s'' w'' where
  mono k p h := b.mono k p (a.mono k p h)
  keep q hq hn := by
    rw [b.keep q (Nat.lt_of_lt_of_le hq a.size) ?_, a.keep q hq hn]
    intro k o n hk hm
    obtain ⟨k0, o0, n0, h1, h2, h3⟩ := a.own k o q n hk hm hq
    exact h3 (hn k0 o0 n0 h1 h2)
  own k o q n hk hm hq := by
    obtain ⟨k1, o1, n1, h1, h2, h3⟩ := b.own k o q n hk hm (Nat.lt_of_lt_of_le hq a.size)
    obtain ⟨k0, o0, n0, g1, g2, g3⟩ := a.own k1 o1 q n1 h1 h2 hq
    exact ⟨k0, o0, n0, g1, g2, fun h => h3 (g3 h)⟩
  size := Nat.le_trans a.size b.size
  next := Nat.le_trans a.next b.next
  os := b.os.trans a.os
  tape := b.tape.trans a.tape
  output := b.output.trans a.output
  old k h := (b.old k (Nat.lt_of_lt_of_le h a.next)).trans (a.old k h)

theorem Rel.fresh {m : Mp} {s : St} {w : World} (r : Rel m s w) {k : Nat} (h : s.next ≤ k) : T.get s.heap k = none := by
  cases hg : T.get s.heap k with
  | none => rfl
  | some o =>
    obtain ⟨b, n, o', hm, _⟩ := r.ob k o hg
    rw [r.low k h] at hm; cases hm

/-! ### a new block -/
def setM (m : Mp) (k b n : Nat) : Mp := fun j => if j = k then some (b, n) else m j
theorem setM_mono {m : Mp} {k b n : Nat} (h : m k = none) : ∀ j p, m j = some p → setM m k b n j = some p := by
  intro j p hj
  unfold setM
  rw [if_neg]
  · exact hj
  · rintro rfl; rw [h] at hj; cases hj

def pushW (w : World) (o : Obj) : World := { w with heap := w.heap.push o }
theorem Rel.new {m : Mp} {s : St} {w : World} (r : Rel m s w) {o : Ob} {o' : Obj} {n : Nat} (h : OR (setM m s.next w.heap.size n) o o' n) :
    Rel (setM m s.next w.heap.size n) (s.new o) (pushW w o') ∧ Ext m s w (setM m s.next w.heap.size n) (s.new o) (pushW w o') := by
  have hnone : m s.next = none := r.low _ (Nat.le_refl _)
  have hmono := setM_mono (b := w.heap.size) (n := n) hnone
  have hget : ∀ k, T.get (s.new o).heap k = if k = s.next then some o else T.get s.heap k := fun k => T.get_set _ _ _ _
  have hnext : (s.new o).next = s.next + 1 := rfl
  have hold : ∀ b, b < w.heap.size → (w.heap.push o')[b]? = w.heap[b]? := by
    intro b hb; rw [Array.getElem?_push, if_neg (by omega)]
  refine ⟨⟨?_, ?_, ?_, ?_⟩, ⟨hmono, fun b hb _ => hold b hb, ?_, by simp [pushW], by rw [hnext]; omega, rfl, rfl, rfl, fun k hk => by unfold setM; rw [if_neg (by omega)]⟩⟩
  · intro k ob hk
    rw [hget] at hk
    by_cases he : k = s.next
    · rw [if_pos he] at hk; injection hk with hk; subst hk; subst he
      exact ⟨w.heap.size, n, o', by simp [setM], by simp [pushW], h⟩
    · rw [if_neg he] at hk
      obtain ⟨b, nn, o1, h1, h2, h3⟩ := r.ob k ob hk
      refine ⟨b, nn, o1, hmono _ _ h1, ?_, h3.mono hmono⟩
      show (w.heap.push o')[b]? = _
      rw [hold b (r.rng k b nn h1)]; exact h2
  · intro k k' a b q n1 n2 hk hk' hm hm'
    rw [hget] at hk hk'
    unfold setM at hm hm'
    by_cases he : k = s.next <;> by_cases he' : k' = s.next
    · rw [he, he']
    · rw [if_pos he] at hm; rw [if_neg he'] at hm'; injection hm with hm; injection hm with h1 h2; subst h1
      exact absurd (r.rng _ _ _ hm') (by omega)
    · rw [if_neg he] at hm; rw [if_pos he'] at hm'; injection hm' with hm'; injection hm' with h1 h2; subst h1
      exact absurd (r.rng _ _ _ hm) (by omega)
    · rw [if_neg he] at hk hm; rw [if_neg he'] at hk' hm'
      exact r.inj k k' a b q n1 n2 hk hk' hm hm'
  · intro k hk
    rw [hnext] at hk
    unfold setM; rw [if_neg (by omega)]; exact r.low k (by omega)
  · intro k b nn hm
    unfold setM at hm
    show b < (w.heap.push o').size
    rw [Array.size_push]
    by_cases he : k = s.next
    · rw [if_pos he] at hm; injection hm with hm; injection hm with h1 h2; omega
    · rw [if_neg he] at hm; have := r.rng k b nn hm; omega
  · intro k ob b nn hk hm hb
    rw [hget] at hk
    unfold setM at hm
    by_cases he : k = s.next
    · rw [if_pos he] at hm; injection hm with hm; injection hm with h1 h2; omega
    · rw [if_neg he] at hk hm; exact ⟨k, ob, nn, hk, hm, id⟩

/-! ### a block is another one -/
def putW (w : World) (b : Nat) (o : Obj) : World := { w with heap := w.heap.setIfInBounds b o }
theorem Rel.put {m : Mp} {s : St} {w : World} (r : Rel m s w) {k b n : Nat} {o0 o : Ob} {o' : Obj} (hk : T.get s.heap k = some o0) (hnro : ¬ isRo o0)
    (hm : m k = some (b, n)) (h : OR m o o' n) : Rel m (s.put k (some o)) (putW w b o') ∧ Ext m s w m (s.put k (some o)) (putW w b o') := by
  have hget : ∀ j, T.get (s.put k (some o)).heap j = if j = k then some o else T.get s.heap j := fun j => T.get_set _ _ _ _
  have hb := r.rng k b n hm
  have hsame : (w.heap.setIfInBounds b o')[b]? = some o' := by rw [Array.getElem?_setIfInBounds_self]; simp [hb]
  have hother : ∀ c, c ≠ b → (w.heap.setIfInBounds b o')[c]? = w.heap[c]? := by
    intro c hc; rw [Array.getElem?_setIfInBounds_ne (by omega)]
  refine ⟨⟨?_, ?_, r.low, ?_⟩, ⟨fun _ _ h => h, ?_, ?_, by simp [putW], Nat.le_refl _, rfl, rfl, rfl, fun _ _ => rfl⟩⟩
  · intro j ob hj
    rw [hget] at hj
    by_cases he : j = k
    · rw [if_pos he] at hj; injection hj with hj; subst hj; subst he
      exact ⟨b, n, o', hm, hsame, h⟩
    · rw [if_neg he] at hj
      obtain ⟨c, nn, o1, h1, h2, h3⟩ := r.ob j ob hj
      refine ⟨c, nn, o1, h1, ?_, h3⟩
      show (w.heap.setIfInBounds b o')[c]? = _
      rw [hother c]; exact h2
      rintro rfl; exact he (r.inj j k _ _ _ _ _ hj hk h1 hm)
  · intro j j' a c q n1 n2 hj hj' h1 h2
    rw [hget] at hj hj'
    have f : ∀ i x, (if i = k then some o else T.get s.heap i) = some x → ∃ y, T.get s.heap i = some y := by
      intro i x hx
      by_cases he : i = k
      · subst he; exact ⟨_, hk⟩
      · rw [if_neg he] at hx; exact ⟨_, hx⟩
    obtain ⟨y, hy⟩ := f _ _ hj
    obtain ⟨y', hy'⟩ := f _ _ hj'
    exact r.inj j j' y y' q n1 n2 hy hy' h1 h2
  · intro j c nn hj
    show c < (w.heap.setIfInBounds b o').size
    rw [Array.size_setIfInBounds]; exact r.rng j c nn hj
  · intro c hc hn
    apply hother
    rintro rfl
    exact hnro (hn k o0 n hk hm)
  · intro j ob c nn hj hmj _
    rw [hget] at hj
    by_cases he : j = k
    · rw [if_pos he] at hj; injection hj with hj; subst hj; subst he
      exact ⟨j, o0, nn, hk, hmj, fun h => absurd h hnro⟩
    · rw [if_neg he] at hj; exact ⟨j, ob, nn, hj, hmj, id⟩

/-! ### a block that is not spoken of any more -/
theorem Rel.drop {m : Mp} {s : St} {w : World} (r : Rel m s w) (k : Nat) : Rel m (s.put k none) w ∧ Ext m s w m (s.put k none) w := by
  have hget : ∀ j, T.get (s.put k none).heap j = if j = k then none else T.get s.heap j := fun j => T.get_set _ _ _ _
  have f : ∀ i x, (if i = k then none else T.get s.heap i) = some x → T.get s.heap i = some x := by
    intro i x hx
    by_cases he : i = k
    · rw [if_pos he] at hx; cases hx
    · rw [if_neg he] at hx; exact hx
  refine ⟨⟨?_, ?_, r.low, r.rng⟩, ⟨fun _ _ h => h, fun _ _ _ => rfl, ?_, Nat.le_refl _, Nat.le_refl _, rfl, rfl, rfl, fun _ _ => rfl⟩⟩
  · intro j ob hj; rw [hget] at hj; exact r.ob j ob (f _ _ hj)
  · intro j j' a c q n1 n2 hj hj' h1 h2
    rw [hget] at hj hj'
    exact r.inj j j' a c q n1 n2 (f _ _ hj) (f _ _ hj') h1 h2
  · intro j ob c nn hj hmj _
    rw [hget] at hj
    exact ⟨j, ob, nn, f _ _ hj, hmj, id⟩

/-! ### a draw -/
def drawW (w : World) : World := { w with drawn := w.drawn + 1 }
theorem Rel.draw {m : Mp} {s : St} {w : World} (r : Rel m s w) : Rel m s (drawW w) := ⟨r.ob, r.inj, r.low, r.rng⟩
theorem Ext.draw (m : Mp) (s : St) (w : World) : Ext m s w m s (drawW w) :=
  ⟨fun _ _ h => h, fun _ _ _ => rfl, fun k o _ n h hm _ => ⟨k, o, n, h, hm, id⟩, Nat.le_refl _, Nat.le_refl _, rfl, rfl, rfl, fun _ _ => rfl⟩

/-! ### a block that has grown in place: another key for it -/
theorem Rel.rename {m : Mp} {s : St} {w : World} (r : Rel m s w) {k b n : Nat} {o0 o : Ob} {o' : Obj} (hk : T.get s.heap k = some o0) (hnro : ¬ isRo o0)
    (hm : m k = some (b, n)) (h : OR (setM m s.next b n) o o' n) :
    Rel (setM m s.next b n) ((s.put k none).new o) (putW w b o') ∧ Ext m s w (setM m s.next b n) ((s.put k none).new o) (putW w b o') := by
  have hnone : m s.next = none := r.low _ (Nat.le_refl _)
  have hkn : k ≠ s.next := by rintro rfl; rw [hnone] at hm; cases hm
  have hmono := setM_mono (b := b) (n := n) hnone
  have hget : ∀ j, T.get ((s.put k none).new o).heap j = if j = s.next then some o else if j = k then none else T.get s.heap j := by
    intro j
    show T.get (T.set (T.set s.heap k none) s.next (some o)) j = _
    rw [T.get_set, T.get_set]
  have hnext : ((s.put k none).new o).next = s.next + 1 := rfl
  have hb := r.rng k b n hm
  have hsame : (w.heap.setIfInBounds b o')[b]? = some o' := by rw [Array.getElem?_setIfInBounds_self]; simp [hb]
  have hother : ∀ c, c ≠ b → (w.heap.setIfInBounds b o')[c]? = w.heap[c]? := by
    intro c hc; rw [Array.getElem?_setIfInBounds_ne (by omega)]
  have hfresh : T.get s.heap s.next = none := r.fresh (Nat.le_refl _)
  refine ⟨⟨?_, ?_, ?_, ?_⟩, ⟨hmono, ?_, ?_, by simp [putW], by rw [hnext]; omega, rfl, rfl, rfl, fun k hk => by unfold setM; rw [if_neg (by omega)]⟩⟩
  · intro j ob hj
    rw [hget] at hj
    by_cases he : j = s.next
    · rw [if_pos he] at hj; injection hj with hj; subst hj; subst he
      exact ⟨b, n, o', by simp [setM], hsame, h⟩
    · rw [if_neg he] at hj
      by_cases he2 : j = k
      · rw [if_pos he2] at hj; cases hj
      · rw [if_neg he2] at hj
        obtain ⟨c, nn, o1, h1, h2, h3⟩ := r.ob j ob hj
        refine ⟨c, nn, o1, hmono _ _ h1, ?_, h3.mono hmono⟩
        show (w.heap.setIfInBounds b o')[c]? = _
        rw [hother c]; exact h2
        rintro rfl; exact he2 (r.inj j k _ _ _ _ _ hj hk h1 hm)
  · have f : ∀ j x q nn, (if j = s.next then some o else if j = k then none else T.get s.heap j) = some x → setM m s.next b n j = some (q, nn) →
        (j = s.next ∧ q = b) ∨ (j ≠ s.next ∧ j ≠ k ∧ T.get s.heap j = some x ∧ m j = some (q, nn)) := by
      intro j x q nn hx hmj
      unfold setM at hmj
      by_cases he : j = s.next
      · rw [if_pos he] at hmj; injection hmj with hmj; injection hmj with h1 h2; exact .inl ⟨he, h1.symm⟩
      · rw [if_neg he] at hx hmj
        by_cases he2 : j = k
        · rw [if_pos he2] at hx; cases hx
        · rw [if_neg he2] at hx; exact .inr ⟨he, he2, hx, hmj⟩
    intro j j' a c q n1 n2 hj hj' h1 h2
    rw [hget] at hj hj'
    rcases f _ _ _ _ hj h1 with ⟨e1, e2⟩ | ⟨e1, e2, e3, e4⟩ <;> rcases f _ _ _ _ hj' h2 with ⟨g1, g2⟩ | ⟨g1, g2, g3, g4⟩
    · rw [e1, g1]
    · subst e2; exact absurd (r.inj j' k _ _ _ _ _ g3 hk g4 hm) g2
    · subst g2; exact absurd (r.inj j k _ _ _ _ _ e3 hk e4 hm) e2
    · exact r.inj j j' a c q n1 n2 e3 g3 e4 g4
  · intro j hj
    rw [hnext] at hj
    unfold setM; rw [if_neg (by omega)]; exact r.low j (by omega)
  · intro j c nn hj
    show c < (w.heap.setIfInBounds b o').size
    rw [Array.size_setIfInBounds]
    unfold setM at hj
    by_cases he : j = s.next
    · rw [if_pos he] at hj; injection hj with hj; injection hj with h1 h2; omega
    · rw [if_neg he] at hj; exact r.rng j c nn hj
  · intro c hc hn
    apply hother
    rintro rfl
    exact hnro (hn k o0 n hk hm)
  · intro j ob c nn hj hmj _
    rw [hget] at hj
    unfold setM at hmj
    by_cases he : j = s.next
    · rw [if_pos he] at hmj; injection hmj with hmj; injection hmj with h1 h2; subst h1
      exact ⟨k, o0, n, hk, hm, fun h => absurd h hnro⟩
    · rw [if_neg he] at hj hmj
      by_cases he2 : j = k
      · rw [if_pos he2] at hj; cases hj
      · rw [if_neg he2] at hj; exact ⟨j, ob, nn, hj, hmj, id⟩
end Go.AM
