/- The tables are held against the program by the kernel. -/
import Derived.Test.YtnlbfblcjnpoaaaGreatDoorAmF
import Derived.Test.YtnlbfblcjnpoaaaGreatDoorAmTab
import Derived.Lib.Bytealg
import Derived.KernelRfl
namespace Go.AM
open Go
/-! ## AM's tables hold what the program says -/
noncomputable section
def sizeB (P : Program) (t n : Nat) : Bool := match P.info? t with | some i => Nat.beq i.size n | none => false
def fieldsB (gs : List Field) : List (Nat × Nat × Nat) → Bool :=
  List.rec (motive := fun _ => List (Nat × Nat × Nat) → Bool) (fun fs => match fs with | [] => true | _ :: _ => false)
    (fun g _ ih fs => match fs with | [] => false | f :: fs => match Nat.beq g.offset f.1, Nat.beq g.type f.2.1 with | true, true => ih fs | _, _ => false) gs
def sizesB (P : Program) (fs : List (Nat × Nat × Nat)) : Bool := List.rec (motive := fun _ => Bool) true (fun f _ ih => match sizeB P f.2.1 f.2.2 with | true => ih | false => false) fs
def krB (P : Program) (t : TypeId) (k : TK) : Bool :=
  match k with
  | .int k => (match P.underlying t with | some (.int j) => kEq j k | _ => false)
  | .bool => (match P.underlying t with | some .bool => true | _ => false)
  | .str => (match P.underlying t with | some .string => true | _ => false)
  | .ptr e n => (match P.underlying t with | some (.pointer e') => (match Nat.beq e' e with | true => sizeB P e n | false => false) | _ => false)
  | .uptr => (match P.underlying t with | some .unsafePointer => true | _ => false)
  | .slice e n b => (match P.underlying t with
    | some (.slice e') => (match Nat.beq e' e with
      | true => (match P.info? e with
        | some i => (match Nat.beq i.size n, Nat.beq i.bytes b with
          | true, true => (match i.zero with | some z => Nat.beq z.cells.size n | none => false)
          | _, _ => false)
        | none => false)
      | false => false)
    | _ => false)
  | .array l e n => (match P.underlying t with | some (.array l' e') => (match Nat.beq l' l, Nat.beq e' e with | true, true => sizeB P e n | _, _ => false) | _ => false)
  | .struct fs => (match P.underlying t with | some (.struct gs) => (match fieldsB gs.toList fs with | true => sizesB P fs | false => false) | _ => false)
  | .map k e => (match P.underlying t with | some (.map k' e') => (match Nat.beq k' k with | true => Nat.beq e' e | false => false) | _ => false)
  | .func => (match P.underlying t with | some (.func _ _ _) => true | _ => false)
  | .iface => (match P.underlying t with | some (.interface _) => true | _ => false)
  | .other => false
theorem sizeB_ok {P : Program} {t n : Nat} (h : sizeB P t n = true) : SizeIs P t n := by
  unfold sizeB at h
  split at h
  · rename_i i hi; exact ⟨i, hi, Nat.beq_eq.mp h⟩
  · cases h
theorem fieldsB_ok : ∀ {gs : List Field} {fs : List (Nat × Nat × Nat)}, fieldsB gs fs = true → gs.map (fun f => (f.offset, f.type)) = fs.map (fun f => (f.1, f.2.1))
  | [], [], _ => rfl
  | [], _ :: _, h => by cases h
  | _ :: _, [], h => by cases h
  | g :: gs, f :: fs, h => by
    have h' : (match Nat.beq g.offset f.1, Nat.beq g.type f.2.1 with | true, true => fieldsB gs fs | _, _ => false) = true := h
    split at h'
    · rename_i h1 h2
      rw [List.map_cons, List.map_cons, fieldsB_ok h', Nat.beq_eq.mp h1, Nat.beq_eq.mp h2]
    · cases h'
theorem sizesB_ok {P : Program} : ∀ {fs : List (Nat × Nat × Nat)}, sizesB P fs = true → ∀ f ∈ fs, SizeIs P f.2.1 f.2.2
  | [], _, f, hf => by simp at hf
  | g :: fs, h, f, hf => by
    have h' : (match sizeB P g.2.1 g.2.2 with | true => sizesB P fs | false => false) = true := h
    obtain ⟨h1, h2⟩ := and_match h'
    rcases List.mem_cons.1 hf with rfl | hf
    · exact sizeB_ok h1
    · exact sizesB_ok h2 f hf
theorem krB_ok {P : Program} {t : TypeId} {k : TK} (h : krB P t k = true) : KR P t k := by
  unfold krB at h
  split at h
  · split at h
    · rename_i hu; rw [kEq_eq h] at hu; exact hu
    · cases h
  · split at h
    · assumption
    · cases h
  · split at h
    · assumption
    · cases h
  · split at h
    · rename_i hu
      obtain ⟨h1, h2⟩ := and_match h
      rw [Nat.beq_eq] at h1; subst h1
      exact ⟨hu, sizeB_ok h2⟩
    · cases h
  · split at h
    · assumption
    · cases h
  · split at h
    · rename_i e' hu
      split at h
      · rename_i he
        rw [Nat.beq_eq] at he; subst he
        split at h
        · rename_i i hi
          split at h
          · rename_i h1 h2
            split at h
            · rename_i z hz
              exact ⟨hu, i, hi, Nat.beq_eq.mp h1, Nat.beq_eq.mp h2, z, hz, Nat.beq_eq.mp h⟩
            · cases h
          · cases h
        · cases h
      · cases h
    · cases h
  · split at h
    · rename_i hu
      split at h
      · rename_i h1 h2
        rw [Nat.beq_eq] at h1 h2; subst h1; subst h2
        exact ⟨hu, sizeB_ok h⟩
      · cases h
    · cases h
  · split at h
    · rename_i gs hu
      obtain ⟨h1, h2⟩ := and_match h
      exact ⟨gs, hu, fieldsB_ok h1, sizesB_ok h2⟩
    · cases h
  · split at h
    · rename_i hu
      obtain ⟨h1, h2⟩ := and_match h
      rw [Nat.beq_eq] at h1 h2; subst h1; subst h2
      exact hu
    · cases h
  · split at h
    · rename_i a b c hu; exact ⟨a, b, c, hu⟩
    · cases h
  · split at h
    · rename_i ms hu; exact ⟨ms, hu⟩
    · cases h
  · cases h
/-- the zero value -/
def zeroB (agg : Bool) (z : Value) (zs : List Value) : Bool :=
  match agg, z with
  | true, .agg cs => alikeL cs.toList zs
  | true, _ => false
  | false, .agg _ => false
  | false, .tuple _ => false
  | false, v => alikeL [v] zs
theorem zeroB_ok {agg : Bool} {z : Value} {zs : List Value} (h : zeroB agg z zs = true) : z.cells.toList = zs ∧ (agg = true → z = .agg ⟨zs⟩) ∧ (agg = false → zs = [z]) := by
  unfold zeroB at h
  split at h
  · rename_i cs
    have := alikeL_eq h
    subst this
    exact ⟨rfl, fun _ => rfl, fun h => by cases h⟩
  · cases h
  · cases h
  · cases h
  · rename_i v h1 h2
    have := alikeL_eq h
    subst this
    refine ⟨?_, by simp, by simp⟩
    cases z <;> first | rfl | (exact absurd rfl (h1 _)) | (exact absurd rfl (h2 _))
def ptrB (P : Program) (t : TypeId) : Bool := match P.underlying t with | some (.pointer _) => true | _ => false
def methB (P : Program) (t : TypeId) (i : TypeInfo) (n : String) (f : FuncId) : Bool :=
  match i.methods.find? (fun x => x.name == n) with
  | some mm => match mm.path.toList with
    | [] => (match mm.func with | some (g, pr) => (match Nat.beq g f, pr, ptrB P t with | true, true, true => true | true, false, false => true | _, _, _ => false) | none => false)
    | _ => false
  | none => false
def methsB (P : Program) (t : TypeId) (i : TypeInfo) (l : List (String × FuncId)) : Bool := List.rec (motive := fun _ => Bool) true (fun x _ ih => match methB P t i x.1 x.2 with | true => ih | false => false) l
theorem methB_ok {P : Program} {t : TypeId} {i : TypeInfo} {n : String} {f : FuncId} (h : methB P t i n f = true) :
    ∃ mm pr, i.methods.find? (fun x => x.name == n) = some mm ∧ mm.path = #[] ∧ mm.func = some (f, pr) ∧ pr = (match P.underlying t with | some (.pointer _) => true | _ => false) := by
  unfold methB at h
  split at h
  · rename_i mm hm
    split at h
    · rename_i hp
      split at h
      · rename_i g pr hf
        have hp' : mm.path = #[] := by rw [← Array.toList_eq_nil_iff]; exact hp
        split at h
        · rename_i h1 h3
          rw [Nat.beq_eq] at h1; subst h1
          exact ⟨mm, _, hm, hp', hf, h3.symm⟩
        · rename_i h1 h3
          rw [Nat.beq_eq] at h1; subst h1
          exact ⟨mm, _, hm, hp', hf, h3.symm⟩
        · cases h
      · cases h
    · cases h
  · cases h
theorem methsB_ok {P : Program} {t : TypeId} {i : TypeInfo} : ∀ {l : List (String × FuncId)}, methsB P t i l = true → ∀ n f, findM n l = some f → methB P t i n f = true
  | [], _, n, f, h => by cases h
  | x :: l, h, n, f, hf => by
    have h' : (match methB P t i x.1 x.2 with | true => methsB P t i l | false => false) = true := h
    obtain ⟨h1, h2⟩ := and_match h'
    have hf' : (match decide (x.1 = n) with | true => some x.2 | false => findM n l) = some f := hf
    split at hf'
    · rename_i hd
      have := of_decide_eq_true hd
      subst this
      injection hf' with hf'; subst hf'
      exact h1
    · exact methsB_ok h2 n f hf'
def tyB (P : Program) (t : TypeId) (x : TI) : Bool :=
  match krB P t x.k, allOk x.zero, Nat.beq (lenV x.zero) x.size, x.eqs with
  | true, true, true, false => match P.info? t with
    | some i => match Nat.beq i.size x.size, i.zero with
      | true, some z => (match zeroB (aggK x.k) z x.zero with | true => methsB P t i x.meths | false => false)
      | _, _ => false
    | none => false
  | _, _, _, _ => false
theorem tyB_ok {P : Program} {t : TypeId} {x : TI} (h : tyB P t x = true) : TyR P t x := by
  unfold tyB at h
  split at h
  · rename_i h1 h2 h3 h4
    split at h
    · rename_i i hi
      split at h
      · rename_i z h5 hz
        obtain ⟨h6, h7⟩ := and_match h
        obtain ⟨g1, g2, g3⟩ := zeroB_ok h6
        rw [Nat.beq_eq, lenV_eq] at h3
        refine ⟨krB_ok h1, ⟨i, z, hi, Nat.beq_eq.mp h5, hz, g1, g2, g3⟩, fun m => (allOk_rel h2).1, (allOk_rel (m := fun _ => none) h2).2, h3, h4, ?_⟩
        intro n f hf
        obtain ⟨mm, pr, k1, k2, k3, k4⟩ := methB_ok (methsB_ok h7 n f hf)
        exact ⟨i, mm, pr, hi, k1, k2, k3, k4⟩
      · cases h
    · cases h
  · cases h

/-- all that a trie holds: at the number that a way leads to -/
def T.allB {α : Type} (p : Nat → α → Bool) (t : T α) : (Nat → Nat) → Bool :=
  T.rec (motive := fun _ => (Nat → Nat) → Bool) (fun _ => true)
    (fun _ v _ gl gr w => match (match v with | none => true | some x => p (w 0) x) with
      | true => (match gl (fun m => w (Nat.succ (Nat.mul 2 m))) with | true => gr (fun m => w (Nat.succ (Nat.succ (Nat.mul 2 m)))) | false => false)
      | false => false) t
theorem T.allB_ok {α : Type} {p : Nat → α → Bool} : ∀ {t : T α} {w : Nat → Nat}, T.allB p t w = true → ∀ n x, T.get t n = some x → p (w n) x = true
  | .lf, _, _, n, x, h => by cases h
  | .nd l v r, w, h, n, x, hx => by
    have h' : (match (match v with | none => true | some x => p (w 0) x) with
      | true => (match T.allB p l (fun m => w (Nat.succ (Nat.mul 2 m))) with | true => T.allB p r (fun m => w (Nat.succ (Nat.succ (Nat.mul 2 m)))) | false => false)
      | false => false) = true := h
    obtain ⟨h1, h2⟩ := and_match h'
    obtain ⟨h3, h4⟩ := and_match h2
    cases n with
    | zero =>
      rw [T.get_zero] at hx
      subst hx
      exact h1
    | succ m =>
      rw [T.get_succ] at hx
      by_cases hm : m % 2 = 0
      · rw [if_pos hm] at hx
        have := T.allB_ok h3 _ _ hx
        have e : Nat.succ (Nat.mul 2 (m / 2)) = m + 1 := by show 2 * (m / 2) + 1 = m + 1; omega
        rw [e] at this; exact this
      · rw [if_neg hm] at hx
        have := T.allB_ok h4 _ _ hx
        have e : Nat.succ (Nat.succ (Nat.mul 2 (m / 2))) = m + 1 := by show 2 * (m / 2) + 1 + 1 = m + 1; omega
        rw [e] at this; exact this
end
end Go.AM

namespace Go.AM
open Go
noncomputable section
def T.re {α : Type} (g : Nat → Option α) (t : T α) : (Nat → Nat) → T α :=
  T.rec (motive := fun _ => (Nat → Nat) → T α) (fun _ => .lf)
    (fun _ v _ gl gr w => .nd (gl (fun m => w (Nat.succ (Nat.mul 2 m)))) (match v with | none => none | some _ => g (w 0)) (gr (fun m => w (Nat.succ (Nat.succ (Nat.mul 2 m)))))) t
theorem T.re_ok {α : Type} {g : Nat → Option α} : ∀ {t : T α} {w : Nat → Nat}, T.re g t w = t → ∀ n x, T.get t n = some x → g (w n) = some x
  | .lf, _, _, n, x, h => by cases h
  | .nd l v r, w, h, n, x, hx => by
    have h0 : T.re g (.nd l v r) w = T.nd (T.re g l (fun m => w (Nat.succ (Nat.mul 2 m)))) (v.bind fun _ => g (w 0)) (T.re g r (fun m => w (Nat.succ (Nat.succ (Nat.mul 2 m))))) := by cases v <;> rfl
    rw [h0] at h
    injection h with h1 h2 h3
    cases n with
    | zero =>
      rw [T.get_zero] at hx
      subst hx
      exact h2
    | succ m =>
      rw [T.get_succ] at hx
      by_cases hm : m % 2 = 0
      · rw [if_pos hm] at hx
        have := T.re_ok h1 _ _ hx
        have e : Nat.succ (Nat.mul 2 (m / 2)) = m + 1 := by show 2 * (m / 2) + 1 = m + 1; omega
        rw [e] at this; exact this
      · rw [if_neg hm] at hx
        have := T.re_ok h3 _ _ hx
        have e : Nat.succ (Nat.succ (Nat.mul 2 (m / 2))) = m + 1 := by show 2 * (m / 2) + 1 + 1 = m + 1; omega
        rw [e] at this; exact this
def fnB (fn : Func) : Bool := match (fn.name == "runtime.NumGoroutine") with | true => false | false => (match fn.body with | some b => codeOk EE b | none => true)
open Go.Proofs
theorem tys_ok : T.allB (tyB Tryz.prog) TT (fun n => n) = true := by kernel_rfl
theorem fns_re : T.re (fun n => Tryz.prog.funcs[n]?) FT (fun n => n) = FT := by kernel_rfl
theorem fns_ok : T.allB (fun _ fn => fnB fn) FT (fun n => n) = true := by kernel_rfl
theorem mixed_ok : Tryz.prog.follows .mixedOrders = true := by kernel_rfl
theorem cntB_eq (c : UInt8) : ∀ l : List UInt8, cntB c l = Lib.countByte l c
  | [] => rfl
  | x :: l => by
    have h : cntB c (x :: l) = (match Nat.beq x.toNat c.toNat with | true => Nat.succ (cntB c l) | false => cntB c l) := rfl
    rw [h, cntB_eq c l]
    unfold Lib.countByte
    rw [List.count_cons]
    cases hb : Nat.beq x.toNat c.toNat with
    | true =>
      rw [Nat.beq_eq] at hb
      have : x = c := UInt8.toNat_inj.1 hb
      subst this; simp
    | false =>
      have : x ≠ c := by rintro rfl; rw [Nat.beq_refl] at hb; cases hb
      simp [this]
theorem idxB_eq (c : UInt8) : ∀ (l : List UInt8) (i : Nat), idxB c l i = if Lib.indexByte l c = -1 then -1 else Lib.indexByte l c + i
  | [], i => rfl
  | x :: l, i => by
    have h : idxB c (x :: l) i = (match Nat.beq x.toNat c.toNat with | true => Int.ofNat i | false => idxB c l (Nat.succ i)) := rfl
    have h2 : Lib.indexByte (x :: l) c = if x == c then 0 else if Lib.indexByte l c == -1 then -1 else Lib.indexByte l c + 1 := rfl
    rw [h, h2]
    cases hb : Nat.beq x.toNat c.toNat with
    | true =>
      rw [Nat.beq_eq] at hb
      have : x = c := UInt8.toNat_inj.1 hb
      subst this; simp
    | false =>
      have hne : x ≠ c := by rintro rfl; rw [Nat.beq_refl] at hb; cases hb
      have hne' : (x == c) = false := by simpa using hne
      have hge := Lib.indexByte_ge l c
      rw [hne', idxB_eq c l (Nat.succ i)]
      by_cases h1 : Lib.indexByte l c = -1
      · simp [h1]
      · have h3 : (Lib.indexByte l c == -1) = false := by simpa using h1
        simp only [h3, h1, if_false, Bool.false_eq_true]
        rw [if_neg (by omega)]
        omega
theorem GT_get {g : Nat} {u : Unit} (h : T.get GT g = some u) : g < 7 := by
  have e : GT = T.set (T.set (T.set (T.set (T.set (T.set (T.set .lf 0 (some ())) 1 (some ())) 2 (some ())) 3 (some ())) 4 (some ())) 5 (some ())) 6 (some ()) := rfl
  rw [e] at h
  simp only [T.get_set] at h
  repeat' split at h
  all_goals first | omega | cases h
theorem ext_call {f : FuncId} {fn : Func} {P : Program} (hf : P.funcs[f]? = some fn) (hn : (fn.name == "runtime.NumGoroutine") = false) (hb : fn.body = none) (hx : Extern.findNext fn = none) {e : Array Value → Sem Value} (he : Extern.find fn = some e) {args : Array Value} {v : Value} {w : World}
    (h : (e args).run P w = .ok v w) : (callFunc f args).run P w = .ok (.value v) w := by
  have hn' : ¬ fn.name = "runtime.NumGoroutine" := by simpa using hn
  simp [callFunc, hf, hn', hb, hx, he, h]
theorem env_ok : EnvOK Tryz.prog EE where
  tys t x h := tyB_ok (T.allB_ok tys_ok t x h)
  fns f fn h := by
    refine ⟨T.re_ok fns_re f fn h, ?_⟩
    have := T.allB_ok fns_ok f fn h
    unfold fnB at this
    split at this
    · cases this
    · assumption
  ext f g h := by
    have h' : T.get (T.set (T.set (T.set .lf 208 (some extNo)) 240 (some extCnt)) 305 (some extIdx)) f = some g := h
    simp only [T.get_set] at h'
    intro m args args' v ha hv w
    split at h'
    · rename_i hf; subst hf; injection h' with h'; subst h'
      unfold extIdx at hv
      split at hv
      · rename_i l c
        injection hv with hv; subst hv
        cases ha with
        | cons a1 a2 => cases a1; cases a2 with
          | cons a3 a4 => cases a3; cases a4
                          refine ⟨_, ext_call (fn := Tryz.f305) Tryz.func305 (by kernel_rfl) (by kernel_rfl) (by kernel_rfl) (e := Extern.BytealgIndexByte.indexByte) (by kernel_rfl) (Lib.run_indexByteString _ _ w), ?_⟩
                          have := idxB_eq (UInt8.ofNat c) l 0
                          rw [show (Int.ofNat c).toNat.toUInt8 = UInt8.ofNat c from rfl]
                          by_cases h1 : Lib.indexByte l (UInt8.ofNat c) = -1
                          · rw [h1] at this; rw [this]; simp only [if_true]
                            show VR m _ (.int .i64 (Lib.indexByte l (UInt8.ofNat c)))
                            rw [h1]; exact .int _ _
                          · rw [if_neg h1] at this; rw [this, show ((0 : Nat) : Int) = 0 from rfl, Int.add_zero]; exact .int _ _
      · cases hv
    · split at h'
      · rename_i hf; subst hf; injection h' with h'; subst h'
        unfold extCnt at hv
        split at hv
        · rename_i l c
          injection hv with hv; subst hv
          cases ha with
          | cons a1 a2 => cases a1; cases a2 with
            | cons a3 a4 => cases a3; cases a4
                            refine ⟨_, ext_call (fn := Tryz.f240) Tryz.func240 (by kernel_rfl) (by kernel_rfl) (by kernel_rfl) (e := Extern.BytealgCount.count) (by kernel_rfl) (Lib.run_countString _ _ w), ?_⟩
                            rw [cntB_eq]; exact .int _ _
        · cases hv
      · split at h'
        · rename_i hf; subst hf; injection h' with h'; subst h'
          unfold extNo at hv
          split at hv
          · injection hv with hv; subst hv
            cases ha with
            | cons a1 a2 => cases a2
                            exact ⟨_, ext_call (fn := Tryz.f208) Tryz.func208 (by kernel_rfl) (by kernel_rfl) (by kernel_rfl) (e := Extern.AbiNoEscape.same) (by kernel_rfl) rfl, a1⟩
          · cases hv
        · cases h'
  mixed := mixed_ok
  prm f := rfl
  code f fn body h hb := by
    have := T.allB_ok fns_ok f fn h
    unfold fnB at this
    split at this
    · cases this
    · rw [hb] at this; exact this
end
end Go.AM
