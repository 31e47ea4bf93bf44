/- From AM to the model's call, in the memory that the row's condition gives. -/
import Derived.Test.YtnlbfblcjnpoaaaGreatDoorAmN
import Derived.Test.YtnlbfblcjnpoaaaGreatDoorRows
import Derived.Test.YtnlbfblcjnpoaaaGreatDoorCards
import Derived.Test.YtnlbfblcjnpoaaaGreatDoorTie
import Derived.ProofKit
import Derived.Lay
import Derived.LaidMore
import Derived.PinnedBridge
import Derived.Lib.LaidTab
import Derived.SevenTiedAt
namespace Go.AM
open Go Go.Proofs
/-! ## memory as the row's condition gives it -/
theorem heap_of_var {W : World} {n : String} {g : Nat} {cs : Array Value} (hg : Tryz.prog.globalNamed n = some g) (h : W.var? Tryz.prog n = some cs) : ∃ t fr, W.heap[g]? = some (.cells cs t fr) := by
  unfold World.var? at h
  rw [hg] at h
  simp only [Option.bind_some] at h
  split at h
  · rename_i c t fr hh
    injection h with h; subst h
    exact ⟨t, fr, hh⟩
  · cases h
theorem ints_rel (m : Mp) (k : IntKind) : ∀ zs : List Int, VRs m (zs.map fun z => Value.int k z) (zs.map fun z => Value.int k z)
  | [] => .nil
  | z :: zs => .cons (.int k z) (ints_rel m k zs)
def zs64 : List Int := [0,1,56,2,57,49,28,3,61,58,42,50,38,29,17,4,62,47,59,36,45,43,51,22,53,39,33,30,24,18,12,5,63,55,48,27,60,41,37,16,46,35,44,21,52,32,23,11,54,26,40,15,34,20,31,10,25,14,19,9,13,8,7,6]
def zs32 : List Int := [0,1,28,2,29,14,24,3,30,22,20,15,25,17,4,8,31,27,13,23,21,19,16,7,26,12,18,6,11,5,10,9]
def zsP : List Int := [1,10,100,1000,10000,100000,1000000,10000000,100000000,1000000000,10000000000,100000000000,1000000000000,10000000000000,100000000000000,1000000000000000,10000000000000000,100000000000000000,1000000000000000000,10000000000000000000]
theorem deB_eq : deB = zs64.map fun z => Value.int .u8 z := rfl
theorem deB32_eq : deB32 = zs32.map fun z => Value.int .u8 z := rfl
theorem p10_eq : p10 = zsP.map fun z => Value.int .u64 z := rfl
/-- the blocks of the program's variables -/
def m7 : Mp := fun k => if k < 7 then some (k, if k = 0 then 64 else if k = 6 then 32 else if k = 4 then 20 else 0) else none
theorem gr7 : GR EE m7 := by
  intro g u h
  have := GT_get (u := u) h
  exact ⟨_, by unfold m7; rw [if_pos this]⟩
theorem s0_get {k : Nat} {o : Ob} (h : T.get s0.heap k = some o) : (k = 0 ∧ o = .cells deB .ro 0) ∨ (k = 6 ∧ o = .cells deB32 .ro 0) ∨ (k = 4 ∧ o = .cells p10 .ro 0) := by
  have h' : T.get (T.set (T.set (T.set (.lf : T Ob) 0 (some (.cells deB .ro 0))) 6 (some (.cells deB32 .ro 0))) 4 (some (.cells p10 .ro 0))) k = some o := h
  simp only [T.get_set] at h'
  split at h'
  · injection h' with h'; exact .inr (.inr ⟨by assumption, h'.symm⟩)
  · split at h'
    · injection h' with h'; exact .inr (.inl ⟨by assumption, h'.symm⟩)
    · split at h'
      · injection h' with h'; exact .inl ⟨by assumption, h'.symm⟩
      · cases h'
theorem rel7 {W : World} {t0 t6 t4 : TypeId} {f0 f6 f4 : Nat × Nat} (h0 : W.heap[0]? = some (.cells ⟨deB⟩ t0 f0)) (h6 : W.heap[6]? = some (.cells ⟨deB32⟩ t6 f6)) (h4 : W.heap[4]? = some (.cells ⟨p10⟩ t4 f4)) : Rel m7 s0 W := by
  have hsz : 6 < W.heap.size := by
    rcases Nat.lt_or_ge 6 W.heap.size with h | h
    · exact h
    · rw [Array.getElem?_eq_none h] at h6; cases h6
  have ic : ∀ (k : IntKind) (zs : List Int), ∀ x ∈ zs.map (fun z => Value.int k z), isCell x = true := by
    intro k zs x hx
    obtain ⟨z, _, rfl⟩ := List.mem_map.1 hx
    rfl
  refine ⟨?_, ?_, ?_, ?_⟩
  · intro k o hk
    rcases s0_get hk with ⟨rfl, rfl⟩ | ⟨rfl, rfl⟩ | ⟨rfl, rfl⟩
    · refine ⟨0, 64, _, rfl, h0, ?_⟩
      have := OR.cells (m := m7) (xs := deB) (ys := deB) (zs := []) (k := .ro) (e := 0) (e' := t0) (fr := f0) (by rw [deB_eq]; exact ints_rel _ _ _) (by rw [deB_eq]; exact ic _ _) trivial (.inl rfl)
      rw [List.append_nil] at this; exact this
    · refine ⟨6, 32, _, rfl, h6, ?_⟩
      have := OR.cells (m := m7) (xs := deB32) (ys := deB32) (zs := []) (k := .ro) (e := 0) (e' := t6) (fr := f6) (by rw [deB32_eq]; exact ints_rel _ _ _) (by rw [deB32_eq]; exact ic _ _) trivial (.inl rfl)
      rw [List.append_nil] at this; exact this
    · refine ⟨4, 20, _, rfl, h4, ?_⟩
      have := OR.cells (m := m7) (xs := p10) (ys := p10) (zs := []) (k := .ro) (e := 0) (e' := t4) (fr := f4) (by rw [p10_eq]; exact ints_rel _ _ _) (by rw [p10_eq]; exact ic _ _) trivial (.inl rfl)
      rw [List.append_nil] at this; exact this
  · intro k k' o o' b n n' _ _ h1 h2
    unfold m7 at h1 h2
    split at h1
    · split at h2
      · injection h1 with h1; injection h2 with h2
        injection h1 with h1 _; injection h2 with h2 _
        omega
      · cases h2
    · cases h1
  · intro k hk
    have : 7 ≤ k := hk
    unfold m7; rw [if_neg (by omega)]
  · intro k b n h
    unfold m7 at h
    split at h
    · injection h with h; injection h with h _; omega
    · cases h
/-- what a law that answers true in AM says of the model: it answers true, and no memory that was there is touched -/
theorem law_calls {f : FuncId} {args args' : List Value} (h : Call EE f args s0 (fun v _ => v = .bool true)) {W : World} (rel : Rel m7 s0 W) (ha : VRs m7 args args') :
    Calls Tryz.prog f ⟨args'⟩ W fun e W' => e = .returned (.bool true) ∧ W'.os = W.os ∧ W'.output = W.output ∧ ∀ b, b < W.heap.size → W'.heap[b]? = W.heap[b]? := by
  obtain ⟨v, s', ⟨n, hrun⟩, rfl⟩ := h
  refine (run_calls env_ok (drawn_ok env_ok) hrun rel gr7 ha).mono fun e W' ⟨m', v', he, hv, _, hx⟩ => ?_
  cases hv
  refine ⟨he, hx.os, hx.output, fun b hb => hx.keep b hb ?_⟩
  intro k o nn hk _
  rcases s0_get hk with ⟨_, rfl⟩ | ⟨_, rfl⟩ | ⟨_, rfl⟩ <;> exact trivial
/-- the row's condition lays the tables -/
theorem rel_of_laid {W : World} {laid : List (String × DataW Unit)} (hL : laidMet Tryz.prog laid W)
    (h64 : ("math/bits.deBruijn64tab", (Lib.tabData .u8 zs64 : DataW Unit)) ∈ laid) (h32 : ("math/bits.deBruijn32tab", (Lib.tabData .u8 zs32 : DataW Unit)) ∈ laid) (hP : ("internal/strconv.uint64pow10", (Lib.tabData .u64 zsP : DataW Unit)) ∈ laid) : Rel m7 s0 W := by
  have tab : ∀ {n : String} {g t e len : Nat} {k : IntKind} {zs : List Int}, (n, (Lib.tabData k zs : DataW Unit)) ∈ laid → Tryz.prog.globalNamed n = some g → (Tryz.prog.globals[g]?).map (·.type) = some t → Tryz.prog.underlying t = some (.array len e) → Tryz.prog.underlying e = some (.int k) → Tryz.prog.cellsOf e = 1 → Tryz.prog.cellsOf t = len →
      ∃ t fr, W.heap[g]? = some (.cells ⟨zs.map fun z => Value.int k z⟩ t fr) := by
    intro n g t e len k zs hin hg ht hu he hce hct
    obtain ⟨g', t', cs, fuel, p, hg', ht', hv, hd⟩ := Lib.laidMet.reads hL hin
    obtain rfl := Option.some.inj (hg.symm.trans hg')
    obtain rfl := Option.some.inj (ht.symm.trans ht')
    have hcs := Lib.cells_of_tab hu he hce hct hd
    obtain ⟨t2, fr, hh⟩ := heap_of_var hg hv
    refine ⟨t2, fr, ?_⟩
    rw [hh, ← hcs]
  obtain ⟨t0, f0, h0⟩ := tab (g := 0) (t := 359) (e := 5) (len := 64) h64 (by kernel_rfl) (by kernel_rfl) (by kernel_rfl) (by kernel_rfl) (by kernel_rfl) (by kernel_rfl)
  obtain ⟨t6, f6, h6⟩ := tab (g := 6) (t := 442) (e := 5) (len := 32) h32 (by kernel_rfl) (by kernel_rfl) (by kernel_rfl) (by kernel_rfl) (by kernel_rfl) (by kernel_rfl)
  obtain ⟨t4, f4, h4⟩ := tab (g := 4) (t := 415) (e := 40) (len := 20) hP (by kernel_rfl) (by kernel_rfl) (by kernel_rfl) (by kernel_rfl) (by kernel_rfl) (by kernel_rfl)
  exact rel7 h0 h6 h4
/-- nothing that was there has turned -/
theorem keptBut_of {W W' : World} {may : MemPlace → Prop} (h1 : W'.os = W.os) (h2 : W'.output = W.output) (h3 : ∀ b, b < W.heap.size → W'.heap[b]? = W.heap[b]?) : W.keptBut W' may := by
  refine ⟨h1, h2, fun i hi => ?_⟩
  rw [h3 i hi]
  split
  · rename_i c t fr c' t' fr' e1 e2
    rw [e1] at e2; injection e2 with e2; injection e2 with a1 a2 a3
    subst a1; subst a2; subst a3
    exact ⟨rfl, rfl, rfl, fun _ _ => rfl⟩
  · rename_i es cl es' cl' e1 e2
    rw [e1] at e2; injection e2 with e2; injection e2 with a1 a2
    exact .inr ⟨a1.symm, a2.symm⟩
  · rfl
end Go.AM
