/- AM, operation by operation: what AM answers, the model answers. -/
import Derived.Test.YtnlbfblcjnpoaaaGreatDoorAmC3
import Derived.Orders
namespace Go.AM
open Go
section
variable {P : Program} {E : Env} {m : Mp} {s s' : St} {w : World} {n : N} {ev ρ : Operand → Value} {d : Option Tmp} {ty : TypeId} {pos : String} {af : Array Edge} {g : Option (Nat × Bool)}

/-! ## calls -/
theorem builtin_run (hE : EnvOK P E) (r : Rel m s w) {b : Builtin} {tys : List TypeId} {u : TypeId} {cs : Array Bool} {l l' : List Value} (hl : VRs m l l') (h : builtinV E s b tys l = some (n, s')) :
    OpR P m s w n s' ((builtin b ⟨tys⟩ u cs ⟨l'⟩).run P w) := by
  have fin : ∀ q : Sem Value, BR m s w n s' (q.run P w) → OpR P m s w n s' ((do pure (.value (← q)) : Sem Next).run P w) := by
    rintro q ⟨v, m', v', w', rfl, q1, q2, q3, q4⟩
    simp only [Sem.run_bind, q1, Result.andThen_ok, Sem.run_pure]
    exact .v q2 q3 q4
  cases b with
  | len =>
    simp only [builtinV] at h
    split at h
    · cases hl with | cons hx hl => cases hl; exact fin _ (b_len hE r hx h)
    · cases h
  | cap =>
    simp only [builtinV] at h
    split at h
    · cases hl with | cons hx hl => cases hl; exact fin _ (b_cap hE r hx h)
    · cases h
  | append =>
    simp only [builtinV] at h
    split at h
    · cases hl with | cons hy hl => cases hl with | cons hx hl =>
      cases hl
      split at h
      · rename_i hk hi
        exact fin _ (b_append hE r hy hx hk hi h)
      · cases h
    · cases h
  | copy =>
    simp only [builtinV] at h
    split at h
    · cases hl with | cons hy hl => cases hl with | cons hx hl =>
      cases hl
      split at h
      · rename_i hk
        exact fin _ (b_copy hE r hy hx hk h)
      · cases h
    · cases h
  | clear =>
    simp only [builtinV] at h
    split at h
    · cases hl with | cons hy hl =>
      cases hl
      split at h
      · rename_i hk
        exact fin _ (b_clear hE r hy hk h)
      · cases h
    · cases h
  | delete =>
    simp only [builtinV] at h
    split at h
    · cases hl with | cons hy hl => cases hl with | cons hx hl =>
      cases hl
      split at h
      · rename_i hk
        exact fin _ (b_delete hE r hy hx hk h)
      · cases h
    · cases h
  | max => exact fin _ (b_max r hl h)
  | min => exact fin _ (b_min r hl h)
  | recover => injection h with h; injection h with e1 e2; subst e1; subst e2; exact .recover
  | unsafeSliceData => exact fin _ (b_data r hl h)
  | unsafeString => exact fin _ (b_str hE r hl h)
  | _ => cases h
theorem goF_run (hE : EnvOK P E) (r : Rel m s w) {f : FuncId} {l l' : List Value} (hl : VRs m l l') (h : goF E s f l = some (n, s')) :
    OpR P m s w n s' ((callFunc f ⟨l'⟩).run P w) := by
  unfold goF at h
  split at h
  · rename_i gg hg
    split at h
    · rename_i v hv
      injection h with h; injection h with e1 e2; subst e1; subst e2
      obtain ⟨v', q1, q2⟩ := hE.ext f gg hg m l l' v hl hv w
      rw [q1]
      exact .same r q2
    · cases h
  · injection h with h; injection h with e1 e2; subst e1; subst e2
    exact .enter hl
theorem method_run (hE : EnvOK P E) {t : TypeId} {name : String} {f : FuncId} (h : methodOf E t name = some f) (fuel : Nat) (v : Value) (w : World) :
    (method (fuel + 1) t v name).run P w = .ok (f, v) w := by
  unfold methodOf at h
  split at h
  · rename_i ti ht
    have tr := hE.tys t ti ht
    obtain ⟨i, mm, pr, q1, q2, q3, q4, q5⟩ := tr.meths name f h
    obtain ⟨D, hD⟩ := kr_any tr.kind
    have hrec : ∀ nm, (receiverAt t (.val v) pr nm).run P w = .ok v w := by
      intro nm
      unfold receiverAt
      rw [hD] at q5
      simp only [Sem.run_bind, run_underlying hD, Result.andThen_ok]
      cases D <;> simp only at q5 <;> subst q5 <;> rfl
    have hrec : ∀ nm, (receiverAt t (.val v) pr nm).run P w = .ok v w := hrec
    simp only [method, Sem.run_bind, run_info q1, Result.andThen_ok, q2, q3, q4, follow, Sem.run_pure, hrec]
  · cases h
theorem callMethod_run (hE : EnvOK P E) (r : Rel m s w) {t : TypeId} {name : String} {f : FuncId} {v v' : Value} {l l' : List Value} (hv : VR m v v') (hl : VRs m l l') (hm : methodOf E t name = some f) (h : goF E s f (v :: l) = some (n, s')) :
    OpR P m s w n s' ((callMethod (.iface t v') name ⟨l'⟩).run P w) := by
  have : (callMethod (.iface t v') name ⟨l'⟩).run P w = (callFunc f ⟨v' :: l'⟩).run P w := by
    have hd : ∃ k, P.types.size + Made.depth = k + 1 := ⟨P.types.size + (Made.depth - 1), by simp [Made.depth]⟩
    obtain ⟨k, hk⟩ := hd
    have e : (#[v'] ++ ⟨l'⟩ : Array Value) = ⟨v' :: l'⟩ := by apply Array.ext'; simp
    have hp : ∀ w, (program).run P w = .ok P w := fun _ => rfl
    simp only [callMethod, Sem.run_bind, hp, Result.andThen_ok, hk, method_run hE hm k v' w, e]
  rw [this]
  exact goF_run hE r (.cons hv hl) h
theorem func_inv {f : Fn} {a c : List Value} {y : Value} (h : VR m (.func f ⟨a⟩ ⟨c⟩) y) : ∃ g a' c', y = .func g ⟨a'⟩ ⟨c'⟩ ∧ FnR m f g ∧ VRs m a a' ∧ VRs m c c' := by
  cases h with
  | func h1 h2 h3 => exact ⟨_, _, _, rfl, h1, h2, h3⟩
theorem callV_run (hE : EnvOK P E) (r : Rel m s w) {f f' : Value} {l l' : List Value} (hf : VR m f f') (hl : VRs m l l') (h : callV E s f l = some (n, s')) :
    OpR P m s w n s' ((do let d ← Deferred.ofValue f' ⟨l'⟩; invoke d.target d.args : Sem Next).run P w) := by
  unfold callV at h
  split at h
  · rename_i fn first cap
    obtain ⟨g1, a1, c1, rfl, hg, ha, hc⟩ := func_inv hf
    split at h
    · rename_i f0
      cases hg
      have : (do let d ← Deferred.ofValue (.func (.func f0) ⟨a1⟩ ⟨c1⟩) ⟨l'⟩; invoke d.target d.args : Sem Next).run P w = (callFunc f0 ⟨a1 ++ (l' ++ c1)⟩).run P w := by
        simp only [Deferred.ofValue, Sem.run_bind, Sem.run_pure, Result.andThen_ok, invoke]
        congr 2
        apply Array.ext'; simp
      rw [this]
      rw [catV_eq, catV_eq] at h
      exact goF_run hE r (ha.append (hl.append hc)) h
    · split at h
      · injection h with h; injection h with e1 e2; subst e1; subst e2
        cases ha; cases hc
        cases hg
        rename_i hm
        have : ∀ b, (do let d ← Deferred.ofValue (.func (.yield b) ⟨[]⟩ ⟨[]⟩) ⟨l'⟩; invoke d.target d.args : Sem Next).run P w = (Instr.yield b ⟨l'⟩).run P w := by
          intro b
          simp only [Deferred.ofValue, Sem.run_bind, Sem.run_pure, Result.andThen_ok, invoke]
          congr 2
          apply Array.ext'; simp
        rw [this]
        exact .round hm hl
      · cases h
    · rename_i t name
      split at h
      · rename_i x rest
        cases ha; cases hc
        cases hg
        cases hl with
        | cons hx hl =>
        rename_i x' l'
        have key : ∀ D, P.underlying t = some D → (do let d ← Deferred.ofValue (.func (.methodOf t name) ⟨[]⟩ ⟨[]⟩) ⟨x' :: l'⟩; invoke d.target d.args : Sem Next).run P w = (callMethod (match D with | .interface _ => x' | _ => .iface t x') name ⟨l'⟩).run P w := by
          intro D hD
          have e0 : ((⟨[]⟩ : Array Value) ++ ⟨x' :: l'⟩) = ⟨x' :: l'⟩ := by apply Array.ext'; simp
          have e1 : (⟨x' :: l'⟩ : Array Value)[0]? = some x' := rfl
          have e2 : (⟨x' :: l'⟩ : Array Value).extract 1 (⟨x' :: l'⟩ : Array Value).size = ⟨l'⟩ := by apply Array.ext'; simp
          simp only [Deferred.ofValue, Sem.run_bind, Sem.run_pure, Result.andThen_ok, invoke, e0, e1, e2, run_underlying hD]
          cases D <;> rfl
        cases hk : tkOf E t with
        | iface =>
          obtain ⟨ms, k1⟩ := kr_of hE hk (by simp)
          rw [hk] at h
          simp only at h
          split at h
          · rename_i u v
            split at h
            · rename_i g0 hg
              cases hx
              rename_i v' hv
              rw [key _ k1]
              exact callMethod_run hE r hv hl hg h
            · cases h
          · cases h
        | other => rw [hk] at h; cases h
        | _ =>
          have hno : tkOf E t ≠ .other := by rw [hk]; simp
          obtain ⟨D, hD⟩ := kr_any (kr_of hE rfl hno)
          have hDi : ∀ ms, D ≠ .interface ms := by
            have hkr := kr_of hE hk (by simp)
            rintro ms rfl
            simp only [KR, hD] at hkr
            first
              | (injection hkr with hkr; cases hkr)
              | (obtain ⟨q, _⟩ := hkr; injection q with q; cases q)
              | (obtain ⟨_, q, _⟩ := hkr; injection q with q; cases q)
              | (obtain ⟨_, _, _, q⟩ := hkr; injection q with q; cases q)
          rw [hk] at h
          simp only at h
          split at h
          · rename_i g0 hg
            rw [key _ hD]
            have : (match D with | .interface _ => x' | _ => .iface t x') = .iface t x' := by cases D <;> first | rfl | exact absurd rfl (hDi _)
            rw [this]
            exact callMethod_run hE r hx hl hg h
          · cases h
      · cases h
    · cases h
  · cases h
theorem op_call (hE : EnvOK P E) (r : Rel m s w) (hρ : ER m ev ρ) (c : Call) (h : hCall c E s ev = some (n, s')) :
    OpR P m s w n s' ((execOp ρ ⟨d, .call c, ty, pos, af, g⟩).run P w) := by
  obtain ⟨callee, ⟨args⟩, ⟨tys⟩⟩ := c
  have hl : VRs m (mapV ev args) (args.map ρ) := by rw [mapV_eq]; exact VRs.map hρ args
  have e : (⟨args⟩ : Array Operand).map ρ = ⟨args.map ρ⟩ := by simp
  unfold hCall callO at h
  cases callee with
  | builtin b =>
    simp only [execOp, resolve, Sem.run_bind, Sem.run_pure, Result.andThen_ok, invoke, e]
    exact builtin_run hE r hl h
  | invoke x name =>
    simp only at h
    have hx := hρ x
    split at h
    · rename_i t v hk
      rw [hk] at hx
      split at h
      · rename_i g0 hg
        cases hy : ρ x <;> rw [hy] at hx <;> cases hx
        rename_i v' hv
        have e1 : (#[.iface t v'] ++ ⟨args.map ρ⟩ : Array Value)[0]? = some (.iface t v') := by simp
        have e2 : (#[.iface t v'] ++ ⟨args.map ρ⟩ : Array Value).extract 1 (#[.iface t v'] ++ ⟨args.map ρ⟩ : Array Value).size = ⟨args.map ρ⟩ := by
          apply Array.ext'
          rw [Array.toList_extract, Array.toList_append]
          simp [List.extract_eq_take_drop]
          exact List.take_of_length_le (by simp)
        simp only [execOp, resolve, Sem.run_bind, Sem.run_pure, Result.andThen_ok, invoke, e, hy, e1, e2]
        exact callMethod_run hE r hv hl hg h
      · cases h
    · cases h
  | value x =>
    have := callV_run (P := P) hE r (hρ x) hl h
    simp only [execOp, resolve, e]
    exact this

/-! ## an operation -/
theorem mapV_congr {ev ev' : Operand → Value} {l : List Operand} (h : ∀ x ∈ l, ev x = ev' x) : mapV ev l = mapV ev' l := by
  rw [mapV_eq, mapV_eq]; exact List.map_congr_left h
theorem mapP_congr {ev ev' : Operand → Value} {l : List (Nat × Operand)} (h : ∀ x ∈ l.map (·.2), ev x = ev' x) : mapP ev l = mapP ev' l := by
  rw [mapP_eq, mapP_eq]
  apply List.map_congr_left
  intro p hp
  rw [h p.2 (List.mem_map.2 ⟨p, hp, rfl⟩)]
theorem mapO_congr {ev ev' : Operand → Value} {l : Option Operand} (h : ∀ x ∈ l.toArray, ev x = ev' x) : mapO ev l = mapO ev' l := by
  cases l with
  | none => rfl
  | some x => simp only [mapO]; rw [h x (by simp)]
theorem opr_congr {ev ev' : Operand → Value} (op : Op) (E : Env) (s : St) (h : ∀ x ∈ op.operands, ev x = ev' x) : opr op E s ev = opr op E s ev' := by
  cases op <;> simp only [Op.operands] at h
  case build t ps => simp only [opr, hBuild]; rw [mapP_congr (fun x hx => h x (by simpa using hx))]
  case buildSlice t n ps => simp only [opr, hBuildSlice]; rw [mapP_congr (fun x hx => h x (by simpa using hx))]
  case makeFunc fn first cap =>
    simp only [opr]
    unfold hFunc
    split
    · rw [mapV_congr (ev := ev) (ev' := ev') (fun x hx => h x (by simp; exact .inl (by simpa using hx))), mapV_congr (ev := ev) (ev' := ev') (fun x hx => h x (by simp; exact .inr (by simpa using hx)))]
    · rw [mapV_congr (ev := ev) (ev' := ev') (fun x hx => h x (by simp; exact .inl (by simpa using hx))), mapV_congr (ev := ev) (ev' := ev') (fun x hx => h x (by simp; exact .inr (by simpa using hx)))]
    · rfl
  case makeMap t x => cases x <;> rfl
  case slice t x lo hi mx =>
    simp only [opr, hSlice]
    rw [h x (by simp), mapO_congr (ev := ev) (ev' := ev') (l := lo) (fun y hy => h y (by simp at hy ⊢; simp [hy])), mapO_congr (ev := ev) (ev' := ev') (l := hi) (fun y hy => h y (by simp at hy ⊢; simp [hy])), mapO_congr (ev := ev) (ev' := ev') (l := mx) (fun y hy => h y (by simp at hy ⊢; simp [hy]))]
  case call c =>
    obtain ⟨callee, ⟨args⟩, tys⟩ := c
    simp only [opr, hCall, callO]
    cases callee with
    | builtin b => simp only [Call.operands] at h; rw [mapV_congr (ev := ev) (ev' := ev') (fun x hx => h x (by simpa using hx))]
    | invoke r name => simp only [Call.operands] at h; simp only []; rw [h r (by simp), mapV_congr (ev := ev) (ev' := ev') (fun x hx => h x (by simp; exact .inr (by simpa using hx)))]
    | value f => simp only [Call.operands] at h; simp only []; rw [h f (by simp), mapV_congr (ev := ev) (ev' := ev') (fun x hx => h x (by simp; exact .inr (by simpa using hx)))]
  case defer c =>
    obtain ⟨callee, ⟨args⟩, tys⟩ := c
    simp only [opr, hDefer, oDefer]
    cases callee with
    | value f => simp only [Call.operands] at h; simp only []; rw [h f (by simp), mapV_congr (ev := ev) (ev' := ev') (fun x hx => h x (by simp; exact .inr (by simpa using hx)))]
    | _ => rfl
  all_goals first
    | rfl
    | (rename_i a
       simp only [opr, hMove, hBox, hLoad, hNil, hUn, hConv, hIface, hFieldAddr, hField, hRange, hNext, hEntry, hAssert, hExtract, hPanic]
       simp at h
       rw [h])
    | (simp at h
       obtain ⟨h1, h2, h3⟩ := h
       simp only [opr, hPick, hUpdate]
       rw [h1, h2, h3])
    | (simp at h
       obtain ⟨h1, h2⟩ := h
       simp only [opr, hStore, hBin, hMakeSlice, hIndexAddr, hIndex, hLookup]
       rw [h1, h2])
    | (simp at h
       simp only [opr, hMove, hBox, hLoad, hNil, hUn, hConv, hIface, hFieldAddr, hField, hRange, hNext, hEntry, hAssert, hExtract, hPanic]
       rw [h])
theorem op_run (hE : EnvOK P E) (r : Rel m s w) (hρ : ER m ev ρ) (o : Oper) (h : opr o.op E s ev = some (n, s')) : OpR P m s w n s' ((execOp ρ o).run P w) := by
  obtain ⟨d, op, ty, pos, af, g⟩ := o
  cases op with
  | move x => exact op_move (E := E) r hρ x h
  | assign x => exact op_assign (E := E) r hρ x h
  | pick c a b => exact op_pick (E := E) r hρ c a b h
  | alloc e => exact op_alloc (ev := ev) hE r e h
  | box t x => exact op_box (E := E) r hρ t x h
  | build t ps => exact op_build hE r hρ t ps h
  | buildSlice t l ps => exact op_buildSlice hE r hρ t l ps h
  | load t a => exact op_load hE r hρ t a h
  | store t a x => exact op_store hE r hρ t a x h
  | nilCheck x => exact op_nil (E := E) r hρ x h
  | binOp op t x y yt => exact op_bin hE r hρ op t yt x y h
  | unOp op t x => exact op_un (E := E) r hρ op t x h
  | convert sd dt x => exact op_conv hE r hρ sd dt x h
  | makeInterface t x => exact op_iface hE r hρ t x h
  | makeFunc fn a b => exact op_func (E := E) r hρ fn a b h
  | makeMap t x => exact op_map (E := E) (ev := ev) r t x h
  | makeSlice t l c => exact op_makeSlice hE r hρ t l c h
  | slice t x a b c => exact op_slice hE r hρ t x a b c h
  | fieldAddr t x f => exact op_fieldAddr hE r hρ t x f h
  | field t x f => exact op_field hE r hρ t x f h
  | indexAddr t x i => exact op_indexAddr hE r hρ t x i h
  | index t x i => exact op_index hE r hρ t x i h
  | lookup t x k ok => exact op_lookup hE r hρ t x k ok h
  | mapUpdate t x k v => exact op_update hE r hρ t x k v h
  | insert t x k v => exact op_insert hE r hρ t x k v h
  | range t x => exact op_range hE r hρ t x h
  | next x b => exact op_next (E := E) r hρ x b h
  | entry x => exact op_entry (E := E) r hρ x h
  | typeAssert x xt t ok => exact op_assert hE r hρ x xt t ok h
  | extract x i => exact op_extract (E := E) r hρ x i h
  | call c => exact op_call hE r hρ c h
  | defer c => exact op_defer (E := E) hρ c h
  | panic x => exact op_panic (E := E) hρ x h
  | _ => cases h
/-- an operation: it looks at its operands alone -/
theorem oper_run (hE : EnvOK P E) (r : Rel m s w) (o : Oper) (hx : ∀ x ∈ o.op.operands, VR m (ev x) (ρ x)) (h : opr o.op E s ev = some (n, s')) : OpR P m s w n s' ((execOp ρ o).run P w) := by
  classical
  have hs : ∀ cs b, o.op ≠ .select cs b := by intro cs b he; rw [he] at h; cases h
  let ev1 : Operand → Value := fun x => if x ∈ o.op.operands then ev x else Go.undef
  let ρ1 : Operand → Value := fun x => if x ∈ o.op.operands then ρ x else Go.undef
  have h1 : opr o.op E s ev1 = some (n, s') := by
    rw [← h]
    exact opr_congr o.op E s (fun x hx => by simp [ev1, hx])
  have h2 : execOp ρ o = execOp ρ1 o := execOp_congr o hs (fun x hx => by simp [ρ1, hx])
  rw [h2]
  refine op_run hE r (fun x => ?_) o h1
  by_cases hm : x ∈ o.op.operands
  · simp only [ev1, ρ1, if_pos hm]; exact hx x hm
  · simp only [ev1, ρ1, if_neg hm]; exact VR.undef
end
end Go.AM
