import Derived.Test.YtbjcghnhhgdopaaGreatDoorAi8
namespace Go.Proofs.YtbjcghnhhgdopaaGreatDoor.Ai
open Go Go.RowKit
set_option linter.unusedSimpArgs false

section
variable {P : Program} {H : Heap} {Z : Zone} {ι : Inj} {w : World}
theorem AVR.mono_z {Z' : Zone} (hz : ∀ b o v, Z b o = some v → Z' b o = some v) {a : AV} {v : Value} (h : AVR Z ι a v) : AVR Z' ι a v := h.mono hz (fun _ L h => ⟨L, h, Nat.le_refl _, fun _ => rfl⟩)
theorem GlobR.ext {G : Nat → Option (List FV)} {Z' : Zone} {ι' : Inj} {w' : World} (h : GlobR G Z) {H' : Heap} (hx : Ext H Z ι w H' Z' ι' w') : GlobR G Z' := fun g r hr ι'' => (h g r hr ι'').mono_z hx.zone

/-- A function with a body of its own. -/
def Enters (P : Program) (f : Nat) : Prop := ∃ fn, P.funcs[f]? = some fn ∧ (fn.name == "runtime.NumGoroutine") = false ∧ fn.body.isNone = false
theorem Enters.run {f : Nat} (h : Enters P f) (args : Array Value) : (callFunc f args).run P w = .ok (.enter f args) w := by
  obtain ⟨fn, h1, h2, h3⟩ := h
  simp only [callFunc, Sem.run_bind, run_program, Result.andThen_ok, h1, h2, h3]
  rfl
/-- What a call's abstract run promises. -/
def CallOk (P : Program) (G : Nat → Option (List FV)) (call : CallA) : Prop := ∀ lo f as H r H', call lo f as H = some (r, H') → (lo ≤ H.length → H.length ≤ H'.length ∧ ∀ id, id < lo → H'[id]? = H[id]?) ∧ ∀ Z ι w vs, Inv H Z ι w → GlobR G Z → LRel Z ι as vs →
  (Enters P f ∧ Calls P f vs.toArray w fun e w' => ∃ v Z' ι', e = .returned v ∧ AVR Z' ι' r v ∧ Inv H' Z' ι' w' ∧ Ext H Z ι w H' Z' ι' w') ∨
  (∃ v w' Z' ι', (callFunc f vs.toArray).run P w = .ok (.value v) w' ∧ AVR Z' ι' r v ∧ Inv H' Z' ι' w' ∧ Ext H Z ι w H' Z' ι' w')

theorem wp_value {o : Oper} {a : Act} {K : Act → World → Prop} {Q : Exit → Act → World → Prop} {v : Value} {w' : World} (h : (execOp a.eval o).run P w = .ok (.value v) w') (hk : K (a.put o.dst v) w') : o.wp P a w K Q := by
  unfold Oper.wp; rw [h]; exact hk
theorem wp_skip' {o : Oper} {a : Act} {K : Act → World → Prop} {Q : Exit → Act → World → Prop} {w' : World} (h : (execOp a.eval o).run P w = .ok .skip w') (hk : K (a.put o.dst undef) w') : o.wp P a w K Q := by
  unfold Oper.wp; rw [h]; exact hk
theorem orel_ok {S : Sig} {e : Env} {a : Act} (hG : GlobR S.G Z) (he : EnvR Z ι e a.tmps) {x : Option Operand} {r : Option AV} (h : evO S e x = some r) : ORel Z ι r (x.map a.eval) := by
  cases x with
  | none => simp [evO] at h; subst h; exact .none
  | some x =>
    simp only [evO, Option.map_eq_some_iff] at h
    obtain ⟨v, hv, rfl⟩ := h
    exact .some _ _ (evA_ok hG he hv)

/-- Every operation but a call of a function: what it comes to. -/
def Plain (o : Op) : Bool :=
  match o with
  | .call c => match c.callee with
    | .value _ => false
    | _ => true
  | _ => true
theorem op_plain {S : Sig} {call : CallA} {lo : Nat} (hE : EqOk P S.eqT) {o : Oper} {e : Env} {a : Act} (hI : Inv H Z ι w) (hG : GlobR S.G Z) (he : EnvR Z ι e a.tmps) {r : AV} {H' : Heap}
    (h : evOp P S call lo o.op e H = some (r, H')) (hp : Plain o.op = true) :
    ∃ v w' Z' ι', ((execOp a.eval o).run P w = .ok (.value v) w' ∨ ((execOp a.eval o).run P w = .ok .skip w' ∧ v = undef)) ∧ AVR Z' ι' r v ∧ Inv H' Z' ι' w' ∧ Ext H Z ι w H' Z' ι' w' := by
  obtain ⟨dst, op, ty, pos, after, guard⟩ := o
  have quiet : ∀ {v : Value}, (execOp a.eval ⟨dst, op, ty, pos, after, guard⟩).run P w = .ok (.value v) w → H' = H → AVR Z ι r v → ∃ v w' Z' ι', ((execOp a.eval ⟨dst, op, ty, pos, after, guard⟩).run P w = .ok (.value v) w' ∨ ((execOp a.eval ⟨dst, op, ty, pos, after, guard⟩).run P w = .ok .skip w' ∧ v = undef)) ∧ AVR Z' ι' r v ∧ Inv H' Z' ι' w' ∧ Ext H Z ι w H' Z' ι' w' := by
    intro v h1 h2 h3
    subst h2
    exact ⟨v, w, Z, ι, .inl h1, h3, hI, Ext.refl _ _ _ _⟩
  cases op with
  | move x =>
    simp only [evOp, oPick, oAlloc, oBox, oBuild, oBuildSlice, oLoad, oStore, oNil, oBin, oUn, oConv, oFunc, oMake, oSlice, oFieldAddr, oField, oIndexAddr, oIndex, oExtract, oCall, oLen, oAppend, oCopy, oMaxMin, Option.map_eq_some_iff, Prod.mk.injEq] at h
    obtain ⟨v, hv, rfl, rfl⟩ := h
    exact quiet (v := a.eval x) rfl rfl (evA_ok hG he hv)
  | assign x =>
    simp only [evOp, oPick, oAlloc, oBox, oBuild, oBuildSlice, oLoad, oStore, oNil, oBin, oUn, oConv, oFunc, oMake, oSlice, oFieldAddr, oField, oIndexAddr, oIndex, oExtract, oCall, oLen, oAppend, oCopy, oMaxMin, Option.map_eq_some_iff, Prod.mk.injEq] at h
    obtain ⟨v, hv, rfl, rfl⟩ := h
    exact quiet (v := a.eval x) rfl rfl (evA_ok hG he hv)
  | pick c x y =>
    simp only [evOp, oPick, oAlloc, oBox, oBuild, oBuildSlice, oLoad, oStore, oNil, oBin, oUn, oConv, oFunc, oMake, oSlice, oFieldAddr, oField, oIndexAddr, oIndex, oExtract, oCall, oLen, oAppend, oCopy, oMaxMin] at h
    split at h
    · rename_i t hc
      have hcb := bool_inv (evA_ok hG he hc)
      simp only [Option.map_eq_some_iff, Prod.mk.injEq] at h
      obtain ⟨v, hv, rfl, rfl⟩ := h
      cases t with
      | true => exact quiet (v := a.eval x) (by simp [execOp, hcb, asBool]) rfl (evA_ok hG he (by simpa using hv))
      | false => exact quiet (v := a.eval y) (by simp [execOp, hcb, asBool]) rfl (evA_ok hG he (by simpa using hv))
    · cases h
  | alloc t =>
    simp only [evOp, oPick, oAlloc, oBox, oBuild, oBuildSlice, oLoad, oStore, oNil, oBin, oUn, oConv, oFunc, oMake, oSlice, oFieldAddr, oField, oIndexAddr, oIndex, oExtract, oCall, oLen, oAppend, oCopy, oMaxMin] at h
    split at h
    · rename_i z s hz hs
      split at h
      · cases h
        obtain ⟨zv, hzrun, hzr, hz1, i, hi, hzi⟩ := zero_ok (P := P) (Z := Z) (ι := ι) (w := w) hz
        obtain ⟨w', Z', ι', h1, h2, h3, h4⟩ := var_new (P := P) hI s hzr hz1 t
        exact ⟨_, w', Z', ι', .inl (by simp [execOp, Instr.alloc, hzrun, h1]), h2, h3, h4⟩
      · cases h
    · cases h
  | box t x =>
    simp only [evOp, oPick, oAlloc, oBox, oBuild, oBuildSlice, oLoad, oStore, oNil, oBin, oUn, oConv, oFunc, oMake, oSlice, oFieldAddr, oField, oIndexAddr, oIndex, oExtract, oCall, oLen, oAppend, oCopy, oMaxMin] at h
    split at h
    · rename_i v hv
      split at h
      · rename_i hall
        cases h
        obtain ⟨w', Z', ι', h1, h2, h3, h4⟩ := var_new (P := P) hI v.cells.length (cells_rel (evA_ok hG he hv)) (all_of hall) t
        exact ⟨_, w', Z', ι', .inl (by simp [execOp, Instr.box, h1]), h2, h3, h4⟩
      · cases h
    · cases h
  | build t parts =>
    simp only [evOp, oPick, oAlloc, oBox, oBuild, oBuildSlice, oLoad, oStore, oNil, oBin, oUn, oConv, oFunc, oMake, oSlice, oFieldAddr, oField, oIndexAddr, oIndex, oExtract, oCall, oLen, oAppend, oCopy, oMaxMin, Option.bind_eq_some_iff, Option.map_eq_some_iff, Prod.mk.injEq] at h
    obtain ⟨ps, hps, v, hv, rfl, rfl⟩ := h
    obtain ⟨u, h1, h2⟩ := build_ok (P := P) (w := w) (parts_ok hG he hps) hv
    have e1 : (List.map (fun (i, x) => (i, a.eval x)) parts.toList).toArray = parts.map fun (i, x) => (i, a.eval x) := by rw [← Array.toList_map]
    rw [e1] at h1
    exact quiet (v := u) (by simp [execOp, h1]) rfl h2
  | buildSlice t len parts =>
    simp only [evOp, oPick, oAlloc, oBox, oBuild, oBuildSlice, oLoad, oStore, oNil, oBin, oUn, oConv, oFunc, oMake, oSlice, oFieldAddr, oField, oIndexAddr, oIndex, oExtract, oCall, oLen, oAppend, oCopy, oMaxMin, Option.bind_eq_some_iff] at h
    obtain ⟨ps, hps, h⟩ := h
    obtain ⟨v, w', Z', ι', h1, h2, h3, h4⟩ := buildSlice_ok (P := P) hI (parts_ok hG he hps) h
    have e1 : (List.map (fun (i, x) => (i, a.eval x)) parts.toList).toArray = parts.map fun (i, x) => (i, a.eval x) := by rw [← Array.toList_map]
    rw [e1] at h1
    exact ⟨v, w', Z', ι', .inl (by simp [execOp, h1]), h2, h3, h4⟩
  | load t x =>
    simp only [evOp, oPick, oAlloc, oBox, oBuild, oBuildSlice, oLoad, oStore, oNil, oBin, oUn, oConv, oFunc, oMake, oSlice, oFieldAddr, oField, oIndexAddr, oIndex, oExtract, oCall, oLen, oAppend, oCopy, oMaxMin, Option.bind_eq_some_iff, Option.map_eq_some_iff, Prod.mk.injEq] at h
    obtain ⟨p, hp', v, hv, rfl, rfl⟩ := h
    obtain ⟨u, h1, h2⟩ := load_ok (P := P) hI (evA_ok hG he hp') hv
    exact quiet (v := u) (by simp [execOp, h1]) rfl h2
  | store t x y =>
    simp only [evOp, oPick, oAlloc, oBox, oBuild, oBuildSlice, oLoad, oStore, oNil, oBin, oUn, oConv, oFunc, oMake, oSlice, oFieldAddr, oField, oIndexAddr, oIndex, oExtract, oCall, oLen, oAppend, oCopy, oMaxMin] at h
    split at h
    · rename_i p v hp' hv
      simp only [Option.map_eq_some_iff, Prod.mk.injEq] at h
      obtain ⟨H1, hH1, rfl, rfl⟩ := h
      obtain ⟨w', Z', ι', h1, h2, h3⟩ := store_ok (P := P) hI (evA_ok hG he hp') (evA_ok hG he hv) hH1
      exact ⟨undef, w', Z', ι', .inr ⟨by simp [execOp, h1], rfl⟩, .undef, h2, h3⟩
    · cases h
  | nilCheck x =>
    simp only [evOp, oPick, oAlloc, oBox, oBuild, oBuildSlice, oLoad, oStore, oNil, oBin, oUn, oConv, oFunc, oMake, oSlice, oFieldAddr, oField, oIndexAddr, oIndex, oExtract, oCall, oLen, oAppend, oCopy, oMaxMin, Option.bind_eq_some_iff, Option.map_eq_some_iff, Prod.mk.injEq] at h
    obtain ⟨p, hp', v, hv, rfl, rfl⟩ := h
    have hr := evA_ok hG he hp'
    have hpv : v = p := by unfold nilCheckA at hv; split at hv <;> first | (cases hv; rfl) | cases hv
    subst hpv
    refine quiet (v := a.eval x) ?_ rfl hr
    simp only [execOp]
    generalize a.eval x = u at hr
    unfold nilCheckA at hv
    split at hv
    · cases hr; rfl
    · cases hr; rfl
    · cases hr; rfl
    · cases hr with | f _ _ hz => cases hz; rfl
    · cases hv
  | binOp op t x y ty2 =>
    simp only [evOp, oPick, oAlloc, oBox, oBuild, oBuildSlice, oLoad, oStore, oNil, oBin, oUn, oConv, oFunc, oMake, oSlice, oFieldAddr, oField, oIndexAddr, oIndex, oExtract, oCall, oLen, oAppend, oCopy, oMaxMin] at h
    split at h
    · rename_i p q hp' hq
      simp only [Option.map_eq_some_iff, Prod.mk.injEq] at h
      obtain ⟨v, hv, rfl, rfl⟩ := h
      obtain ⟨u, h1, h2⟩ := bin_ok (P := P) (w := w) hE op t x y (evA_ok hG he hp') (evA_ok hG he hq) hv
      exact quiet (v := u) (by simp only [execOp]; rw [Sem.run_bind, h1]; rfl) rfl h2
    · cases h
  | unOp op t x =>
    simp only [evOp, oPick, oAlloc, oBox, oBuild, oBuildSlice, oLoad, oStore, oNil, oBin, oUn, oConv, oFunc, oMake, oSlice, oFieldAddr, oField, oIndexAddr, oIndex, oExtract, oCall, oLen, oAppend, oCopy, oMaxMin, Option.bind_eq_some_iff, Option.map_eq_some_iff, Prod.mk.injEq] at h
    obtain ⟨p, hp', v, hv, rfl, rfl⟩ := h
    obtain ⟨u, h1, h2⟩ := un_ok (P := P) (w := w) op (evA_ok hG he hp') hv
    exact quiet (v := u) (by simp [execOp, h1]) rfl h2
  | convert s d x =>
    simp only [evOp, oPick, oAlloc, oBox, oBuild, oBuildSlice, oLoad, oStore, oNil, oBin, oUn, oConv, oFunc, oMake, oSlice, oFieldAddr, oField, oIndexAddr, oIndex, oExtract, oCall, oLen, oAppend, oCopy, oMaxMin, Option.bind_eq_some_iff, Option.map_eq_some_iff, Prod.mk.injEq] at h
    obtain ⟨p, hp', v, hv, rfl, rfl⟩ := h
    obtain ⟨u, h1, h2⟩ := conv_ok (P := P) (w := w) (evA_ok hG he hp') hv
    exact quiet (v := u) (by simp [execOp, h1]) rfl h2
  | makeFunc fn first captured =>
    cases fn with
    | func f =>
      simp only [evOp, oPick, oAlloc, oBox, oBuild, oBuildSlice, oLoad, oStore, oNil, oBin, oUn, oConv, oFunc, oMake, oSlice, oFieldAddr, oField, oIndexAddr, oIndex, oExtract, oCall, oLen, oAppend, oCopy, oMaxMin] at h
      split at h
      · rename_i h0
        simp only [Option.map_eq_some_iff, Prod.mk.injEq] at h
        obtain ⟨cs, hcs, rfl, rfl⟩ := h
        have hl := args_ok hG he hcs
        have e0 : first.map a.eval = #[] := Array.eq_empty_of_size_eq_zero (by simpa using h0)
        refine quiet (v := .func (.func f) #[] (captured.map a.eval)) (by simp [execOp, Instr.makeFunc, e0]) rfl (.clo f cs _ (by rw [hl.len]; simp) (fun i x v hx hv => hl.get i x v hx ?_))
        rw [← Array.getElem?_toList, Array.toList_map] at hv
        exact hv
      · cases h
    | _ => simp [evOp] at h
  | makeSlice t x y =>
    simp only [evOp, oPick, oAlloc, oBox, oBuild, oBuildSlice, oLoad, oStore, oNil, oBin, oUn, oConv, oFunc, oMake, oSlice, oFieldAddr, oField, oIndexAddr, oIndex, oExtract, oCall, oLen, oAppend, oCopy, oMaxMin] at h
    split at h
    · rename_i p q hp' hq
      obtain ⟨v, w', Z', ι', h1, h2, h3, h4⟩ := makeSlice_ok (P := P) hI (evA_ok hG he hp') (evA_ok hG he hq) h
      exact ⟨v, w', Z', ι', .inl (by simp [execOp, h1]), h2, h3, h4⟩
    · cases h
  | slice t x lo hi mx =>
    simp only [evOp, oPick, oAlloc, oBox, oBuild, oBuildSlice, oLoad, oStore, oNil, oBin, oUn, oConv, oFunc, oMake, oSlice, oFieldAddr, oField, oIndexAddr, oIndex, oExtract, oCall, oLen, oAppend, oCopy, oMaxMin] at h
    split at h
    · rename_i v l hh m hv hl hhi hm
      simp only [Option.map_eq_some_iff, Prod.mk.injEq] at h
      obtain ⟨r', hr, rfl, rfl⟩ := h
      obtain ⟨u, h1, h2⟩ := slice_ok (P := P) hI (evA_ok hG he hv) (orel_ok hG he hl) (orel_ok hG he hhi) (orel_ok hG he hm) hr
      exact quiet (v := u) (by simp [execOp, h1]) rfl h2
    · cases h
  | fieldAddr s x f =>
    simp only [evOp, oPick, oAlloc, oBox, oBuild, oBuildSlice, oLoad, oStore, oNil, oBin, oUn, oConv, oFunc, oMake, oSlice, oFieldAddr, oField, oIndexAddr, oIndex, oExtract, oCall, oLen, oAppend, oCopy, oMaxMin, Option.bind_eq_some_iff, Option.map_eq_some_iff, Prod.mk.injEq] at h
    obtain ⟨p, hp', v, hv, rfl, rfl⟩ := h
    obtain ⟨u, h1, h2⟩ := fieldAddr_ok (P := P) (w := w) (evA_ok hG he hp') hv
    exact quiet (v := u) (by simp [execOp, h1]) rfl h2
  | field s x f =>
    simp only [evOp, oPick, oAlloc, oBox, oBuild, oBuildSlice, oLoad, oStore, oNil, oBin, oUn, oConv, oFunc, oMake, oSlice, oFieldAddr, oField, oIndexAddr, oIndex, oExtract, oCall, oLen, oAppend, oCopy, oMaxMin, Option.bind_eq_some_iff, Option.map_eq_some_iff, Prod.mk.injEq] at h
    obtain ⟨p, hp', v, hv, rfl, rfl⟩ := h
    obtain ⟨u, h1, h2⟩ := field_ok (P := P) (w := w) (evA_ok hG he hp') hv
    exact quiet (v := u) (by simp [execOp, h1]) rfl h2
  | indexAddr t x y =>
    simp only [evOp, oPick, oAlloc, oBox, oBuild, oBuildSlice, oLoad, oStore, oNil, oBin, oUn, oConv, oFunc, oMake, oSlice, oFieldAddr, oField, oIndexAddr, oIndex, oExtract, oCall, oLen, oAppend, oCopy, oMaxMin] at h
    split at h
    · rename_i p q hp' hq
      simp only [Option.map_eq_some_iff, Prod.mk.injEq] at h
      obtain ⟨v, hv, rfl, rfl⟩ := h
      obtain ⟨u, h1, h2⟩ := index_ok (P := P) (w := w) (evA_ok hG he hp') (evA_ok hG he hq) hv
      exact quiet (v := u) (by simp [execOp, h1]) rfl h2
    · cases h
  | index t x y =>
    simp only [evOp, oPick, oAlloc, oBox, oBuild, oBuildSlice, oLoad, oStore, oNil, oBin, oUn, oConv, oFunc, oMake, oSlice, oFieldAddr, oField, oIndexAddr, oIndex, oExtract, oCall, oLen, oAppend, oCopy, oMaxMin] at h
    split at h
    · rename_i p q hp' hq
      simp only [Option.map_eq_some_iff, Prod.mk.injEq] at h
      obtain ⟨v, hv, rfl, rfl⟩ := h
      obtain ⟨u, h1, h2⟩ := index2_ok (P := P) (w := w) (evA_ok hG he hp') (evA_ok hG he hq) hv
      exact quiet (v := u) (by simp [execOp, h1]) rfl h2
    · cases h
  | extract t i =>
    simp only [evOp, oPick, oAlloc, oBox, oBuild, oBuildSlice, oLoad, oStore, oNil, oBin, oUn, oConv, oFunc, oMake, oSlice, oFieldAddr, oField, oIndexAddr, oIndex, oExtract, oCall, oLen, oAppend, oCopy, oMaxMin] at h
    split at h
    · rename_i vs hvs
      simp only [Option.map_eq_some_iff, Prod.mk.injEq] at h
      obtain ⟨v, hv, rfl, rfl⟩ := h
      have hr := evA_ok hG he hvs
      generalize hu : a.eval t = u at hr
      cases hr with
      | tup _ us hl hus =>
        have hlt : i < us.size := by rw [← hl]; exact (List.getElem?_eq_some_iff.1 hv).1
        exact quiet (v := us[i]) (by simp [execOp, hu, Instr.extract, hlt]) rfl (hus i v _ hv (Array.getElem?_eq_getElem hlt))
    · cases h
  | call c =>
    obtain ⟨callee, cargs, cats⟩ := c
    cases callee with
    | value f => simp [Plain] at hp
    | invoke => simp [evOp] at h
    | builtin b =>
      have hargs : ∀ as, evArgs S e cargs.toList = some as → LRel Z ι as (cargs.map a.eval).toList := fun as has => by rw [Array.toList_map]; exact args_ok hG he has
      have one : ∀ x, evArgs S e cargs.toList = some [x] → ∃ v, cargs.map a.eval = #[v] ∧ AVR Z ι x v := by
        intro x hx
        have hl := hargs _ hx
        generalize hq : (cargs.map a.eval).toList = l at hl
        cases hl with
        | cons _ v _ _ h1 t1 => cases t1; exact ⟨v, by rw [← Array.toArray_toList (xs := cargs.map a.eval), hq], h1⟩
      have two : ∀ x y, evArgs S e cargs.toList = some [x, y] → ∃ v u, cargs.map a.eval = #[v, u] ∧ AVR Z ι x v ∧ AVR Z ι y u := by
        intro x y hx
        have hl := hargs _ hx
        generalize hq : (cargs.map a.eval).toList = l at hl
        cases hl with
        | cons _ v _ _ h1 t1 =>
          cases t1 with
          | cons _ u _ _ h2 t2 => cases t2; exact ⟨v, u, by rw [← Array.toArray_toList (xs := cargs.map a.eval), hq], h1, h2⟩
      cases b <;> simp only [evOp, oPick, oAlloc, oBox, oBuild, oBuildSlice, oLoad, oStore, oNil, oBin, oUn, oConv, oFunc, oMake, oSlice, oFieldAddr, oField, oIndexAddr, oIndex, oExtract, oCall, oLen, oAppend, oCopy, oMaxMin, reduceCtorEq] at h
      case len =>
        split at h
        · rename_i t x ht hx
          simp only [Option.map_eq_some_iff, Prod.mk.injEq] at h
          obtain ⟨n, hn, rfl, rfl⟩ := h
          obtain ⟨v, hv, hr⟩ := one x hx
          have h1 := len_ok (P := P) (w := w) hr hn ty cats ht
          exact quiet (v := .int .i64 n) (by simp [execOp, resolve, invoke, builtin, hv, h1]) rfl (.f _ _ (.int _ _))
        · cases h
      case append =>
        split at h
        · rename_i t t2 x y ht ht2 hx
          obtain ⟨v, u, hv, h1, h2⟩ := two x y hx
          obtain ⟨q, w', Z', ι', g1, g2, g3, g4⟩ := append_ok (P := P) hI h1 h2 h ht ht2 ty
          exact ⟨q, w', Z', ι', .inl (by simp [execOp, resolve, invoke, builtin, hv, g1]), g2, g3, g4⟩
        · cases h
      case copy =>
        split at h
        · rename_i t x y ht hx
          obtain ⟨v, u, hv, h1, h2⟩ := two x y hx
          obtain ⟨q, w', Z', ι', g1, g2, g3, g4⟩ := copy_ok (P := P) hI h1 h2 h ht ty
          exact ⟨q, w', Z', ι', .inl (by simp [execOp, resolve, invoke, builtin, hv, g1]), g2, g3, g4⟩
        · cases h
      case max =>
        simp only [Option.bind_eq_some_iff, Option.map_eq_some_iff, Prod.mk.injEq] at h
        obtain ⟨as, has, v, hv, rfl, rfl⟩ := h
        obtain ⟨u, h1, h2⟩ := maxMin_ok (P := P) (w := w) (hargs _ has) hv cats ty
        simp only [Array.toArray_toList, if_true] at h1
        exact quiet (v := u) (by simp [execOp, resolve, invoke, builtin, h1]) rfl h2
      case min =>
        simp only [Option.bind_eq_some_iff, Option.map_eq_some_iff, Prod.mk.injEq] at h
        obtain ⟨as, has, v, hv, rfl, rfl⟩ := h
        obtain ⟨u, h1, h2⟩ := maxMin_ok (P := P) (w := w) (hargs _ has) hv cats ty
        simp only [Array.toArray_toList] at h1
        exact quiet (v := u) (by simp [execOp, resolve, invoke, builtin]; simpa using h1 ▸ rfl) rfl h2
  | _ => simp [evOp] at h
end
end Go.Proofs.YtbjcghnhhgdopaaGreatDoor.Ai
