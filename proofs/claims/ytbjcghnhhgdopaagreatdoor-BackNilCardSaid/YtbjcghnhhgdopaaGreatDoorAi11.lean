import Derived.Test.YtbjcghnhhgdopaaGreatDoorAi10
import Derived.LoopN
namespace Go.Proofs.YtbjcghnhhgdopaaGreatDoor.Ai
open Go Go.RowKit
set_option linter.unusedSimpArgs false

/-! ## 9. What is not written; one operation's step -/
def Eff (lo : Nat) (H H' : Heap) : Prop := H.length ≤ H'.length ∧ ∀ id, id < lo → H'[id]? = H[id]?
theorem Eff.refl (lo : Nat) (H : Heap) : Eff lo H H := ⟨Nat.le_refl _, fun _ _ => rfl⟩
theorem Eff.trans {lo : Nat} {H H' H'' : Heap} (h : Eff lo H H') (k : Eff lo H' H'') : Eff lo H H'' := ⟨Nat.le_trans h.1 k.1, fun id hid => (k.2 id hid).trans (h.2 id hid)⟩
theorem Eff.new {lo : Nat} {H : Heap} (h : lo ≤ H.length) (s : Nat) (cs : List AV) : Eff lo H (newBlk H s cs) := ⟨by simp [newBlk], fun id hid => by rw [newBlk, List.getElem?_append_left (by omega)]⟩
theorem Eff.set {lo : Nat} {H : Heap} {id : Nat} (h : lo ≤ id) (k : Blk) : Eff lo H (H.set id k) := ⟨by simp, fun i hi => List.getElem?_set_ne (by omega)⟩
theorem Eff.mono {lo lo' : Nat} {H H' : Heap} (h : Eff lo H H') (hl : lo' ≤ lo) : Eff lo' H H' := ⟨h.1, fun id hid => h.2 id (by omega)⟩

section
variable {P : Program} {H : Heap} {Z : Zone} {ι : Inj} {w : World}
theorem storeA_eff {lo t : Nat} {p v : AV} {H' : Heap} (h : storeA P lo H t p v = some H') : Eff lo H H' := by
  unfold storeA at h
  split at h
  · split at h
    · split at h
      · rename_i hc; cases h; exact Eff.set hc.2.2.2.2.2 _
      · cases h
    · cases h
  · cases h
theorem appendA_eff {lo t t2 : Nat} {x y r : AV} {H' : Heap} (hl : lo ≤ H.length) (h : appendA P lo H t t2 x y = some (r, H')) : Eff lo H H' := by
  unfold appendA at h
  repeat' split at h
  all_goals first | (cases h; done) | (cases h; exact Eff.refl _ _) | (cases h; exact Eff.new hl _ _) | (cases h; rename_i hc _; exact Eff.set hc.2.2.2.2 _) | (cases h; rename_i hc _ _; exact Eff.set hc.2.2.2.2 _)
theorem copyA_eff {lo t : Nat} {x y r : AV} {H' : Heap} (h : copyA P lo H t x y = some (r, H')) : Eff lo H H' := by
  unfold copyA at h
  repeat' split at h
  all_goals first | (cases h; done) | (cases h; rename_i hc _ _ _; exact Eff.set hc.2.2.2.2.2 _)
theorem makeSliceA_eff {lo t : Nat} {x y r : AV} {H' : Heap} (hl : lo ≤ H.length) (h : makeSliceA P H t x y = some (r, H')) : Eff lo H H' := by
  unfold makeSliceA at h
  repeat' split at h
  all_goals first | (cases h; done) | (cases h; exact Eff.new hl _ _)
theorem buildSliceA_eff {lo t n : Nat} {ps : List (Nat × AV)} {r : AV} {H' : Heap} (hl : lo ≤ H.length) (h : buildSliceA P H t n ps = some (r, H')) : Eff lo H H' := by
  unfold buildSliceA at h
  repeat' split at h
  all_goals first | (cases h; done) | (rw [Option.map_eq_some_iff] at h; obtain ⟨cs, _, h⟩ := h; cases h; exact Eff.new hl _ _)
def CallEff (call : CallA) : Prop := ∀ lo f as H r H', call lo f as H = some (r, H') → lo ≤ H.length → Eff lo H H'
theorem evOp_eff {S : Sig} {call : CallA} {lo : Nat} {o : Op} {e : Env} {r : AV} {H' : Heap} (hC : CallEff call) (hl : lo ≤ H.length) (h : evOp P S call lo o e H = some (r, H')) : Eff lo H H' := by
  have q : ∀ {α : Type} {x : Option α} {f : α → AV}, (x.map fun y => (f y, H)) = some (r, H') → Eff lo H H' := by
    intro α x f h
    rw [Option.map_eq_some_iff] at h
    obtain ⟨_, _, h⟩ := h
    cases h
    exact Eff.refl _ _
  have q2 : ∀ {α : Type} {x : Option α} {f : α → Option AV}, (x.bind fun y => (f y).map (·, H)) = some (r, H') → Eff lo H H' := by
    intro α x f h
    rw [Option.bind_eq_some_iff] at h
    obtain ⟨_, _, h⟩ := h
    exact q (f := id) h
  cases o with
  | call c =>
    obtain ⟨callee, cargs, cats⟩ := c
    cases callee with
    | value f =>
      simp only [evOp, oPick, oAlloc, oBox, oBuild, oBuildSlice, oLoad, oStore, oNil, oBin, oUn, oConv, oFunc, oMake, oSlice, oFieldAddr, oField, oIndexAddr, oIndex, oExtract, oCall, oLen, oAppend, oCopy, oMaxMin] at h
      split at h
      · exact hC _ _ _ _ _ _ h hl
      · exact hC _ _ _ _ _ _ h hl
      · cases h
    | invoke => simp [evOp] at h
    | builtin b =>
      cases b <;> simp only [evOp, oPick, oAlloc, oBox, oBuild, oBuildSlice, oLoad, oStore, oNil, oBin, oUn, oConv, oFunc, oMake, oSlice, oFieldAddr, oField, oIndexAddr, oIndex, oExtract, oCall, oLen, oAppend, oCopy, oMaxMin, reduceCtorEq] at h
      case len => split at h <;> first | exact q h | cases h
      case append => split at h <;> first | exact appendA_eff hl h | cases h
      case copy => split at h <;> first | exact copyA_eff h | cases h
      case max => exact q2 h
      case min => exact q2 h
  | move x => exact q (f := id) h
  | assign x => exact q (f := id) h
  | pick c a b => simp only [evOp, oPick, oAlloc, oBox, oBuild, oBuildSlice, oLoad, oStore, oNil, oBin, oUn, oConv, oFunc, oMake, oSlice, oFieldAddr, oField, oIndexAddr, oIndex, oExtract, oCall, oLen, oAppend, oCopy, oMaxMin] at h; split at h <;> first | exact q (f := id) h | cases h
  | alloc t =>
    simp only [evOp, oPick, oAlloc, oBox, oBuild, oBuildSlice, oLoad, oStore, oNil, oBin, oUn, oConv, oFunc, oMake, oSlice, oFieldAddr, oField, oIndexAddr, oIndex, oExtract, oCall, oLen, oAppend, oCopy, oMaxMin] at h
    repeat' split at h
    all_goals first | (cases h; done) | (cases h; exact Eff.new hl _ _)
  | box t x =>
    simp only [evOp, oPick, oAlloc, oBox, oBuild, oBuildSlice, oLoad, oStore, oNil, oBin, oUn, oConv, oFunc, oMake, oSlice, oFieldAddr, oField, oIndexAddr, oIndex, oExtract, oCall, oLen, oAppend, oCopy, oMaxMin] at h
    repeat' split at h
    all_goals first | (cases h; done) | (cases h; exact Eff.new hl _ _)
  | build t parts => exact q2 h
  | buildSlice t n parts =>
    simp only [evOp, oPick, oAlloc, oBox, oBuild, oBuildSlice, oLoad, oStore, oNil, oBin, oUn, oConv, oFunc, oMake, oSlice, oFieldAddr, oField, oIndexAddr, oIndex, oExtract, oCall, oLen, oAppend, oCopy, oMaxMin, Option.bind_eq_some_iff] at h
    obtain ⟨_, _, h⟩ := h
    exact buildSliceA_eff hl h
  | load t a => exact q2 h
  | store t a x =>
    simp only [evOp, oPick, oAlloc, oBox, oBuild, oBuildSlice, oLoad, oStore, oNil, oBin, oUn, oConv, oFunc, oMake, oSlice, oFieldAddr, oField, oIndexAddr, oIndex, oExtract, oCall, oLen, oAppend, oCopy, oMaxMin] at h
    split at h
    · rw [Option.map_eq_some_iff] at h
      obtain ⟨H1, h1, h2⟩ := h
      cases h2
      exact storeA_eff h1
    · cases h
  | nilCheck x => exact q2 h
  | binOp op t x y t2 => simp only [evOp, oPick, oAlloc, oBox, oBuild, oBuildSlice, oLoad, oStore, oNil, oBin, oUn, oConv, oFunc, oMake, oSlice, oFieldAddr, oField, oIndexAddr, oIndex, oExtract, oCall, oLen, oAppend, oCopy, oMaxMin] at h; split at h <;> first | exact q (f := id) h | cases h
  | unOp op t x => exact q2 h
  | convert s d x => exact q2 h
  | makeFunc fn first captured =>
    cases fn <;> simp only [evOp, oPick, oAlloc, oBox, oBuild, oBuildSlice, oLoad, oStore, oNil, oBin, oUn, oConv, oFunc, oMake, oSlice, oFieldAddr, oField, oIndexAddr, oIndex, oExtract, oCall, oLen, oAppend, oCopy, oMaxMin, reduceCtorEq] at h
    split at h
    · exact q h
    · cases h
  | makeSlice t x y => simp only [evOp, oPick, oAlloc, oBox, oBuild, oBuildSlice, oLoad, oStore, oNil, oBin, oUn, oConv, oFunc, oMake, oSlice, oFieldAddr, oField, oIndexAddr, oIndex, oExtract, oCall, oLen, oAppend, oCopy, oMaxMin] at h; split at h <;> first | exact makeSliceA_eff hl h | cases h
  | slice t x lo hi mx => simp only [evOp, oPick, oAlloc, oBox, oBuild, oBuildSlice, oLoad, oStore, oNil, oBin, oUn, oConv, oFunc, oMake, oSlice, oFieldAddr, oField, oIndexAddr, oIndex, oExtract, oCall, oLen, oAppend, oCopy, oMaxMin] at h; split at h <;> first | exact q (f := id) h | cases h
  | fieldAddr s x f => exact q2 h
  | field s x f => exact q2 h
  | indexAddr t x i => simp only [evOp, oPick, oAlloc, oBox, oBuild, oBuildSlice, oLoad, oStore, oNil, oBin, oUn, oConv, oFunc, oMake, oSlice, oFieldAddr, oField, oIndexAddr, oIndex, oExtract, oCall, oLen, oAppend, oCopy, oMaxMin] at h; split at h <;> first | exact q (f := id) h | cases h
  | index t x i => simp only [evOp, oPick, oAlloc, oBox, oBuild, oBuildSlice, oLoad, oStore, oNil, oBin, oUn, oConv, oFunc, oMake, oSlice, oFieldAddr, oField, oIndexAddr, oIndex, oExtract, oCall, oLen, oAppend, oCopy, oMaxMin] at h; split at h <;> first | exact q (f := id) h | cases h
  | extract t i => simp only [evOp, oPick, oAlloc, oBox, oBuild, oBuildSlice, oLoad, oStore, oNil, oBin, oUn, oConv, oFunc, oMake, oSlice, oFieldAddr, oField, oIndexAddr, oIndex, oExtract, oCall, oLen, oAppend, oCopy, oMaxMin] at h; split at h <;> first | exact q (f := id) h | cases h
  | _ => simp [evOp] at h

/-- The abstract state and the frame's, side by side. -/
structure StR (G : Nat → Option (List FV)) (e : Env) (H : Heap) (Z : Zone) (ι : Inj) (a : Act) (w : World) : Prop where
  inv : Inv H Z ι w
  glob : GlobR G Z
  env : EnvR Z ι e a.tmps
  def_ : a.defers = []
theorem StR.next {G : Nat → Option (List FV)} {e : Env} {a : Act} (h : StR G e H Z ι a w) {H' : Heap} {Z' : Zone} {ι' : Inj} {w' : World} {r : AV} {v : Value} (hI : Inv H' Z' ι' w') (hx : Ext H Z ι w H' Z' ι' w') (hr : AVR Z' ι' r v) (dst : Option Tmp) :
    StR G (putE e dst r) H' Z' ι' (a.put dst v) w' :=
  ⟨hI, h.glob.ext hx, (h.env.ext hx).put dst hr, by cases dst <;> exact h.def_⟩

theorem op_step {S : Sig} {call : CallA} {lo : Nat} (hE : EqOk P S.eqT) (hC : CallOk P S.G call) {o : Oper} {e : Env} {a : Act} (hs : StR S.G e H Z ι a w) {r : AV} {H' : Heap}
    (h : evOp P S call lo o.op e H = some (r, H')) {K : Act → World → Prop} {Q : Exit → Act → World → Prop}
    (hk : ∀ v w' Z' ι', AVR Z' ι' r v → Inv H' Z' ι' w' → Ext H Z ι w H' Z' ι' w' → K (a.put o.dst v) w') : o.wp P a w K Q := by
  by_cases hp : Plain o.op = true
  · obtain ⟨v, w', Z', ι', h1, h2, h3, h4⟩ := op_plain (P := P) hE hs.inv hs.glob hs.env h hp
    rcases h1 with h1 | ⟨h1, rfl⟩
    · exact wp_value h1 (hk v w' Z' ι' h2 h3 h4)
    · exact wp_skip' h1 (hk _ w' Z' ι' h2 h3 h4)
  · obtain ⟨dst, op, ty, pos, after, guard⟩ := o
    cases op with
    | call c =>
      obtain ⟨callee, cargs, cats⟩ := c
      cases callee with
      | value fo =>
        have go : ∀ (f : Nat) (as : List AV) (vs : List Value), call lo f as H = some (r, H') → LRel Z ι as vs → (execOp a.eval ⟨dst, .call ⟨.value fo, cargs, cats⟩, ty, pos, after, guard⟩).run P w = (callFunc f vs.toArray).run P w →
            (⟨dst, .call ⟨.value fo, cargs, cats⟩, ty, pos, after, guard⟩ : Oper).wp P a w K Q := by
          intro f as vs hc hl hrun
          rcases (hC lo f as H r H' hc).2 Z ι w vs hs.inv hs.glob hl with ⟨hen, hcalls⟩ | ⟨v, w', Z', ι', g1, g2, g3, g4⟩
          · unfold Oper.wp
            rw [hrun, hen.run]
            refine hcalls.mono (fun e w' => ?_)
            rintro ⟨v, Z', ι', rfl, g1, g2, g3⟩
            exact hk v w' Z' ι' g1 g2 g3
          · exact wp_value (hrun.trans g1) (hk v w' Z' ι' g2 g3 g4)
        simp only [evOp, oPick, oAlloc, oBox, oBuild, oBuildSlice, oLoad, oStore, oNil, oBin, oUn, oConv, oFunc, oMake, oSlice, oFieldAddr, oField, oIndexAddr, oIndex, oExtract, oCall, oLen, oAppend, oCopy, oMaxMin] at h
        split at h
        · rename_i f as hf has
          have hfo := evA_ok hs.glob hs.env hf
          have hargs := args_ok hs.glob hs.env has
          generalize hu : a.eval fo = u at hfo
          cases hfo with
          | f _ _ hv =>
            cases hv
            refine go f as _ h hargs ?_
            have e1 : (List.map a.eval cargs.toList).toArray = #[] ++ cargs.map a.eval ++ #[] := by apply Array.ext'; simp
            rw [e1]
            simp [execOp, resolve, hu, Deferred.ofValue, invoke]
        · rename_i f cs as hf has
          have hfo := evA_ok hs.glob hs.env hf
          have hargs := args_ok hs.glob hs.env has
          generalize hu : a.eval fo = u at hfo
          cases hfo with
          | clo _ _ vs hl hvs =>
            refine go f (as ++ cs) _ h (hargs.append (LRel.of_get (m := vs.toList) (by simpa using hl) (fun i x v hx hv => hvs i x v hx (by simpa using hv)))) ?_
            have e1 : (List.map a.eval cargs.toList ++ vs.toList).toArray = #[] ++ cargs.map a.eval ++ vs := by
              rw [← Array.toList_map]
              apply Array.ext'
              simp
            rw [e1]
            simp [execOp, resolve, hu, Deferred.ofValue, invoke]
        · cases h
      | _ => simp [Plain] at hp
    | _ => simp [Plain] at hp

/-! ## 10. Regions in the text's order -/
def yieldA (ops : Array Oper) (e : Env) (j : Nat) : Option Bool :=
  match (ops[j]?).bind (·.dst) with
  | some d => match e[d]? with
    | some (.f (.bool b)) => some b
    | _ => none
  | none => none
def wantedA (ops : Array Oper) (e : Env) (o : Oper) : Bool :=
  match o.guard with
  | none => true
  | some (j, want) => yieldA ops e j == some want
theorem yield_ok {e : Env} {ts : Array Value} (he : EnvR Z ι e ts) (ops : Array Oper) (j : Nat) : yielded ops ts j = yieldA ops e j := by
  unfold yielded yieldA
  cases hd : (ops[j]?).bind (·.dst) with
  | none => rfl
  | some d =>
    simp only [Option.bind_some]
    have hlen := he.len
    cases hx : e[d]? with
    | none =>
      have : ts[d]? = none := by
        rw [Array.getElem?_eq_none_iff]
        exact hlen ▸ (List.getElem?_eq_none_iff.1 hx)
      rw [this]
    | some x =>
      have hlt : d < ts.size := hlen ▸ (List.getElem?_eq_some_iff.1 hx).1
      have hv := Array.getElem?_eq_getElem hlt
      have hr := he.at_ d x _ hx hv
      rw [hv]
      generalize ts[d] = v at hr
      cases hr with
      | f y _ hz => cases hz <;> rfl
      | _ => rfl
theorem wanted_ok {e : Env} {ts : Array Value} (he : EnvR Z ι e ts) (ops : Array Oper) (o : Oper) : Region.wanted o (yielded ops ts) = wantedA ops e o := by
  unfold Region.wanted wantedA
  cases o.guard with
  | none => rfl
  | some g => obtain ⟨j, want⟩ := g; simp only [yield_ok he]
end
/-- One operation where it is wanted. -/
def evOne (P : Program) (S : Sig) (call : CallA) (lo : Nat) (ops : Array Oper) (o : Oper) (e : Env) (H : Heap) : Option (AV × Heap) :=
  if wantedA ops e o then evOp P S call lo o.op e H else some (.undef, H)
def evOps (P : Program) (S : Sig) (call : CallA) (lo : Nat) (ops : Array Oper) : List Oper → Env → Heap → Option (Env × Heap)
  | [], e, H => some (e, H)
  | o :: rest, e, H => match evOne P S call lo ops o e H with
    | some (r, H1) => evOps P S call lo ops rest (putE e o.dst r) H1
    | none => none
section
variable {P : Program} {H : Heap} {Z : Zone} {ι : Inj} {w : World}
theorem evOne_eff {S : Sig} {call : CallA} {lo : Nat} {ops : Array Oper} {o : Oper} {e : Env} {r : AV} {H' : Heap} (hC : CallEff call) (hl : lo ≤ H.length) (h : evOne P S call lo ops o e H = some (r, H')) : Eff lo H H' := by
  unfold evOne at h
  split at h
  · exact evOp_eff hC hl h
  · cases h; exact Eff.refl _ _
theorem evOps_eff {S : Sig} {call : CallA} {lo : Nat} {ops : Array Oper} (hC : CallEff call) : ∀ {l : List Oper} {e e' : Env} {H H' : Heap}, lo ≤ H.length → evOps P S call lo ops l e H = some (e', H') → Eff lo H H'
  | [], e, e', H, H', hl, h => by simp only [evOps, Option.some.injEq, Prod.mk.injEq] at h; obtain ⟨rfl, rfl⟩ := h; exact Eff.refl _ _
  | o :: l, e, e', H, H', hl, h => by
    simp only [evOps] at h
    split at h
    · rename_i r H1 h1
      have g1 := evOne_eff hC hl h1
      exact g1.trans (evOps_eff hC (Nat.le_trans hl g1.1) h)
    · cases h
/-- One operation of a region, wanted or not, in the world. -/
theorem one_step {S : Sig} {call : CallA} {lo : Nat} (hE : EqOk P S.eqT) (hC : CallOk P S.G call) {ops : Array Oper} {i : Nat} {o : Oper} (ho : ops[i]? = some o) {e : Env} {a : Act} (hs : StR S.G e H Z ι a w) {r : AV} {H' : Heap}
    (h : evOne P S call lo ops o e H = some (r, H')) {K : Act → World → Prop} {Q : Exit → Act → World → Prop}
    (hk : ∀ v w' Z' ι', AVR Z' ι' r v → Inv H' Z' ι' w' → Ext H Z ι w H' Z' ι' w' → K (a.put o.dst v) w') : wpOp P ops Q i K a w := by
  unfold wpOp
  rw [ho]
  simp only [wanted_ok hs.env]
  unfold evOne at h
  split at h
  · rename_i hw
    rw [if_pos hw]
    exact .inl (op_step hE hC hs h hk)
  · rename_i hw
    rw [if_neg hw]
    cases h
    exact hk _ w Z ι .undef hs.inv (Ext.refl _ _ _ _)
theorem ops_ok {S : Sig} {call : CallA} {lo : Nat} (hE : EqOk P S.eqT) (hC : CallOk P S.G call) {ops : Array Oper} {Q : Exit → Act → World → Prop} : ∀ (l : List Oper) (k : Nat), ops.toList.drop k = l → ∀ {e e' : Env} {H H' : Heap} {Z : Zone} {ι : Inj} {a : Act} {w : World},
    StR S.G e H Z ι a w → evOps P S call lo ops l e H = some (e', H') → (∀ a' w' Z' ι', StR S.G e' H' Z' ι' a' w' → Ext H Z ι w H' Z' ι' w' → Q .normal a' w') → wpOps P ops Q (List.range' k l.length) a w
  | [], k, hk, e, e', H, H', Z, ι, a, w, hs, h, hq => by
    simp only [evOps, Option.some.injEq, Prod.mk.injEq] at h
    obtain ⟨rfl, rfl⟩ := h
    exact hq a w Z ι hs (Ext.refl _ _ _ _)
  | o :: l, k, hk, e, e', H, H', Z, ι, a, w, hs, h, hq => by
    simp only [evOps] at h
    split at h
    · rename_i r H1 h1
      have ho : ops[k]? = some o := by
        have := congrArg List.head? hk
        simp [List.head?_drop] at this
        simpa using this
      simp only [List.length_cons, List.range'_succ]
      rw [wpOps_cons]
      refine one_step hE hC ho hs h1 (fun v w' Z' ι' g1 g2 g3 => ?_)
      refine ops_ok hE hC l (k + 1) ?_ (hs.next g2 g3 g1 o.dst) h (fun a' w'' Z'' ι'' q1 q2 => hq a' w'' Z'' ι'' q1 (g3.trans q2))
      rw [← List.drop_drop, hk]; rfl
    · cases h
end
end Go.Proofs.YtbjcghnhhgdopaaGreatDoor.Ai
