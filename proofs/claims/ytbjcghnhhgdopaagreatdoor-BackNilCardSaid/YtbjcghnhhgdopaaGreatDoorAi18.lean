import Derived.Test.YtbjcghnhhgdopaaGreatDoorAi17
namespace Go.Proofs.YtbjcghnhhgdopaaGreatDoor.Ai
open Go Go.RowKit

/-! ## 18. Functions whose answers on frozen arguments are known -/
section
variable {P : Program} {S : Sig} {W : Way}
/-- A function's text, run over a heap of its own, on frozen arguments; its result is frozen. -/
def bodyA (P : Program) (S : Sig) (W : Way) (k f : Nat) (as : List AV) : Option AV :=
  match evBody P S (regA P S (run P S W k)) k 0 f as [] with
  | some (r, H) => (frzVal 0 H r).map (·.1)
  | none => none
/-- The call of one whose answers are known. -/
def extPure (g : List AV → Option AV) (lo : Nat) (as : List AV) (H : Heap) : Option (AV × Heap) :=
  match frzArgs lo H as with
  | some (as', H1) => (g as').map (·, H1)
  | none => none
/-- A way, and some functions whose answers are known. -/
def Way.add (W : Way) (F : Nat → Option (List AV → Option AV)) : Way := ⟨W.pure, fun f => match F f with
  | some g => some (extPure g)
  | none => W.ext f⟩
/-- The known answers are what the functions' texts tell. -/
def Known (P : Program) (S : Sig) (W : Way) (F : Nat → Option (List AV → Option AV)) : Prop := ∀ f g, F f = some g → ∀ as r, g as = some r → ∃ k, bodyA P S W k f as = some r
theorem body_call (hm : P.follows .mixedOrders = true) (hE : EqOk P S.eqT) (hX : ExtOk P S W) {k f lo : Nat} {as : List AV} {H : Heap} {r : AV} {H' : Heap} (h : extPure (bodyA P S W k f) lo as H = some (r, H')) :
    Eff lo H H' ∧ ∀ Z ι w vs, Inv H Z ι w → GlobR S.G Z → LRel Z ι as vs → Enters P f ∧ Calls P f vs.toArray w fun e w' => ∃ v Z' ι', e = .returned v ∧ AVR Z' ι' r v ∧ Inv H' Z' ι' w' ∧ Ext H Z ι w H' Z' ι' w' := by
  refine pure_ok (body := fun as => evBody P S (regA P S (run P S W k)) k 0 f as []) (fun as r H' hb => (body_ok (reg_ok hm hE (run_ok hm hE hX k)) hb).2) ?_
  unfold extPure at h
  unfold evPure
  split at h
  · rename_i as' H1 h1
    rw [h1]
    simp only
    unfold bodyA at h
    split at h
    · rename_i r1 H2 h2
      rw [h2]
      simp only
      cases h3 : frzVal 0 H2 r1 with
      | none => simp [h3] at h
      | some x => obtain ⟨x1, x2⟩ := x; simpa [h3] using h
    · simp at h
  · cases h
theorem add_ok (hm : P.follows .mixedOrders = true) (hE : EqOk P S.eqT) (hX : ExtOk P S W) {F : Nat → Option (List AV → Option AV)} (hF : Known P S W F) : ExtOk P S (W.add F) := by
  intro f g hg lo as H r H' h
  unfold Way.add at hg
  simp only at hg
  split at hg
  · rename_i g' hg'
    cases hg
    unfold extPure at h
    split at h
    · rename_i as' H1 h1
      cases h2 : g' as' with
      | none => simp [h2] at h
      | some r' =>
        obtain ⟨k, hk⟩ := hF f g' hg' as' r' h2
        have h3 : extPure (bodyA P S W k f) lo as H = some (r, H') := by
          unfold extPure
          rw [h1]
          simp only [hk]
          simpa [h2] using h
        obtain ⟨q1, q2⟩ := body_call hm hE hX h3
        exact ⟨fun _ => q1, fun Z ι w vs hI hG hA => .inl (q2 Z ι w vs hI hG hA)⟩
    · cases h
  · exact hX f g hg lo as H r H' h

/-! Answers by a table: function, arguments, result. -/
def sameL : List AV → List AV → Bool
  | [], [] => true
  | a :: l, b :: m => AV.same a b && sameL l m
  | _, _ => false
theorem sameL_eq : ∀ (l m : List AV), sameL l m = true → l = m
  | [], [], _ => rfl
  | a :: l, b :: m, h => by
    simp only [sameL, Bool.and_eq_true] at h
    rw [AV.same_eq _ _ h.1, sameL_eq l m h.2]
  | [], _ :: _, h => by simp [sameL] at h
  | _ :: _, [], h => by simp [sameL] at h
abbrev Tab := List (Nat × List AV × AV)
def Tab.look (T : Tab) (f : Nat) (as : List AV) : Option AV := match T with
  | [] => none
  | (g, bs, r) :: T => if g = f then (if sameL bs as then some r else Tab.look T f as) else Tab.look T f as
def Tab.has (T : Tab) (f : Nat) : Bool := match T with
  | [] => false
  | (g, _, _) :: T => if g = f then true else Tab.has T f
def Tab.fns (T : Tab) : Nat → Option (List AV → Option AV) := fun f => if T.has f then some (T.look f) else none
theorem Tab.look_mem : ∀ (T : Tab) {f as r}, T.look f as = some r → (f, as, r) ∈ T
  | [], f, as, r, h => by simp [Tab.look] at h
  | (g, bs, q) :: T, f, as, r, h => by
    unfold Tab.look at h
    split at h
    · rename_i hg
      split at h
      · rename_i hs
        cases h
        rw [← sameL_eq _ _ hs, ← hg]
        exact List.mem_cons_self
      · exact List.mem_cons_of_mem _ (Tab.look_mem T h)
    · exact List.mem_cons_of_mem _ (Tab.look_mem T h)
theorem tab_known {T : Tab} (h : ∀ x, x ∈ T → ∃ k, bodyA P S W k x.1 x.2.1 = some x.2.2) : Known P S W T.fns := by
  intro f g hg as r hr
  unfold Tab.fns at hg
  split at hg
  · cases hg
    exact h _ (Tab.look_mem T hr)
  · cases hg
theorem tab_nil {W : Way} : ∀ x : Nat × List AV × AV, x ∈ ([] : Tab) → ∃ k, bodyA P S W k x.1 x.2.1 = some x.2.2 := fun _ h => by cases h
theorem tab_cons {T : Tab} {f : Nat} {as : List AV} {r : AV} (k : Nat) (h : bodyA P S W k f as = some r) (ht : ∀ x, x ∈ T → ∃ k, bodyA P S W k x.1 x.2.1 = some x.2.2) : ∀ x, x ∈ ((f, as, r) :: T : Tab) → ∃ k, bodyA P S W k x.1 x.2.1 = some x.2.2 := by
  intro x hx
  rcases List.mem_cons.1 hx with rfl | hx
  · exact ⟨k, h⟩
  · exact ht x hx
theorem none_ok {p : Nat → Bool} : ExtOk P S ⟨p, fun _ => none⟩ := by
  intro f g hg
  cases hg

/-! A law's run. -/
/-- What a world holds at first: everything is frozen. -/
def zone0 (w : World) : Zone := fun b o => w.cell? ⟨b, o, none⟩
theorem inv0 (w : World) : Inv [] (zone0 w) (fun _ => none) w := ⟨fun _ _ _ h => h, fun id k L h => by simp at h, fun id L h => (by cases h), fun i j L M h => by cases h⟩
theorem law_run (hm : P.follows .mixedOrders = true) (hE : EqOk P S.eqT) (hX : ExtOk P S W) {k f : Nat} {as : List AV} {H' : Heap} (h : evBody P S (regA P S (run P S W k)) k 0 f as [] = some (.f (.bool true), H'))
    {w : World} {vs : List Value} (hG : GlobR S.G (zone0 w)) (hA : LRel (zone0 w) (fun _ => none) as vs) : Calls P f vs.toArray w fun e w' => e = .returned (.bool true) ∧ Below w.heap.size w w' := by
  obtain ⟨_, q⟩ := body_ok (reg_ok hm hE (run_ok hm hE hX k)) h
  obtain ⟨_, q⟩ := q (zone0 w) (fun _ => none) w vs (inv0 w) hG hA
  refine q.mono ?_
  rintro e w' ⟨v, Z', ι', rfl, hv, hI, hx⟩
  cases hv with
  | f _ _ hv =>
    cases hv
    exact ⟨rfl, hx.os, hx.tape, hx.output, hx.size, fun B hB => hx.keep B hB (fun id L hL => by cases hL)⟩
end
end Go.Proofs.YtbjcghnhhgdopaaGreatDoor.Ai
