import Derived.Test.YtbjcghnhhgdopaaGreatDoorAi21
namespace Go.Proofs.YtbjcghnhhgdopaaGreatDoor.Ai
open Go Go.RowKit
set_option linter.unusedSimpArgs false
set_option linter.unusedVariables false

/-! ## 22. More answers, more results -/
def CallLe (c d : CallA) : Prop := ∀ lo f as H r, c lo f as H = some r → d lo f as H = some r
def RegLe (r s : RegA) : Prop := ∀ ops draw e H x, r ops draw e H = some x → s ops draw e H = some x
theorem CallLe.refl (c : CallA) : CallLe c c := fun _ _ _ _ _ h => h
theorem CallLe.trans {a b c : CallA} (h : CallLe a b) (k : CallLe b c) : CallLe a c := fun lo f as H r hr => k lo f as H r (h lo f as H r hr)
section
variable {P : Program} {S : Sig} {c d : CallA} {lo : Nat}
theorem evOp_mono (h : CallLe c d) {o : Op} {e : Env} {H : Heap} {r : AV × Heap} (hr : evOp P S c lo o e H = some r) : evOp P S d lo o e H = some r := by
  cases o with
  | call cl =>
    obtain ⟨callee, args, ats⟩ := cl
    cases callee with
    | value fo =>
      simp only [evOp, oCall] at hr ⊢
      split at hr
      · exact h _ _ _ _ _ hr
      · exact h _ _ _ _ _ hr
      · cases hr
    | builtin b => cases b <;> exact hr
    | _ => exact hr
  | makeFunc fn first captured => cases fn <;> exact hr
  | _ => exact hr
theorem evOne_mono (h : CallLe c d) {ops : Array Oper} {o : Oper} {e : Env} {H : Heap} {r : AV × Heap} (hr : evOne P S c lo ops o e H = some r) : evOne P S d lo ops o e H = some r := by
  unfold evOne at hr ⊢
  split at hr
  · rename_i hw; rw [if_pos hw]; exact evOp_mono h hr
  · rename_i hw; rw [if_neg hw]; exact hr
theorem evOps_mono (h : CallLe c d) {ops : Array Oper} : ∀ {l : List Oper} {e : Env} {H : Heap} {r : Env × Heap}, evOps P S c lo ops l e H = some r → evOps P S d lo ops l e H = some r
  | [], e, H, r, hr => hr
  | o :: l, e, H, r, hr => by
    simp only [evOps] at hr ⊢
    split at hr
    · rename_i x H1 h1
      rw [evOne_mono h h1]
      exact evOps_mono h hr
    · cases hr
theorem runPlan_mono (h : CallLe c d) {ops : Array Oper} : ∀ {l : List Nat} {e : Env} {H : Heap} {r : List Tr × Env × Heap}, runPlan P S c lo ops l e H = some r → runPlan P S d lo ops l e H = some r
  | [], e, H, r, hr => hr
  | i :: l, e, H, r, hr => by
    simp only [runPlan] at hr ⊢
    split at hr
    · cases hr
    · rename_i o ho
      split at hr
      · cases hr
      · rename_i x H1 h1
        rw [evOne_mono h h1]
        simp only
        split at hr
        · rename_i ts e' H' h2
          rw [runPlan_mono h h2]
          exact hr
        · cases hr
theorem stableAt_mono (h : CallLe c d) {ops : Array Oper} {t : Tr} {H : Heap} (hr : stableAt P S c lo ops t H = true) : stableAt P S d lo ops t H = true := by
  unfold stableAt at hr ⊢
  split at hr
  · rename_i hw
    rw [if_pos hw]
    split at hr
    · rename_i hd
      rw [if_pos hd]
      split at hr
      · rename_i x H1 h1
        rw [evOp_mono h h1]
        exact hr
      · cases hr
    · rename_i hd
      rw [if_neg hd]
      exact hr
  · rename_i hw
    rw [if_neg hw]
theorem stableAll_mono (h : CallLe c d) {ops : Array Oper} {A : List (List Nat)} {t : Tr} : ∀ {l : List Tr} {H : Heap}, stableAll P S c lo ops A t l H = true → stableAll P S d lo ops A t l H = true
  | [], H, hr => stableAt_mono h hr
  | u :: l, H, hr => by
    simp only [stableAll] at hr ⊢
    split at hr
    · rename_i hu
      rw [if_pos hu]
      simp only [Bool.and_eq_true, Bool.or_eq_true] at hr ⊢
      exact ⟨stableAt_mono h hr.1, hr.2.imp id (stableAll_mono h)⟩
    · rename_i hu
      rw [if_neg hu]
      exact stableAll_mono h hr
theorem allStable_mono (h : CallLe c d) {ops : Array Oper} {A : List (List Nat)} : ∀ {l : List Tr} {H : Heap}, allStable P S c lo ops A l H = true → allStable P S d lo ops A l H = true
  | [], H, hr => rfl
  | t :: l, H, hr => by
    simp only [allStable, Bool.and_eq_true, Bool.or_eq_true] at hr ⊢
    exact ⟨hr.1.imp id (stableAll_mono h), allStable_mono h hr.2⟩
theorem evDraw_mono (h : CallLe c d) {ops : Array Oper} {e : Env} {H : Heap} {r : Env × Heap} (hr : evDraw P S c lo ops e H = some r) : evDraw P S d lo ops e H = some r := by
  unfold evDraw at hr ⊢
  simp only at hr ⊢
  split at hr
  · rename_i hp
    rw [if_pos hp]
    split at hr
    · rename_i ts e' H' h1
      rw [runPlan_mono h h1]
      simp only
      split at hr
      · rename_i hs
        rw [if_pos (allStable_mono h hs)]
        exact hr
      · cases hr
    · cases hr
  · cases hr
theorem regA_mono (h : CallLe c d) : RegLe (regA P S c lo) (regA P S d lo) := by
  intro ops draw e H x hx
  unfold regA at hx ⊢
  split at hx
  · rename_i hd
    rw [if_pos hd]
    exact evDraw_mono h hx
  · rename_i hd
    rw [if_neg hd]
    exact evOps_mono h hx
end
theorem evLoop_mono {b b' : Env → Heap → Option (Ex × Env × Heap)} (h : ∀ e H r, b e H = some r → b' e H = some r) : ∀ {n n' : Nat}, n ≤ n' → ∀ {e : Env} {H : Heap} {r : Ex × Env × Heap}, evLoop b n e H = some r → evLoop b' n' e H = some r
  | 0, n', _, e, H, r, hr => by simp [evLoop] at hr
  | n + 1, 0, hn, e, H, r, hr => by omega
  | n + 1, n' + 1, hn, e, H, r, hr => by
    simp only [evLoop] at hr ⊢
    split at hr
    · rename_i e1 H1 h1
      rw [h _ _ _ h1]
      exact evLoop_mono h (by omega) hr
    · rename_i q hq
      rw [h _ _ _ hr]
      cases r with
      | mk x y =>
        cases x with
        | normal => exact absurd hr (hq _ _)
        | exit i => rfl
        | ret => rfl
theorem evCode_mono {S : Sig} {r r' : RegA} (h : RegLe r r') {k k' : Nat} (hk : k ≤ k') : ∀ {c : Code} {e : Env} {H : Heap} {x : Ex × Env × Heap}, evCode S r k c e H = some x → evCode S r' k' c e H = some x
  | .skip, e, H, x, hx => hx
  | .region _ ops draw, e, H, x, hx => by
    simp only [evCode] at hx ⊢
    split at hx
    · rename_i e1 H1 h1
      rw [h _ _ _ _ _ h1]
      exact hx
    · cases hx
  | .seq a b, e, H, x, hx => by
    simp only [evCode] at hx ⊢
    split at hx
    · rename_i e1 H1 h1
      rw [evCode_mono h hk h1]
      exact evCode_mono h hk hx
    · rename_i q hq
      rw [evCode_mono h hk hx]
      obtain ⟨y, z⟩ := x
      cases y with
      | normal => exact absurd hx (hq _ _)
      | exit i => rfl
      | ret => rfl
  | .cond o a b, e, H, x, hx => by
    simp only [evCode] at hx ⊢
    split at hx
    · exact evCode_mono h hk hx
    · exact evCode_mono h hk hx
    · cases hx
  | .block id a, e, H, x, hx => by
    simp only [evCode] at hx ⊢
    split at hx
    · rename_i i e1 H1 h1
      rw [evCode_mono h hk h1]
      exact hx
    · rename_i q hq
      rw [evCode_mono h hk hx]
      obtain ⟨y, e1, H1⟩ := x
      cases y with
      | normal => rfl
      | exit i => exact absurd hx (hq _ _ _)
      | ret => rfl
  | .loop a, e, H, x, hx => by
    simp only [evCode] at hx ⊢
    exact evLoop_mono (fun e H r hr => evCode_mono h hk hr) hk hx
  | .exit id, e, H, x, hx => hx
  | .ret, e, H, x, hx => hx
  | .rangeFunc .., e, H, x, hx => by simp [evCode] at hx
  | .scope .., e, H, x, hx => by simp [evCode] at hx
  | .label .., e, H, x, hx => by simp [evCode] at hx
  | .goto .., e, H, x, hx => by simp [evCode] at hx
  | .refuse .., e, H, x, hx => by simp [evCode] at hx
theorem evBody_mono {P : Program} {S : Sig} {r r' : Nat → RegA} {lo : Nat} (h : RegLe (r lo) (r' lo)) {k k' : Nat} (hk : k ≤ k') {f : Nat} {as : List AV} {H : Heap} {x : AV × Heap} (hx : evBody P S r k lo f as H = some x) : evBody P S r' k' lo f as H = some x := by
  unfold evBody at hx ⊢
  split at hx
  · rename_i i hi
    split at hx
    · rename_i e1 H1 h1
      rw [evCode_mono h hk h1]
      exact hx
    · rename_i e1 H1 h1
      rw [evCode_mono h hk h1]
      exact hx
    · cases hx
  · cases hx
theorem evPure_mono {lo : Nat} {as : List AV} {H : Heap} {b b' : List AV → Option (AV × Heap)} (h : ∀ as r, b as = some r → b' as = some r) {x : AV × Heap} (hx : evPure lo as H b = some x) : evPure lo as H b' = some x := by
  unfold evPure at hx ⊢
  split at hx
  · rename_i as' H1 h1
    split at hx
    · rename_i r H2 h2
      rw [h _ _ h2]
      exact hx
    · cases hx
  · cases hx
section
variable {P : Program} {S : Sig} {W : Way}
theorem run_succ : ∀ k, CallLe (run P S W k) (run P S W (k + 1))
  | 0 => by intro lo f as H r h; simp [run, ev] at h
  | k + 1 => by
    have ih := run_succ k
    intro lo f as H r h
    have hm : ∀ lo, RegLe (regA P S (ev P S W (regA P S) k) lo) (regA P S (ev P S W (regA P S) (k + 1)) lo) := fun lo => regA_mono ih
    unfold run at h ⊢
    unfold ev at h ⊢
    split at h
    · exact h
    · split at h
      · rename_i hp
        rw [if_pos hp]
        exact evPure_mono (fun as r hr => evBody_mono (hm 0) (Nat.le_succ k) hr) h
      · rename_i hp
        rw [if_neg hp]
        exact evBody_mono (hm lo) (Nat.le_succ k) h
theorem run_mono {k k' : Nat} (h : k ≤ k') : CallLe (run P S W k) (run P S W k') := by
  induction h with
  | refl => exact CallLe.refl _
  | step _ ih => exact ih.trans (run_succ _)

/-! ## 23. A run without fuel -/
noncomputable def big (P : Program) (S : Sig) (W : Way) : CallA := fun lo f as H =>
  open Classical in if h : ∃ k r, run P S W k lo f as H = some r then run P S W (Classical.choose h) lo f as H else none
theorem big_of {k lo f : Nat} {as : List AV} {H : Heap} {r : AV × Heap} (h : run P S W k lo f as H = some r) : big P S W lo f as H = some r := by
  have hx : ∃ k r, run P S W k lo f as H = some r := ⟨k, r, h⟩
  unfold big
  rw [dif_pos hx]
  obtain ⟨r', hr'⟩ := Classical.choose_spec hx
  rw [hr']
  have h1 := run_mono (Nat.le_max_left k (Classical.choose hx)) _ _ _ _ _ h
  have h2 := run_mono (Nat.le_max_right k (Classical.choose hx)) _ _ _ _ _ hr'
  rw [h1] at h2
  exact h2.symm
theorem of_big {lo f : Nat} {as : List AV} {H : Heap} {r : AV × Heap} (h : big P S W lo f as H = some r) : ∃ k, run P S W k lo f as H = some r := by
  unfold big at h
  split at h
  · exact ⟨_, h⟩
  · cases h
/-- What is true from some fuel on. -/
def Soon (p : Nat → Prop) : Prop := ∃ n, ∀ k, n ≤ k → p k
theorem Soon.of {p : Nat → Prop} (h : ∀ k, p k) : Soon p := ⟨0, fun k _ => h k⟩
theorem Soon.and {p q : Nat → Prop} (h : Soon p) (g : Soon q) : Soon fun k => p k ∧ q k := by
  obtain ⟨n, h⟩ := h
  obtain ⟨m, g⟩ := g
  exact ⟨max n m, fun k hk => ⟨h k (by omega), g k (by omega)⟩⟩
theorem Soon.mono {p q : Nat → Prop} (h : Soon p) (g : ∀ k, p k → q k) : Soon q := by
  obtain ⟨n, h⟩ := h
  exact ⟨n, fun k hk => g k (h k hk)⟩
theorem Soon.map2 {p q r : Nat → Prop} (h : Soon p) (g : Soon q) (f : ∀ k, p k → q k → r k) : Soon r := (h.and g).mono fun k x => f k x.1 x.2
theorem big_soon {lo f : Nat} {as : List AV} {H : Heap} {r : AV × Heap} (h : big P S W lo f as H = some r) : Soon fun k => run P S W k lo f as H = some r := by
  obtain ⟨k, hk⟩ := of_big h
  exact ⟨k, fun m hm => run_mono hm _ _ _ _ _ hk⟩
variable {lo : Nat}
theorem evOp_soon {o : Op} {e : Env} {H : Heap} {r : AV × Heap} (hr : evOp P S (big P S W) lo o e H = some r) : Soon fun k => evOp P S (run P S W k) lo o e H = some r := by
  cases o with
  | call cl =>
    obtain ⟨callee, args, ats⟩ := cl
    cases callee with
    | value fo =>
      simp only [evOp, oCall] at hr ⊢
      split at hr
      · exact big_soon hr
      · exact big_soon hr
      · cases hr
    | builtin b => cases b <;> exact Soon.of fun _ => hr
    | _ => exact Soon.of fun _ => hr
  | makeFunc fn first captured => cases fn <;> exact Soon.of fun _ => hr
  | _ => exact Soon.of fun _ => hr
theorem evOne_soon {ops : Array Oper} {o : Oper} {e : Env} {H : Heap} {r : AV × Heap} (hr : evOne P S (big P S W) lo ops o e H = some r) : Soon fun k => evOne P S (run P S W k) lo ops o e H = some r := by
  unfold evOne at hr ⊢
  split at hr
  · rename_i hw; simp only [if_pos hw]; exact evOp_soon hr
  · rename_i hw; simp only [if_neg hw]; exact Soon.of fun _ => hr
theorem evOps_soon {ops : Array Oper} : ∀ {l : List Oper} {e : Env} {H : Heap} {r : Env × Heap}, evOps P S (big P S W) lo ops l e H = some r → Soon fun k => evOps P S (run P S W k) lo ops l e H = some r
  | [], e, H, r, hr => Soon.of fun _ => hr
  | o :: l, e, H, r, hr => by
    simp only [evOps] at hr ⊢
    split at hr
    · rename_i x H1 h1
      refine (evOne_soon h1).map2 (evOps_soon hr) (fun k g1 g2 => ?_)
      rw [g1]
      exact g2
    · cases hr
theorem runPlan_soon {ops : Array Oper} : ∀ {l : List Nat} {e : Env} {H : Heap} {r : List Tr × Env × Heap}, runPlan P S (big P S W) lo ops l e H = some r → Soon fun k => runPlan P S (run P S W k) lo ops l e H = some r
  | [], e, H, r, hr => Soon.of fun _ => hr
  | i :: l, e, H, r, hr => by
    simp only [runPlan] at hr ⊢
    split at hr
    · cases hr
    · rename_i o ho
      split at hr
      · cases hr
      · rename_i x H1 h1
        split at hr
        · rename_i ts e' H' h2
          refine (evOne_soon h1).map2 (runPlan_soon h2) (fun k g1 g2 => ?_)
          rw [g1]
          simp only
          rw [g2]
          exact hr
        · cases hr
theorem stableAt_soon {ops : Array Oper} {t : Tr} {H : Heap} (hr : stableAt P S (big P S W) lo ops t H = true) : Soon fun k => stableAt P S (run P S W k) lo ops t H = true := by
  unfold stableAt at hr ⊢
  split at hr
  · rename_i hw
    simp only [if_pos hw]
    split at hr
    · rename_i hd
      simp only [if_pos hd]
      split at hr
      · rename_i x H1 h1
        refine (evOp_soon h1).mono (fun k g1 => ?_)
        rw [g1]
        exact hr
      · cases hr
    · rename_i hd
      simp only [if_neg hd]
      exact Soon.of fun _ => hr
  · rename_i hw
    simp only [if_neg hw]
    exact Soon.of fun _ => trivial
theorem stableAll_soon {ops : Array Oper} {A : List (List Nat)} {t : Tr} : ∀ {l : List Tr} {H : Heap}, stableAll P S (big P S W) lo ops A t l H = true → Soon fun k => stableAll P S (run P S W k) lo ops A t l H = true
  | [], H, hr => stableAt_soon hr
  | u :: l, H, hr => by
    simp only [stableAll] at hr ⊢
    split at hr
    · rename_i hu
      rw [Bool.and_eq_true, Bool.or_eq_true] at hr
      rcases hr.2 with h2 | h2
      · simp only [if_pos hu]; exact (stableAt_soon hr.1).mono (fun k g1 => by rw [g1, h2]; rfl)
      · simp only [if_pos hu]; exact (stableAt_soon hr.1).map2 (stableAll_soon h2) (fun k g1 g2 => by rw [g1, g2]; simp)
    · rename_i hu
      simp only [if_neg hu]; exact stableAll_soon hr
theorem allStable_soon {ops : Array Oper} {A : List (List Nat)} : ∀ {l : List Tr} {H : Heap}, allStable P S (big P S W) lo ops A l H = true → Soon fun k => allStable P S (run P S W k) lo ops A l H = true
  | [], H, hr => Soon.of fun _ => rfl
  | t :: l, H, hr => by
    simp only [allStable, Bool.and_eq_true, Bool.or_eq_true] at hr ⊢
    rcases hr.1 with h1 | h1
    · exact (allStable_soon hr.2).mono (fun k g => ⟨.inl h1, g⟩)
    · exact (stableAll_soon h1).map2 (allStable_soon hr.2) (fun k g1 g2 => ⟨.inr g1, g2⟩)
theorem evDraw_soon {ops : Array Oper} {e : Env} {H : Heap} {r : Env × Heap} (hr : evDraw P S (big P S W) lo ops e H = some r) : Soon fun k => evDraw P S (run P S W k) lo ops e H = some r := by
  unfold evDraw at hr ⊢
  simp only at hr ⊢
  split at hr
  · rename_i hp
    split at hr
    · rename_i ts e' H' h1
      split at hr
      · rename_i hs
        refine (runPlan_soon h1).map2 (allStable_soon hs) (fun k g1 g2 => ?_)
        rw [if_pos hp, g1]
        simp only
        rw [if_pos g2]
        exact hr
      · cases hr
    · cases hr
  · cases hr
theorem regA_soon {ops : Array Oper} {draw : Bool} {e : Env} {H : Heap} {x : Env × Heap} (hx : regA P S (big P S W) lo ops draw e H = some x) : Soon fun k => regA P S (run P S W k) lo ops draw e H = some x := by
  unfold regA at hx ⊢
  split at hx
  · rename_i hd; simp only [if_pos hd]; exact evDraw_soon hx
  · rename_i hd; simp only [if_neg hd]; exact evOps_soon hx
theorem evLoop_soon {b : Env → Heap → Option (Ex × Env × Heap)} {b' : Nat → Env → Heap → Option (Ex × Env × Heap)} (h : ∀ e H r, b e H = some r → Soon fun k => b' k e H = some r) : ∀ {n : Nat} {e : Env} {H : Heap} {r : Ex × Env × Heap}, evLoop b n e H = some r → Soon fun k => evLoop (b' k) n e H = some r
  | 0, e, H, r, hr => by simp [evLoop] at hr
  | n + 1, e, H, r, hr => by
    simp only [evLoop] at hr ⊢
    split at hr
    · rename_i e1 H1 h1
      refine (h _ _ _ h1).map2 (evLoop_soon h hr) (fun k g1 g2 => ?_)
      rw [g1]
      exact g2
    · rename_i q hq
      refine (h _ _ _ hr).mono (fun k g1 => ?_)
      rw [g1]
      obtain ⟨y, z⟩ := r
      cases y with
      | normal => exact absurd hr (hq _ _)
      | exit i => rfl
      | ret => rfl
theorem evCode_soon {n : Nat} : ∀ {c : Code} {e : Env} {H : Heap} {x : Ex × Env × Heap}, evCode S (regA P S (big P S W) lo) n c e H = some x → Soon fun k => evCode S (regA P S (run P S W k) lo) n c e H = some x
  | .skip, e, H, x, hx => Soon.of fun _ => hx
  | .region _ ops draw, e, H, x, hx => by
    simp only [evCode] at hx ⊢
    split at hx
    · rename_i e1 H1 h1
      refine (regA_soon h1).mono (fun k g => ?_)
      rw [g]
      exact hx
    · cases hx
  | .seq a b, e, H, x, hx => by
    simp only [evCode] at hx ⊢
    split at hx
    · rename_i e1 H1 h1
      refine (evCode_soon h1).map2 (evCode_soon hx) (fun k g1 g2 => ?_)
      rw [g1]
      exact g2
    · rename_i q hq
      refine (evCode_soon hx).mono (fun k g => ?_)
      rw [g]
      obtain ⟨y, z⟩ := x
      cases y with
      | normal => exact absurd hx (hq _ _)
      | exit i => rfl
      | ret => rfl
  | .cond o a b, e, H, x, hx => by
    simp only [evCode] at hx ⊢
    split at hx
    · exact evCode_soon hx
    · exact evCode_soon hx
    · cases hx
  | .block id a, e, H, x, hx => by
    simp only [evCode] at hx ⊢
    split at hx
    · rename_i i e1 H1 h1
      refine (evCode_soon h1).mono (fun k g => ?_)
      rw [g]
      exact hx
    · rename_i q hq
      refine (evCode_soon hx).mono (fun k g => ?_)
      rw [g]
      obtain ⟨y, e1, H1⟩ := x
      cases y with
      | normal => rfl
      | exit i => exact absurd hx (hq _ _ _)
      | ret => rfl
  | .loop a, e, H, x, hx => by
    simp only [evCode] at hx ⊢
    exact evLoop_soon (fun e H r hr => evCode_soon hr) hx
  | .exit id, e, H, x, hx => Soon.of fun _ => hx
  | .ret, e, H, x, hx => Soon.of fun _ => hx
  | .rangeFunc .., e, H, x, hx => by simp [evCode] at hx
  | .scope .., e, H, x, hx => by simp [evCode] at hx
  | .label .., e, H, x, hx => by simp [evCode] at hx
  | .goto .., e, H, x, hx => by simp [evCode] at hx
  | .refuse .., e, H, x, hx => by simp [evCode] at hx
/-- A body over answers without fuel, and one with it. -/
theorem body_soon {n f : Nat} {as : List AV} {H : Heap} {x : AV × Heap} (hx : evBody P S (regA P S (big P S W)) n lo f as H = some x) : Soon fun k => evBody P S (regA P S (run P S W k)) k lo f as H = some x := by
  unfold evBody at hx ⊢
  have key : ∀ {c e H y}, evCode S (regA P S (big P S W) lo) n c e H = some y → Soon fun k => evCode S (regA P S (run P S W k) lo) k c e H = some y := by
    intro c e H y hy
    obtain ⟨m, hm⟩ := evCode_soon hy
    refine ⟨max n m, fun k hk => ?_⟩
    exact evCode_mono (fun _ _ _ _ _ h => h) (show n ≤ k by omega) (hm k (by omega))
  split at hx
  · rename_i i hi
    split at hx
    · rename_i e1 H1 h1
      refine (key h1).mono (fun k g => ?_)
      rw [g]
      exact hx
    · rename_i e1 H1 h1
      refine (key h1).mono (fun k g => ?_)
      rw [g]
      exact hx
    · cases hx
  · cases hx
theorem big_ext {f : Nat} {g : Nat → List AV → Heap → Option (AV × Heap)} (hg : W.ext f = some g) {as : List AV} {H : Heap} : big P S W lo f as H = g lo as H := by
  cases h : g lo as H with
  | some r => exact big_of (k := 1) (by unfold run ev; rw [hg]; exact h)
  | none =>
    cases h2 : big P S W lo f as H with
    | none => rfl
    | some r =>
      obtain ⟨k, hk⟩ := of_big h2
      cases k with
      | zero => simp [run, ev] at hk
      | succ k =>
        unfold run ev at hk
        rw [hg] at hk
        simp only at hk
        rw [h] at hk
        cases hk
theorem big_body {n f : Nat} (hg : W.ext f = none) (hp : W.pure f = false) {as : List AV} {H : Heap} {x : AV × Heap} (hx : evBody P S (regA P S (big P S W)) n lo f as H = some x) : big P S W lo f as H = some x := by
  obtain ⟨k, hk⟩ := body_soon hx
  refine big_of (k := k + 1) ?_
  unfold run ev
  rw [hg]
  simp only
  rw [if_neg (by simp [hp])]
  exact hk k (Nat.le_refl k)
/-- A function that only makes frozen data: its answer on frozen arguments. -/
def Ans (P : Program) (S : Sig) (W : Way) (f : Nat) (as : List AV) (r : AV) : Prop := ∃ n r0 H' H2, evBody P S (regA P S (big P S W)) n 0 f as [] = some (r0, H') ∧ frzVal 0 H' r0 = some (r, H2)
theorem big_pure {f : Nat} (hg : W.ext f = none) (hp : W.pure f = true) {as as' : List AV} {H H1 : Heap} {r : AV} (ha : frzArgs lo H as = some (as', H1)) (hx : Ans P S W f as' r) : big P S W lo f as H = some (r, H1) := by
  obtain ⟨n, r0, H', H2, hx, hr⟩ := hx
  obtain ⟨k, hk⟩ := body_soon hx
  refine big_of (k := k + 1) ?_
  unfold run ev
  rw [hg]
  simp only
  rw [if_pos hp]
  unfold evPure
  rw [ha]
  simp only
  have := hk k (Nat.le_refl k)
  unfold run at this
  rw [this]
  simp only
  rw [hr]
end
end Go.Proofs.YtbjcghnhhgdopaaGreatDoor.Ai
