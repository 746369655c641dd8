import Derived.Test.YtbjcghnhhgdopaaGreatDoorAi22
namespace Go.Proofs.YtbjcghnhhgdopaaGreatDoor.Ai
open Go Go.RowKit
set_option linter.unusedSimpArgs false
set_option linter.unusedVariables false

/-! ## 24. Steps of a proof about a run -/
section
variable (P : Program) (S : Sig) (W : Way) (lo : Nat)
/-- Some code, run, ends so. -/
def Run (c : Code) (e : Env) (H : Heap) (Q : Ex → Env → Heap → Prop) : Prop := ∃ n x e' H', evCode S (regA P S (big P S W) lo) n c e H = some (x, e', H') ∧ Q x e' H'
def RunOps (ops : Array Oper) (l : List Oper) (e : Env) (H : Heap) (Q : Env → Heap → Prop) : Prop := ∃ e' H', evOps P S (big P S W) lo ops l e H = some (e', H') ∧ Q e' H'
def RunDraw (ops : Array Oper) (e : Env) (H : Heap) (Q : Env → Heap → Prop) : Prop := ∃ e' H', evDraw P S (big P S W) lo ops e H = some (e', H') ∧ Q e' H'
/-- What comes behind. -/
def thenQ (b : Code) (Q : Ex → Env → Heap → Prop) : Ex → Env → Heap → Prop
  | .normal, e, H => Run P S W lo b e H Q
  | x, e, H => Q x e H
def blockQ (id : Nat) (Q : Ex → Env → Heap → Prop) : Ex → Env → Heap → Prop
  | .exit i, e, H => if i = id then Q .normal e H else Q (.exit i) e H
  | x, e, H => Q x e H
def condQ (v : Option AV) (A B : Prop) : Prop := match v with
  | some (.f (.bool b)) => (b = true → A) ∧ (b = false → B)
  | _ => False
def stepQ (v : Option (AV × Heap)) (Q : AV → Heap → Prop) : Prop := match v with
  | some (r, H) => Q r H
  | none => False
@[simp] theorem thenQ_normal {b Q e H} : thenQ P S W lo b Q .normal e H = Run P S W lo b e H Q := rfl
@[simp] theorem thenQ_exit {b Q i e H} : thenQ P S W lo b Q (.exit i) e H = Q (.exit i) e H := rfl
@[simp] theorem thenQ_ret {b Q e H} : thenQ P S W lo b Q .ret e H = Q .ret e H := rfl
end
@[simp] theorem blockQ_normal {id Q e H} : blockQ id Q .normal e H = Q .normal e H := rfl
@[simp] theorem blockQ_exit {id Q i e H} : blockQ id Q (.exit i) e H = if i = id then Q .normal e H else Q (.exit i) e H := rfl
@[simp] theorem blockQ_ret {id Q e H} : blockQ id Q .ret e H = Q .ret e H := rfl
@[simp] theorem condQ_bool {b A B} : condQ (some (.f (.bool b))) A B = ((b = true → A) ∧ (b = false → B)) := rfl
@[simp] theorem stepQ_some {r H Q} : stepQ (some (r, H)) Q = Q r H := rfl
section
variable {P : Program} {S : Sig} {W : Way} {lo : Nat} {e : Env} {H : Heap} {Q : Ex → Env → Heap → Prop}
theorem Run.mono {c : Code} {Q' : Ex → Env → Heap → Prop} (h : Run P S W lo c e H Q) (g : ∀ x e H, Q x e H → Q' x e H) : Run P S W lo c e H Q' := by
  obtain ⟨n, x, e', H', h1, h2⟩ := h
  exact ⟨n, x, e', H', h1, g _ _ _ h2⟩
theorem run_skip : Run P S W lo .skip e H Q ↔ Q .normal e H := by
  refine ⟨?_, fun h => ⟨0, _, _, _, rfl, h⟩⟩
  rintro ⟨n, x, e', H', h1, h2⟩
  simp only [evCode, Option.some.injEq, Prod.mk.injEq] at h1
  obtain ⟨rfl, rfl, rfl⟩ := h1
  exact h2
theorem run_exit {id : Nat} : Run P S W lo (.exit id) e H Q ↔ Q (.exit id) e H := by
  refine ⟨?_, fun h => ⟨0, _, _, _, rfl, h⟩⟩
  rintro ⟨n, x, e', H', h1, h2⟩
  simp only [evCode, Option.some.injEq, Prod.mk.injEq] at h1
  obtain ⟨rfl, rfl, rfl⟩ := h1
  exact h2
theorem run_ret : Run P S W lo .ret e H Q ↔ Q .ret e H := by
  refine ⟨?_, fun h => ⟨0, _, _, _, rfl, h⟩⟩
  rintro ⟨n, x, e', H', h1, h2⟩
  simp only [evCode, Option.some.injEq, Prod.mk.injEq] at h1
  obtain ⟨rfl, rfl, rfl⟩ := h1
  exact h2
theorem run_seq {a b : Code} : Run P S W lo (.seq a b) e H Q ↔ Run P S W lo a e H (thenQ P S W lo b Q) := by
  constructor
  · rintro ⟨n, x, e', H', h1, h2⟩
    simp only [evCode] at h1
    split at h1
    · rename_i e1 H1 h3
      exact ⟨n, _, _, _, h3, ⟨n, _, _, _, h1, h2⟩⟩
    · rename_i q hq
      refine ⟨n, _, _, _, h1, ?_⟩
      cases x with
      | normal => exact absurd h1 (hq _ _)
      | exit i => exact h2
      | ret => exact h2
  · rintro ⟨n, x, e1, H1, h1, h2⟩
    cases x with
    | normal =>
      obtain ⟨m, y, e2, H2, g1, g2⟩ := h2
      refine ⟨max n m, y, e2, H2, ?_, g2⟩
      simp only [evCode]
      rw [evCode_mono (fun _ _ _ _ _ h => h) (Nat.le_max_left n m) h1]
      exact evCode_mono (fun _ _ _ _ _ h => h) (Nat.le_max_right n m) g1
    | exit i =>
      refine ⟨n, _, _, _, ?_, h2⟩
      simp only [evCode]
      rw [h1]
    | ret =>
      refine ⟨n, _, _, _, ?_, h2⟩
      simp only [evCode]
      rw [h1]
theorem run_block {id : Nat} {a : Code} : Run P S W lo (.block id a) e H Q ↔ Run P S W lo a e H (blockQ id Q) := by
  constructor
  · rintro ⟨n, x, e', H', h1, h2⟩
    simp only [evCode] at h1
    split at h1
    · rename_i i e1 H1 h3
      split at h1
      · rename_i hi
        simp only [Option.some.injEq, Prod.mk.injEq] at h1
        obtain ⟨rfl, rfl, rfl⟩ := h1
        exact ⟨n, _, _, _, h3, by simp [hi, h2]⟩
      · rename_i hi
        simp only [Option.some.injEq, Prod.mk.injEq] at h1
        obtain ⟨rfl, rfl, rfl⟩ := h1
        exact ⟨n, _, _, _, h3, by simp [hi, h2]⟩
    · rename_i q hq
      refine ⟨n, _, _, _, h1, ?_⟩
      cases x with
      | normal => exact h2
      | exit i => exact absurd h1 (hq _ _ _)
      | ret => exact h2
  · rintro ⟨n, x, e1, H1, h1, h2⟩
    cases x with
    | normal => exact ⟨n, _, _, _, by simp only [evCode]; rw [h1], h2⟩
    | exit i =>
      by_cases hi : i = id
      · simp only [blockQ_exit, if_pos hi] at h2
        exact ⟨n, .normal, _, _, by simp only [evCode]; rw [h1]; simp [hi], h2⟩
      · simp only [blockQ_exit, if_neg hi] at h2
        exact ⟨n, .exit i, _, _, by simp only [evCode]; rw [h1]; simp [hi], h2⟩
    | ret => exact ⟨n, _, _, _, by simp only [evCode]; rw [h1], h2⟩
theorem run_cond {o : Operand} {a b : Code} : Run P S W lo (.cond o a b) e H Q ↔ condQ (evA S.G e o) (Run P S W lo a e H Q) (Run P S W lo b e H Q) := by
  constructor
  · rintro ⟨n, x, e', H', h1, h2⟩
    simp only [evCode] at h1
    split at h1
    · rename_i h3
      rw [h3, condQ_bool]
      exact ⟨fun _ => ⟨n, x, e', H', h1, h2⟩, fun h => by cases h⟩
    · rename_i h3
      rw [h3, condQ_bool]
      exact ⟨(fun h => by cases h), fun _ => ⟨n, x, e', H', h1, h2⟩⟩
    · cases h1
  · intro h
    unfold condQ at h
    split at h
    · rename_i bb h3
      cases bb with
      | true =>
        obtain ⟨n, x, e', H', h1, h2⟩ := h.1 rfl
        exact ⟨n, x, e', H', by simp only [evCode]; rw [h3]; exact h1, h2⟩
      | false =>
        obtain ⟨n, x, e', H', h1, h2⟩ := h.2 rfl
        exact ⟨n, x, e', H', by simp only [evCode]; rw [h3]; exact h1, h2⟩
    · cases h
theorem run_region {id : Nat} {ops : Array Oper} : Run P S W lo (.region id ops false) e H Q ↔ RunOps P S W lo ops ops.toList e H (Q .normal) := by
  constructor
  · rintro ⟨n, x, e', H', h1, h2⟩
    simp only [evCode, regA, Bool.false_eq_true, if_false] at h1
    split at h1
    · rename_i e1 H1 h3
      simp only [Option.some.injEq, Prod.mk.injEq] at h1
      obtain ⟨rfl, rfl, rfl⟩ := h1
      exact ⟨_, _, h3, h2⟩
    · cases h1
  · rintro ⟨e1, H1, h1, h2⟩
    exact ⟨0, .normal, e1, H1, by simp only [evCode, regA, Bool.false_eq_true, if_false]; rw [h1], h2⟩
theorem run_draw {id : Nat} {ops : Array Oper} : Run P S W lo (.region id ops true) e H Q ↔ RunDraw P S W lo ops e H (Q .normal) := by
  constructor
  · rintro ⟨n, x, e', H', h1, h2⟩
    simp only [evCode, regA, if_true] at h1
    split at h1
    · rename_i e1 H1 h3
      simp only [Option.some.injEq, Prod.mk.injEq] at h1
      obtain ⟨rfl, rfl, rfl⟩ := h1
      exact ⟨_, _, h3, h2⟩
    · cases h1
  · rintro ⟨e1, H1, h1, h2⟩
    exact ⟨0, .normal, e1, H1, by simp only [evCode, regA, if_true]; rw [h1], h2⟩
theorem runOps_nil {ops : Array Oper} {K : Env → Heap → Prop} : RunOps P S W lo ops [] e H K ↔ K e H := by
  refine ⟨?_, fun h => ⟨_, _, rfl, h⟩⟩
  rintro ⟨e', H', h1, h2⟩
  simp only [evOps, Option.some.injEq, Prod.mk.injEq] at h1
  obtain ⟨rfl, rfl⟩ := h1
  exact h2
theorem runOps_cons {ops : Array Oper} {o : Oper} {l : List Oper} {K : Env → Heap → Prop} : RunOps P S W lo ops (o :: l) e H K ↔ stepQ (evOne P S (big P S W) lo ops o e H) fun r H1 => RunOps P S W lo ops l (putE e o.dst r) H1 K := by
  unfold stepQ
  constructor
  · rintro ⟨e', H', h1, h2⟩
    simp only [evOps] at h1
    split at h1
    · rename_i r H1 h3
      rw [h3]
      exact ⟨_, _, h1, h2⟩
    · cases h1
  · intro h
    split at h
    · rename_i r H1 h3
      obtain ⟨e', H', h1, h2⟩ := h
      exact ⟨e', H', by simp only [evOps]; rw [h3]; exact h1, h2⟩
    · cases h
/-- A loop, by what is so at the beginning of each round, and something that falls. -/
theorem run_loop {α : Type} {c : Code} (R : α → α → Prop) (wf : WellFounded R) (I : α → Env → Heap → Prop)
    (body : ∀ a e H, I a e H → Run P S W lo c e H fun x e' H' => match x with | .normal => ∃ b, R b a ∧ I b e' H' | x => Q x e' H') :
    ∀ (a : α) (e : Env) (H : Heap), I a e H → Run P S W lo (.loop c) e H Q := by
  intro a
  induction a using wf.induction with
  | _ a ih =>
    intro e H hI
    obtain ⟨n, x, e1, H1, h1, h2⟩ := body a e H hI
    cases x with
    | normal =>
      obtain ⟨b, hb, hI'⟩ := h2
      obtain ⟨m, y, e2, H2, g1, g2⟩ := ih b hb e1 H1 hI'
      simp only [evCode] at g1
      refine ⟨max n m + 1, y, e2, H2, ?_, g2⟩
      simp only [evCode, evLoop]
      rw [evCode_mono (fun _ _ _ _ _ h => h) (by omega) h1]
      exact evLoop_mono (fun e H r hr => evCode_mono (fun _ _ _ _ _ h => h) (by omega) hr) (Nat.le_max_right n m) g1
    | exit i => exact ⟨n + 1, _, _, _, by simp only [evCode, evLoop]; rw [evCode_mono (fun _ _ _ _ _ h => h) (Nat.le_succ n) h1], h2⟩
    | ret => exact ⟨n + 1, _, _, _, by simp only [evCode, evLoop]; rw [evCode_mono (fun _ _ _ _ _ h => h) (Nat.le_succ n) h1], h2⟩
/-- What a body hands back. -/
def retQ (P : Program) (rs : List ResultVar) (Q : AV → Heap → Prop) : Ex → Env → Heap → Prop
  | .exit _, _, _ => False
  | _, e, H => match resA P H e rs with
    | some l => Q (tupA l) H
    | none => False
theorem body_of {f : Nat} {i : FnI} (hf : fnOf P f = some i) {as : List AV} {K : AV → Heap → Prop} (h : Run P S W lo i.body (as ++ List.replicate (i.ntmps - as.length) .undef) H (retQ P i.results K)) :
    ∃ n r H', evBody P S (regA P S (big P S W)) n lo f as H = some (r, H') ∧ K r H' := by
  obtain ⟨n, x, e', H', h1, h2⟩ := h
  unfold retQ at h2
  split at h2
  · cases h2
  · rename_i hx
    split at h2
    · rename_i l hl
      refine ⟨n, _, _, ?_, h2⟩
      unfold evBody
      rw [hf]
      simp only
      rw [h1]
      cases x with
      | normal => simp only [hl, Option.map_some]
      | exit i => exact (hx i rfl).elim
      | ret => simp only [hl, Option.map_some]
    · cases h2
/-- A call in the heap at hand. -/
theorem call_of {f : Nat} {i : FnI} (hf : fnOf P f = some i) (hg : W.ext f = none) (hp : W.pure f = false) {as : List AV} {K : AV → Heap → Prop} (h : Run P S W lo i.body (as ++ List.replicate (i.ntmps - as.length) .undef) H (retQ P i.results K)) :
    ∃ r H', big P S W lo f as H = some (r, H') ∧ K r H' := by
  obtain ⟨n, r, H', h1, h2⟩ := body_of hf h
  exact ⟨r, H', big_body hg hp h1, h2⟩
/-- A function that only makes frozen data. -/
theorem ans_of {f : Nat} {i : FnI} (hf : fnOf P f = some i) {as : List AV} {r : AV} (h : Run P S W 0 i.body (as ++ List.replicate (i.ntmps - as.length) .undef) [] (retQ P i.results fun v H' => (frzVal 0 H' v).map (·.1) = some r)) : Ans P S W f as r := by
  obtain ⟨n, r0, H', h1, h2⟩ := body_of hf h
  rw [Option.map_eq_some_iff] at h2
  obtain ⟨⟨r', H2⟩, h2, rfl⟩ := h2
  exact ⟨n, r0, H', H2, h1, h2⟩
end
end Go.Proofs.YtbjcghnhhgdopaaGreatDoor.Ai
