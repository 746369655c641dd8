import Derived.Test.YtbjcghnhhgdopaaGreatDoorAi15
namespace Go.Proofs.YtbjcghnhhgdopaaGreatDoor.Ai
open Go Go.RowKit

section
variable {P : Program} {S : Sig} {call : CallA} {lo : Nat} {ops : Array Oper}
theorem filter_lt {α : Type} (p q : α → Bool) : ∀ (l : List α), (∀ x ∈ l, q x = true → p x = true) → (∃ x ∈ l, p x = true ∧ q x = false) → (l.filter q).length < (l.filter p).length
  | [], _, ⟨x, hx, _⟩ => by cases hx
  | y :: l, h, ⟨x, hx, h1, h2⟩ => by
    have hle : (l.filter q).length ≤ (l.filter p).length := by
      have : ∀ (m : List α), (∀ x ∈ m, q x = true → p x = true) → (m.filter q).length ≤ (m.filter p).length := by
        intro m
        induction m with
        | nil => intro _; simp
        | cons z m ih =>
          intro hm
          have h3 := ih (fun x hx => hm x (List.mem_cons_of_mem _ hx))
          have h4 := hm z List.mem_cons_self
          simp only [List.filter_cons]
          cases hq : q z with
          | true => rw [h4 hq]; simpa using h3
          | false => cases p z <;> simp <;> omega
      exact this l (fun x hx => h x (List.mem_cons_of_mem _ hx))
    simp only [List.filter_cons]
    rcases List.mem_cons.1 hx with rfl | hx
    · rw [h1, h2]; simp; omega
    · have ih := filter_lt p q l (fun x hx => h x (List.mem_cons_of_mem _ hx)) ⟨x, hx, h1, h2⟩
      have h4 := h y List.mem_cons_self
      cases hq : q y with
      | true => rw [h4 hq]; simpa using ih
      | false => cases p y <;> simp <;> omega

def heapAt (post : List Tr) (Hn : Heap) : Heap := match post with | [] => Hn | u :: _ => u.H
/-- How far the world has come, whatever was taken first. -/
structure DSt (P : Program) (S : Sig) (ops : Array Oper) (tr : List Tr) (e0 : Env) (H0 : Heap) (Z0 : Zone) (ι0 : Inj) (w0 : World) (Hn : Heap) (pre post : List Tr) (listed : Array Bool) (Z : Zone) (ι : Inj) (a : Act) (w : World) : Prop where
  split : tr = pre ++ post
  size : listed.size = ops.size
  head : post = [] ∨ ∃ u m, post = u :: m ∧ chainH u.o.op = true
  later : ∀ t ∈ post, listed.getD t.i false = false
  chain : ∀ t ∈ pre, chainH t.o.op = true → listed.getD t.i false = true
  closed : Closed ops (fun i => listed.getD i false)
  inv : Inv (heapAt post Hn) Z ι w
  glob : GlobR S.G Z
  ext : Ext H0 Z0 ι0 w0 (heapAt post Hn) Z ι w
  def_ : a.defers = []
  env : EnvR Z ι (foldE (fun i => listed.getD i false) tr e0) a.tmps
  pend : ∀ t ∈ pre, listed.getD t.i false = false → makesH t.o.op = true → wantedA ops t.e t.o = true → ι t.H.length = none ∧ H0.length ≤ t.H.length ∧ t.H.length < (heapAt post Hn).length

theorem ready_iff {listed : Array Bool} {i : Nat} (hs : listed.size = ops.size) (h : i ∈ Region.ready .any ops listed) : i < ops.size ∧ listed.getD i false = false ∧ ∃ o, ops[i]? = some o ∧ ∀ e ∈ o.after, Region.binds .any e = true → listed.getD e.on false = true := by
  unfold Region.ready at h
  rw [List.mem_filter] at h
  obtain ⟨h1, h2⟩ := h
  have hi : i < ops.size := by simpa using h1
  rw [Bool.and_eq_true] at h2
  obtain ⟨h2, h3⟩ := h2
  have hli : i < listed.size := by omega
  refine ⟨hi, by simp [Array.getD, hli] at h2 ⊢; exact h2, ops[i], Array.getElem?_eq_getElem hi, fun e he hb => ?_⟩
  rw [Array.getElem?_eq_getElem hi] at h3
  simp only [Option.map_some, Option.getD_some] at h3
  have := Array.all_eq_true_iff_forall_mem.1 h3 e he
  simpa [hb] using this

/-- What a plan's checks give, about the steps themselves. -/
structure Good (P : Program) (S : Sig) (call : CallA) (lo : Nat) (ops : Array Oper) (tr : List Tr) (e0 : Env) (H0 : Heap) (en : Env) (Hn : Heap) : Prop where
  chain : Chain P S call lo ops tr e0 H0 en Hn
  all : ∀ i, i < ops.size → ∃ t ∈ tr, t.i = i
  pair : tr.Pairwise fun t u => t.i ≠ u.i ∧ ((chainH t.o.op = true ∨ Oper.apart ops t.o u.o = false) → Anc ops t.i u.i)
  stable : allStable P S call lo ops (ancs ops) tr Hn = true
  len : tr.length ≤ ops.size
  back : ∀ i o e, ops[i]? = some o → e ∈ o.after → Region.binds .any e = true → e.on < i

theorem set_get {listed : Array Bool} {i j : Nat} (hi : i < listed.size) : (listed.setIfInBounds i true).getD j false = if j = i then true else listed.getD j false := by
  simp only [Array.getD_eq_getD_getElem?, Array.getElem?_setIfInBounds]
  by_cases hj : j = i
  · subst hj
    rw [if_pos rfl, if_pos rfl, if_pos hi]
    rfl
  · rw [if_neg (fun h => hj h.symm), if_neg hj]

theorem closed_set {listed : Array Bool} {i : Nat} (hi : i < listed.size) (hc : Closed ops (fun i => listed.getD i false)) (hr : ∀ o e, ops[i]? = some o → e ∈ o.after → Region.binds .any e = true → listed.getD e.on false = true) :
    Closed ops (fun j => (listed.setIfInBounds i true).getD j false) := by
  intro j o e ho he hb hj
  simp only [set_get hi] at hj ⊢
  split
  · rfl
  · by_cases hji : j = i
    · subst hji
      exact hr o e ho he hb
    · rw [if_neg hji] at hj
      exact hc j o e ho he hb hj

/-- What the next one looks at is what it looked at in the plan. -/
theorem looks_same {tr : List Tr} {e0 : Env} {H0 : Heap} {en : Env} {Hn : Heap} (hg : Good P S call lo ops tr e0 H0 en Hn) {listed : Array Bool} (hc : Closed ops (fun i => listed.getD i false)) {l1 l2 : List Tr} {t : Tr} (hs : tr = l1 ++ t :: l2)
    (ht : listed.getD t.i false = false) (hr : ∀ o e, ops[t.i]? = some o → e ∈ o.after → Region.binds .any e = true → listed.getD e.on false = true) :
    ∀ x, x ∈ t.o.looksAt ops ∨ t.o.dst = some x → (foldE (fun i => listed.getD i false) tr e0)[x]? = t.e[x]? := by
  intro x hx
  subst hs
  obtain ⟨g1, _⟩ := hg.chain.split
  rw [foldE_append, g1]
  simp only [foldE, ht, Bool.false_eq_true, if_false]
  have hp := hg.pair
  rw [List.pairwise_append] at hp
  obtain ⟨_, hp2, hp3⟩ := hp
  rw [List.pairwise_cons] at hp2
  have e2 : (foldE (fun i => listed.getD i false) l2 (foldE (fun i => listed.getD i false) l1 e0))[x]? = (foldE (fun _ => false) l2 (foldE (fun i => listed.getD i false) l1 e0))[x]? := by
    refine foldE_get _ _ x l2 _ _ rfl (fun u hu hd => ?_)
    cases hl : listed.getD u.i false with
    | false => rfl
    | true =>
      exfalso
      have hconf : Oper.apart ops t.o u.o = false := by
        cases hq : Oper.apart ops t.o u.o with
        | false => rfl
        | true =>
          obtain ⟨q1, q2, q3⟩ := Oper.apart_spec hq
          rcases hx with hx | hx
          · exact absurd hx (q3 x hd)
          · exact absurd hd (q2 x hx)
      have := ((hp2.1 u hu).2 (.inr hconf)).listed hc (.inl hl)
      rw [this] at ht
      cases ht
  rw [e2, foldE_none]
  refine foldE_get _ _ x l1 _ _ rfl (fun u hu hd => ?_)
  have hconf : Oper.apart ops u.o t.o = false := by
    cases hq : Oper.apart ops u.o t.o with
    | false => rfl
    | true =>
      obtain ⟨q1, q2, q3⟩ := Oper.apart_spec hq
      rcases hx with hx | hx
      · exact absurd hx (q1 x hd)
      · exact absurd hx (q2 x hd)
  have := ((hp3 u hu t List.mem_cons_self).2 (.inr hconf)).listed hc (.inr (fun o e ho he hb => hr o e ho he hb))
  exact this
theorem looks_op {o : Oper} {e e' : Env} (h : ∀ x, x ∈ o.looksAt ops → e[x]? = e'[x]?) : wantedA ops e o = wantedA ops e' o ∧ ∀ H, evOp P S call lo o.op e H = evOp P S call lo o.op e' H := by
  constructor
  · unfold wantedA
    cases hg : o.guard with
    | none => rfl
    | some g =>
      obtain ⟨j, want⟩ := g
      have : yieldA ops e j = yieldA ops e' j := by
        unfold yieldA
        cases hd : (ops[j]?).bind (·.dst) with
        | none => rfl
        | some d =>
          have hmem : d ∈ o.looksAt ops := by
            unfold Oper.looksAt
            rw [hg]
            simp [hd]
          simp only [h d hmem]
      simp only [this]
  · intro H
    refine evOp_congr (fun x hx => ?_)
    cases x with
    | tmp t =>
      simp only [evA]
      refine h t ?_
      unfold Oper.looksAt
      refine List.mem_append_left _ (List.mem_filterMap.2 ⟨.tmp t, hx, rfl⟩)
    | _ => rfl
theorem looks_one {o : Oper} {e e' : Env} (h : ∀ x, x ∈ o.looksAt ops → e[x]? = e'[x]?) (H : Heap) : evOne P S call lo ops o e H = evOne P S call lo ops o e' H := by
  obtain ⟨h1, h2⟩ := looks_op (P := P) (S := S) (call := call) (lo := lo) h
  unfold evOne
  rw [h1, h2]
/-- The environment behind it. -/
theorem env_next {tr : List Tr} {e0 : Env} {H0 : Heap} {en : Env} {Hn : Heap} (hg : Good P S call lo ops tr e0 H0 en Hn) {listed : Array Bool} (hc : Closed ops (fun i => listed.getD i false)) {l1 l2 : List Tr} {t : Tr} (hs : tr = l1 ++ t :: l2)
    (hi : t.i < listed.size) (ht : listed.getD t.i false = false) : ∀ x : Nat, (foldE (fun j => (listed.setIfInBounds t.i true).getD j false) tr e0)[x]? = (putE (foldE (fun i => listed.getD i false) tr e0) t.o.dst t.r)[x]? := by
  intro x
  subst hs
  have hp := hg.pair
  rw [List.pairwise_append] at hp
  obtain ⟨_, hp2, hp3⟩ := hp
  rw [List.pairwise_cons] at hp2
  have n1 : ∀ u ∈ l1, u.i ≠ t.i := fun u hu => (hp3 u hu t List.mem_cons_self).1
  have n2 : ∀ u ∈ l2, u.i ≠ t.i := fun u hu => fun h => (hp2.1 u hu).1 h.symm
  have f1 : ∀ e, ∀ y : Nat, (foldE (fun j => if j = t.i then true else listed.getD j false) l1 e)[y]? = (foldE (fun i => listed.getD i false) l1 e)[y]? := fun e y => foldE_get _ _ y l1 _ _ rfl (fun u hu _ => if_neg (n1 u hu))
  rw [foldE_append, foldE_append]
  simp only [foldE, ht, set_get hi, if_true, Bool.false_eq_true, if_false]
  by_cases hd : t.o.dst = some x
  · have e1 : ∀ p : Nat → Bool, (∀ u ∈ l2, p u.i = listed.getD u.i false) → ∀ e : Env, (foldE p l2 e)[x]? = e[x]? := by
      intro p hp' e
      have := foldE_get p (fun _ => false) x l2 e e rfl (fun u hu hdu => by
        rw [hp' u hu]
        cases hl : listed.getD u.i false with
        | false => rfl
        | true =>
          exfalso
          have hconf : Oper.apart ops t.o u.o = false := by
            cases hq : Oper.apart ops t.o u.o with
            | false => rfl
            | true => exact absurd hdu ((Oper.apart_spec hq).2.1 x hd)
          have := ((hp2.1 u hu).2 (.inr hconf)).listed hc (.inl hl)
          rw [this] at ht
          cases ht)
      rw [foldE_none] at this
      exact this
    rw [e1 _ (fun u hu => by rw [if_neg (n2 u hu)])]
    refine (put_get (f1 e0 x) _ _).trans (put_get ?_ _ _)
    exact (e1 _ (fun u hu => rfl) _).symm
  · rw [put_other hd]
    refine foldE_get _ _ x l2 _ _ ?_ (fun u hu _ => by rw [if_neg (n2 u hu)])
    rw [put_other hd]
    exact f1 e0 x
theorem env_of {Z : Zone} {ι : Inj} {e e' : Env} {ts : Array Value} (h : EnvR Z ι e ts) (hl : e'.length = e.length) (hx : ∀ x : Nat, e'[x]? = e[x]?) : EnvR Z ι e' ts := ⟨hl.trans h.len, fun i a v ha hv => h.at_ i a v (by rw [← hx]; exact ha) hv⟩
end
end Go.Proofs.YtbjcghnhhgdopaaGreatDoor.Ai
