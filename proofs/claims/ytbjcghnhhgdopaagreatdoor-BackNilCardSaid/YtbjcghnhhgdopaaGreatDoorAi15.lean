import Derived.Test.YtbjcghnhhgdopaaGreatDoorAi14
namespace Go.Proofs.YtbjcghnhhgdopaaGreatDoor.Ai
open Go Go.RowKit
set_option linter.unusedSimpArgs false

/-! ## 16. Regions whose order Go leaves open -/
structure Tr where
  i : Nat
  o : Oper
  e : Env
  H : Heap
  r : AV
  H1 : Heap
def addAll (l m : List Nat) : List Nat := l.foldl (fun s x => if s.contains x then s else x :: s) m
def ancRow (acc : List (List Nat)) (o : Oper) : List Nat := o.after.toList.foldl (fun s e => if Region.binds .any e then addAll (e.on :: acc.getD e.on []) s else s) []
def ancGo : List Oper → List (List Nat) → List (List Nat)
  | [], acc => acc
  | o :: l, acc => ancGo l (acc ++ [ancRow acc o])
def ancs (ops : Array Oper) : List (List Nat) := ancGo ops.toList []
def isAnc (A : List (List Nat)) (i j : Nat) : Bool := (A.getD j []).contains i
def opAt (ops : Array Oper) (i : Nat) : Oper := ops.getD i ⟨none, .move (.tmp 0), 0, "", #[], none⟩
def pairOk (ops : Array Oper) (A : List (List Nat)) (i j : Nat) : Bool := !(chainH (opAt ops i).op || !(Oper.apart ops (opAt ops i) (opAt ops j))) || isAnc A i j
def orderOk (ops : Array Oper) (A : List (List Nat)) : List Nat → Bool
  | [] => true
  | i :: rest => rest.all (pairOk ops A i) && !rest.contains i && orderOk ops A rest
def backOk (ops : Array Oper) : Bool := (List.range ops.size).all fun i => (opAt ops i).after.toList.all fun e => !Region.binds .any e || decide (e.on < i)
def planOk (ops : Array Oper) (A : List (List Nat)) (π : List Nat) : Bool := π.length == ops.size && (List.range ops.size).all (fun i => π.contains i) && orderOk ops A π && backOk ops
def planGo (ops : Array Oper) : Nat → Array Bool → List Nat → List Nat
  | 0, _, acc => acc.reverse
  | n + 1, listed, acc =>
    match (Region.ready .any ops listed).find? (fun i => !chainH (opAt ops i).op) with
    | some i => planGo ops n (listed.setIfInBounds i true) (i :: acc)
    | none => match Region.ready .any ops listed with
      | i :: _ => planGo ops n (listed.setIfInBounds i true) (i :: acc)
      | [] => acc.reverse
def planOf (ops : Array Oper) : List Nat := planGo ops ops.size (Array.replicate ops.size false) []

section
variable (P : Program) (S : Sig) (call : CallA) (lo : Nat) (ops : Array Oper)
def runPlan : List Nat → Env → Heap → Option (List Tr × Env × Heap)
  | [], e, H => some ([], e, H)
  | i :: l, e, H => match ops[i]? with
    | none => none
    | some o => match evOne P S call lo ops o e H with
      | none => none
      | some (r, H1) => match runPlan l (putE e o.dst r) H1 with
        | some (ts, e', H') => some (⟨i, o, e, H, r, H1⟩ :: ts, e', H')
        | none => none
def stableAt (t : Tr) (H2 : Heap) : Bool :=
  if wantedA ops t.e t.o then
    if readsH t.o.op then match evOp P S call lo t.o.op t.e H2 with
      | some (r, _) => AV.same r t.r
      | none => false
    else if makesH t.o.op then match H2[t.H.length]?, t.H1[t.H.length]? with
      | some k, some k' => sameBlk k k'
      | _, _ => false
    else true
  else true
def stableAll (A : List (List Nat)) (t : Tr) : List Tr → Heap → Bool
  | [], Hn => stableAt P S call lo ops t Hn
  | u :: rest, Hn => if chainH u.o.op then stableAt P S call lo ops t u.H && (isAnc A t.i u.i || stableAll A t rest Hn) else stableAll A t rest Hn
def allStable (A : List (List Nat)) : List Tr → Heap → Bool
  | [], _ => true
  | t :: rest, Hn => (chainH t.o.op || stableAll P S call lo ops A t rest Hn) && allStable A rest Hn
def evDraw (e : Env) (H : Heap) : Option (Env × Heap) :=
  let A := ancs ops
  let π := planOf ops
  if decide (lo ≤ H.length) && planOk ops A π then match runPlan P S call lo ops π e H with
    | some (ts, e', H') => if allStable P S call lo ops A ts H' then some (e', H') else none
    | none => none
  else none
end

/-! ### what the checks say -/
inductive Anc (ops : Array Oper) : Nat → Nat → Prop
  | edge (j o e) (h : ops[j]? = some o) (he : e ∈ o.after) (hb : Region.binds .any e = true) : Anc ops e.on j
  | trans (i j o e) (h : ops[j]? = some o) (he : e ∈ o.after) (hb : Region.binds .any e = true) (hi : Anc ops i e.on) : Anc ops i j
theorem mem_addAll : ∀ (l m : List Nat) (x : Nat), x ∈ addAll l m → x ∈ l ∨ x ∈ m
  | [], m, x, h => .inr h
  | y :: l, m, x, h => by
    simp only [addAll, List.foldl_cons] at h
    have h' : x ∈ addAll l (if m.contains y then m else y :: m) := h
    rcases mem_addAll l _ x h' with h1 | h1
    · exact .inl (List.mem_cons_of_mem _ h1)
    · split at h1
      · exact .inr h1
      · rcases List.mem_cons.1 h1 with rfl | h2
        · exact .inl List.mem_cons_self
        · exact .inr h2
theorem mem_ancRow {ops : Array Oper} {j : Nat} {o : Oper} (ho : ops[j]? = some o) {acc : List (List Nat)} (hacc : ∀ k s x, acc[k]? = some s → x ∈ s → Anc ops x k) : ∀ x, x ∈ ancRow acc o → Anc ops x j := by
  have key : ∀ (l : List Edge) (s : List Nat), (∀ e ∈ l, e ∈ o.after.toList) → (∀ x ∈ s, Anc ops x j) → ∀ x ∈ l.foldl (fun s e => if Region.binds .any e then addAll (e.on :: acc.getD e.on []) s else s) s, Anc ops x j := by
    intro l
    induction l with
    | nil => intro s _ hs x hx; exact hs x hx
    | cons e l ih =>
      intro s hl hs x hx
      simp only [List.foldl_cons] at hx
      refine ih _ (fun e he => hl e (List.mem_cons_of_mem _ he)) ?_ x hx
      intro y hy
      have hem : e ∈ o.after := by have := hl e List.mem_cons_self; simpa using this
      split at hy
      · rename_i hb
        rcases mem_addAll _ _ _ hy with h1 | h1
        · rcases List.mem_cons.1 h1 with rfl | h2
          · exact .edge j o e ho hem hb
          · refine .trans y j o e ho hem hb ?_
            rw [List.getD_eq_getElem?_getD] at h2
            cases hq : acc[e.on]? with
            | none => rw [hq] at h2; simp at h2
            | some s' => rw [hq] at h2; exact hacc _ _ _ hq h2
        · exact hs y h1
      · exact hs y hy
  intro x hx
  exact key o.after.toList [] (fun e he => he) (fun x hx => by simp at hx) x hx
theorem ancGo_ok (ops : Array Oper) : ∀ (l : List Oper) (acc : List (List Nat)), ops.toList.drop acc.length = l → (∀ k s x, acc[k]? = some s → x ∈ s → Anc ops x k) → ∀ k s x, (ancGo l acc)[k]? = some s → x ∈ s → Anc ops x k
  | [], acc, _, h => h
  | o :: l, acc, hd, h => by
    have ho : ops[acc.length]? = some o := by
      have := congrArg List.head? hd
      simp [List.head?_drop] at this
      simpa using this
    refine ancGo_ok ops l (acc ++ [ancRow acc o]) ?_ (fun k s x hk hx => ?_)
    · rw [List.length_append, List.length_singleton, ← List.drop_drop, hd]; rfl
    · rcases Nat.lt_or_ge k acc.length with hlt | hge
      · rw [List.getElem?_append_left hlt] at hk
        exact h k s x hk hx
      · rw [List.getElem?_append_right hge] at hk
        have hk0 : k - acc.length = 0 := by
          have := (List.getElem?_eq_some_iff.1 hk).1
          simp at this
          omega
        rw [hk0] at hk
        simp at hk
        subst hk
        have : k = acc.length := by omega
        subst this
        exact mem_ancRow ho h x hx
theorem isAnc_ok {ops : Array Oper} {i j : Nat} (h : isAnc (ancs ops) i j = true) : Anc ops i j := by
  unfold isAnc at h
  rw [List.getD_eq_getElem?_getD] at h
  cases hq : (ancs ops)[j]? with
  | none => rw [hq] at h; simp at h
  | some s =>
    rw [hq] at h
    exact ancGo_ok ops ops.toList [] rfl (fun k s x hk => by simp at hk) j s i hq (by simpa using h)
/-- What is listed is closed under what must come first. -/
def Closed (ops : Array Oper) (p : Nat → Bool) : Prop := ∀ j o e, ops[j]? = some o → e ∈ o.after → Region.binds .any e = true → p j = true → p e.on = true
theorem Anc.listed {ops : Array Oper} {p : Nat → Bool} (hc : Closed ops p) {i j : Nat} (h : Anc ops i j) (hj : p j = true ∨ ∀ o e, ops[j]? = some o → e ∈ o.after → Region.binds .any e = true → p e.on = true) : p i = true := by
  induction h with
  | edge j o e h he hb =>
    rcases hj with hj | hj
    · exact hc j o e h he hb hj
    · exact hj o e h he hb
  | trans i j o e h he hb hi ih =>
    apply ih
    rcases hj with hj | hj
    · exact .inl (hc j o e h he hb hj)
    · exact .inl (hj o e h he hb)

/-- The environment that the listed ones have made. -/
def foldE (p : Nat → Bool) : List Tr → Env → Env
  | [], e => e
  | t :: l, e => foldE p l (if p t.i then putE e t.o.dst t.r else e)
theorem foldE_append (p : Nat → Bool) : ∀ (l m : List Tr) (e : Env), foldE p (l ++ m) e = foldE p m (foldE p l e)
  | [], m, e => rfl
  | t :: l, m, e => by simp only [List.cons_append, foldE]; exact foldE_append p l m _
theorem put_get {e e' : Env} {x : Nat} (h : e[x]? = e'[x]?) (dst : Option Tmp) (r : AV) : (putE e dst r)[x]? = (putE e' dst r)[x]? := by
  cases dst with
  | none => exact h
  | some d =>
    simp only [putE, List.getElem?_set]
    by_cases hd : d = x
    · subst hd
      simp only [if_true]
      have hn : List.length e ≤ d ↔ List.length e' ≤ d := by rw [← List.getElem?_eq_none_iff, ← List.getElem?_eq_none_iff, h]
      have : List.length e > d ↔ List.length e' > d := by omega
      by_cases h1 : d < List.length e
      · rw [if_pos h1, if_pos (this.1 h1)]
      · rw [if_neg h1, if_neg (fun h2 => h1 (this.2 h2))]
    · rw [if_neg hd, if_neg hd]; exact h
theorem put_other {e : Env} {x : Nat} {dst : Option Tmp} {r : AV} (h : dst ≠ some x) : (putE e dst r)[x]? = e[x]? := by
  cases dst with
  | none => rfl
  | some d =>
    simp only [putE]
    exact List.getElem?_set_ne (fun hd => h (by rw [hd]))
theorem foldE_get (p q : Nat → Bool) (x : Nat) : ∀ (l : List Tr) (e e' : Env), e[x]? = e'[x]? → (∀ t ∈ l, t.o.dst = some x → p t.i = q t.i) → (foldE p l e)[x]? = (foldE q l e')[x]?
  | [], e, e', h, _ => h
  | t :: l, e, e', h, hp => by
    simp only [foldE]
    refine foldE_get p q x l _ _ ?_ (fun u hu => hp u (List.mem_cons_of_mem _ hu))
    by_cases hd : t.o.dst = some x
    · rw [hp t List.mem_cons_self hd]
      split
      · exact put_get h _ _
      · exact h
    · have e1 : (if p t.i then putE e t.o.dst t.r else e)[x]? = e[x]? := by split <;> first | exact put_other hd | rfl
      have e2 : (if q t.i then putE e' t.o.dst t.r else e')[x]? = e'[x]? := by split <;> first | exact put_other hd | rfl
      rw [e1, e2]; exact h
theorem foldE_none : ∀ (l : List Tr) (e : Env), foldE (fun _ => false) l e = e
  | [], e => rfl
  | t :: l, e => by simp only [foldE]; exact foldE_none l e
theorem foldE_len (p : Nat → Bool) : ∀ (l : List Tr) (e : Env), (foldE p l e).length = e.length
  | [], e => rfl
  | t :: l, e => by
    simp only [foldE]
    rw [foldE_len p l]
    split
    · cases t.o.dst <;> simp [putE]
    · rfl

/-- The abstract run of a plan, step by step. -/
inductive Chain (P : Program) (S : Sig) (call : CallA) (lo : Nat) (ops : Array Oper) : List Tr → Env → Heap → Env → Heap → Prop
  | nil (e H) : Chain P S call lo ops [] e H e H
  | cons (i o e H r H1 l en Hn) (ho : ops[i]? = some o) (h : evOne P S call lo ops o e H = some (r, H1)) (t : Chain P S call lo ops l (putE e o.dst r) H1 en Hn) : Chain P S call lo ops (⟨i, o, e, H, r, H1⟩ :: l) e H en Hn
section
variable {P : Program} {S : Sig} {call : CallA} {lo : Nat} {ops : Array Oper}
theorem runPlan_ok : ∀ {π : List Nat} {e : Env} {H : Heap} {ts : List Tr} {en : Env} {Hn : Heap}, runPlan P S call lo ops π e H = some (ts, en, Hn) → Chain P S call lo ops ts e H en Hn ∧ ts.map (·.i) = π
  | [], e, H, ts, en, Hn, h => by simp only [runPlan, Option.some.injEq, Prod.mk.injEq] at h; obtain ⟨rfl, rfl, rfl⟩ := h; exact ⟨.nil _ _, rfl⟩
  | i :: l, e, H, ts, en, Hn, h => by
    simp only [runPlan] at h
    split at h
    · cases h
    · rename_i o ho
      split at h
      · cases h
      · rename_i r H1 h1
        split at h
        · rename_i ts' e' H' h2
          cases h
          obtain ⟨g1, g2⟩ := runPlan_ok h2
          exact ⟨.cons _ _ _ _ _ _ _ _ _ ho h1 g1, by simp [g2]⟩
        · cases h
theorem Chain.all {l : List Tr} {e : Env} {H : Heap} {en : Env} {Hn : Heap} (h : Chain P S call lo ops l e H en Hn) : foldE (fun _ => true) l e = en := by
  induction h with
  | nil => rfl
  | cons i o e H r H1 l en Hn ho h t ih => simpa [foldE] using ih
theorem Chain.split {l m : List Tr} {t : Tr} {e : Env} {H : Heap} {en : Env} {Hn : Heap} (h : Chain P S call lo ops (l ++ t :: m) e H en Hn) : t.e = foldE (fun _ => true) l e ∧ ops[t.i]? = some t.o ∧ evOne P S call lo ops t.o t.e t.H = some (t.r, t.H1) ∧ Chain P S call lo ops m (putE t.e t.o.dst t.r) t.H1 en Hn := by
  induction l generalizing e H with
  | nil => cases h with | cons i o e H r H1 l en Hn ho h t => exact ⟨rfl, ho, h, t⟩
  | cons u l ih =>
    cases h with
    | cons i o e H r H1 l en Hn ho h t =>
      obtain ⟨g1, g2⟩ := ih t
      exact ⟨by rw [g1]; rfl, g2⟩
theorem stableAll_at {A : List (List Nat)} {t : Tr} {Hn : Heap} : ∀ {l : List Tr} {post : List Tr}, stableAll P S call lo ops A t (l ++ post) Hn = true → (∀ u ∈ l, chainH u.o.op = true → isAnc A t.i u.i = false) → (post = [] ∨ ∃ u m, post = u :: m ∧ chainH u.o.op = true) →
    stableAt P S call lo ops t (match post with | [] => Hn | u :: _ => u.H) = true
  | [], post, h, _, hp => by
    rcases hp with rfl | ⟨u, m, rfl, hu⟩
    · exact h
    · simp only [List.nil_append, stableAll, hu, if_true, Bool.and_eq_true] at h
      exact h.1
  | u :: l, post, h, hl, hp => by
    simp only [List.cons_append, stableAll] at h
    split at h
    · rename_i hu
      have := hl u List.mem_cons_self hu
      simp only [this, Bool.false_or, Bool.and_eq_true] at h
      exact stableAll_at h.2 (fun v hv => hl v (List.mem_cons_of_mem _ hv)) hp
    · exact stableAll_at h (fun v hv => hl v (List.mem_cons_of_mem _ hv)) hp
theorem allStable_at {A : List (List Nat)} {Hn : Heap} {t : Tr} {m : List Tr} : ∀ {l : List Tr}, allStable P S call lo ops A (l ++ t :: m) Hn = true → chainH t.o.op = false → stableAll P S call lo ops A t m Hn = true
  | [], h, hc => by
    simp only [List.nil_append, allStable, Bool.and_eq_true, hc, Bool.false_or] at h
    exact h.1
  | u :: l, h, hc => by
    simp only [List.cons_append, allStable, Bool.and_eq_true] at h
    exact allStable_at h.2 hc
/-- Behind operations that write nothing the heap has only grown. -/
theorem Chain.floats {l : List Tr} {e : Env} {H : Heap} {en : Env} {Hn : Heap} (h : Chain P S call lo ops l e H en Hn) (hf : ∀ t ∈ l, chainH t.o.op = false) : (∃ ext, Hn = H ++ ext) ∧ ∀ t ∈ l, H.length ≤ t.H.length ∧ ∃ ext, Hn = t.H1 ++ ext := by
  induction h with
  | nil => exact ⟨⟨[], by simp⟩, fun t ht => by cases ht⟩
  | cons i o e H r H1 l en Hn ho h t ih =>
    obtain ⟨⟨ext, he⟩, ht⟩ := ih (fun t ht => hf t (List.mem_cons_of_mem _ ht))
    have hc : chainH o.op = false := hf _ List.mem_cons_self
    have h1 : ∃ ext, H1 = H ++ ext := by
      unfold evOne at h
      split at h
      · cases hm : makesH o.op with
        | false => exact ⟨[], by simp [(evOp_still (H2 := H) h hm hc).1]⟩
        | true =>
          revert h hm
          cases o.op <;> simp only [makesH, reduceCtorEq, false_imp_iff, imp_true_iff, true_imp_iff]
          case alloc t =>
            intro h
            simp only [evOp, oPick, oAlloc, oBox, oBuild, oBuildSlice, oLoad, oStore, oNil, oBin, oUn, oConv, oFunc, oMake, oSlice, oFieldAddr, oField, oIndexAddr, oIndex, oExtract, oCall, oLen, oAppend, oCopy, oMaxMin] at h
            repeat' split at h
            all_goals first | (cases h; done) | (cases h; exact ⟨_, rfl⟩)
          case box t x =>
            intro h
            simp only [evOp, oPick, oAlloc, oBox, oBuild, oBuildSlice, oLoad, oStore, oNil, oBin, oUn, oConv, oFunc, oMake, oSlice, oFieldAddr, oField, oIndexAddr, oIndex, oExtract, oCall, oLen, oAppend, oCopy, oMaxMin] at h
            repeat' split at h
            all_goals first | (cases h; done) | (cases h; exact ⟨_, rfl⟩)
          case buildSlice t n ps =>
            intro h
            simp only [evOp, oPick, oAlloc, oBox, oBuild, oBuildSlice, oLoad, oStore, oNil, oBin, oUn, oConv, oFunc, oMake, oSlice, oFieldAddr, oField, oIndexAddr, oIndex, oExtract, oCall, oLen, oAppend, oCopy, oMaxMin, Option.bind_eq_some_iff] at h
            obtain ⟨_, _, h⟩ := h
            unfold buildSliceA at h
            repeat' split at h
            all_goals first | (cases h; done) | (rw [Option.map_eq_some_iff] at h; obtain ⟨cs, _, h⟩ := h; cases h; exact ⟨_, rfl⟩)
          case makeSlice t x y =>
            intro h
            simp only [evOp, oPick, oAlloc, oBox, oBuild, oBuildSlice, oLoad, oStore, oNil, oBin, oUn, oConv, oFunc, oMake, oSlice, oFieldAddr, oField, oIndexAddr, oIndex, oExtract, oCall, oLen, oAppend, oCopy, oMaxMin] at h
            split at h
            · unfold makeSliceA at h
              repeat' split at h
              all_goals first | (cases h; done) | (cases h; exact ⟨_, rfl⟩)
            · cases h
      · cases h; exact ⟨[], by simp⟩
    obtain ⟨ext1, e1⟩ := h1
    refine ⟨⟨ext1 ++ ext, by rw [he, e1, List.append_assoc]⟩, fun u hu => ?_⟩
    rcases List.mem_cons.1 hu with rfl | hu
    · exact ⟨Nat.le_refl _, ext, he⟩
    · obtain ⟨q1, q2⟩ := ht u hu
      exact ⟨by rw [e1] at q1; simp at q1; omega, q2⟩
end
end Go.Proofs.YtbjcghnhhgdopaaGreatDoor.Ai
