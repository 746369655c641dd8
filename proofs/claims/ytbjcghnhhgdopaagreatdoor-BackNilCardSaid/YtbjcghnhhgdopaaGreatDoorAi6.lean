import Derived.Test.YtbjcghnhhgdopaaGreatDoorAi5
namespace Go.Proofs.YtbjcghnhhgdopaaGreatDoor.Ai
open Go Go.RowKit

section
variable {P : Program} {H : Heap} {Z : Zone} {ι : Inj} {w : World}

/-! ## 7. Rows of cells -/
theorem splice_get {α : Type} (l m : List α) (o : Nat) (h : o + m.length ≤ l.length) (j : Nat) :
    (l.take o ++ m ++ l.drop (o + m.length))[j]? = if j < o then l[j]? else if j < o + m.length then m[j - o]? else l[j]? := by
  have ho : (l.take o).length = o := by simp; omega
  by_cases h1 : j < o
  · rw [if_pos h1, List.append_assoc, List.getElem?_append_left (by omega), List.getElem?_take, if_pos h1]
  · rw [if_neg h1]
    by_cases h2 : j < o + m.length
    · rw [if_pos h2, List.getElem?_append_left (by simp; omega), List.getElem?_append_right (by omega), ho]
    · rw [if_neg h2, List.getElem?_append_right (by simp; omega), List.getElem?_drop]
      congr 1
      simp
      omega
theorem splice_len {α : Type} (l m : List α) (o : Nat) (h : o + m.length ≤ l.length) : (l.take o ++ m ++ l.drop (o + m.length)).length = l.length := by simp; omega
theorem one_of {a : AV} {v : Value} (h : AVR Z ι a v) (hc : a.isCell = true) : v.oneCell' = true ∧ v.cells = #[v] ∧ a.cells = [a] := by
  cases h with
  | f x y hv => cases hv <;> exact ⟨rfl, rfl, rfl⟩
  | ptr => exact ⟨rfl, rfl, rfl⟩
  | fptr => exact ⟨rfl, rfl, rfl⟩
  | row => exact ⟨rfl, rfl, rfl⟩
  | clo => exact ⟨rfl, rfl, rfl⟩
  | agg => cases hc
  | tup => cases hc
  | undef => cases hc
theorem cells_rel {a : AV} {v : Value} (h : AVR Z ι a v) : LRel Z ι a.cells v.cells.toList := by
  cases h with
  | agg cs vs hl h => exact LRel.of_get (by simpa [AV.cells, Value.cells] using hl) (fun i x y hx hy => h i x y hx (by simpa [Value.cells] using hy))
  | f x y hv =>
    have h0 : AVR Z ι (.f x) v := .f _ _ hv
    rw [(one_of h0 rfl).2.1]
    exact .cons _ _ _ _ h0 .nil
  | ptr id g off A L h1 h2 h3 => exact .cons _ _ _ _ (.ptr id g off A L h1 h2 h3) .nil
  | fptr row j b o vs h1 h2 => exact .cons _ _ _ _ (.fptr row j b o vs h1 h2) .nil
  | row id g off n A c L h0 h1 h2 h3 => exact .cons _ _ _ _ (.row id g off n A c L h0 h1 h2 h3) .nil
  | clo fn cs vs hl h => exact .cons _ _ _ _ (.clo fn cs vs hl h) .nil
  | tup cs vs hl h => exact .cons _ _ _ _ (.tup cs vs hl h) .nil
  | undef => exact .cons _ _ _ _ .undef .nil
theorem LRel.ones {l : List AV} {m : List Value} (h : LRel Z ι l m) (hc : l.all AV.isCell = true) : ∀ v ∈ m, v.oneCell' = true := by
  induction h with
  | nil => simp
  | cons a v l m h t ih =>
    simp at hc
    intro u hu
    cases hu with
    | head => exact (one_of h hc.1).1
    | tail _ hu => exact ih (by simpa using hc.2) u hu
theorem LRel.splice {l l' : List AV} {m m' : List Value} (h : LRel Z ι l m) (h' : LRel Z ι l' m') {o : Nat} (ho : o + l'.length ≤ l.length) :
    LRel Z ι (setCs l o l') (m.take o ++ m' ++ m.drop (o + m'.length)) := by
  have e1 := h.len
  have e2 := h'.len
  refine LRel.of_get ?_ (fun i a v ha hv => ?_)
  · rw [setCs, splice_len _ _ _ ho, splice_len _ _ _ (by omega)]; exact e1
  · rw [setCs, splice_get _ _ _ ho] at ha
    rw [splice_get _ _ _ (by omega), ← e2] at hv
    split at ha
    · rename_i h1; rw [if_pos h1] at hv; exact h.get _ _ _ ha hv
    · rename_i h1
      rw [if_neg h1] at hv
      split at ha
      · rename_i h2; rw [if_pos h2] at hv; exact h'.get _ _ _ ha hv
      · rename_i h2; rw [if_neg h2] at hv; exact h.get _ _ _ ha hv
theorem setCs_all {l l' : List AV} {o : Nat} (h : ∀ a, a ∈ l → a.isCell = true) (h' : ∀ a, a ∈ l' → a.isCell = true) : ∀ a, a ∈ setCs l o l' → a.isCell = true := by
  intro a ha
  simp only [setCs, List.mem_append] at ha
  rcases ha with (ha | ha) | ha
  · exact h a (List.mem_of_mem_take ha)
  · exact h' a ha
  · exact h a (List.mem_of_mem_drop ha)
theorem all_of {l : List AV} (h : l.all AV.isCell = true) : ∀ a, a ∈ l → a.isCell = true := fun a ha => List.all_eq_true.1 h a ha

theorem foldl_splice (off : Nat) : ∀ (l : List Value) (j0 : Nat) (arr : Array Value), off + j0 + l.length ≤ arr.size →
    ((l.zipIdx j0).foldl (fun cs (p : Value × Nat) => cs.setIfInBounds (off + p.2) p.1) arr).toList = arr.toList.take (off + j0) ++ l ++ arr.toList.drop (off + j0 + l.length)
  | [], j0, arr, _ => by simp
  | v :: l, j0, arr, h => by
    simp only [List.zipIdx_cons, List.foldl_cons]
    simp only [List.length_cons] at h
    rw [foldl_splice off l (j0 + 1) _ (by simp; omega)]
    have hlt : off + j0 < arr.toList.length := by simp; omega
    apply List.ext_getElem?
    intro i
    have h1 : off + (j0 + 1) + l.length ≤ (arr.setIfInBounds (off + j0) v).toList.length := by simp; omega
    have h2 : off + j0 + (v :: l).length ≤ arr.toList.length := by simp; omega
    rw [splice_get _ _ _ h1]
    have h3 := splice_get arr.toList (v :: l) (off + j0) h2 i
    rw [h3]
    simp only [Array.toList_setIfInBounds, List.length_cons]
    by_cases c1 : i < off + j0
    · rw [if_pos (by omega), if_pos c1, List.getElem?_set_ne (by omega)]
    · rw [if_neg c1]
      by_cases c2 : i = off + j0
      · subst c2
        rw [if_pos (by omega), if_pos (by omega), List.getElem?_set_self hlt]
        simp
      · rw [if_neg (by omega)]
        by_cases c3 : i < off + j0 + (l.length + 1)
        · rw [if_pos (by omega), if_pos c3]
          have : i - (off + j0) = (i - (off + (j0 + 1))) + 1 := by omega
          rw [this]; rfl
        · rw [if_neg (by omega), if_neg c3, List.getElem?_set_ne (by omega)]

/-- Parts of a built value. -/
inductive PRel (Z : Zone) (ι : Inj) : List (Nat × AV) → List (Nat × Value) → Prop
  | nil : PRel Z ι [] []
  | cons (i a v l m) (h : AVR Z ι a v) (t : PRel Z ι l m) : PRel Z ι ((i, a) :: l) ((i, v) :: m)
theorem parts_ok {S : Sig} {e : Env} {a : Act} (hG : GlobR S.G Z) (he : EnvR Z ι e a.tmps) : ∀ {xs : List (Nat × Operand)} {as : List (Nat × AV)}, evParts S e xs = some as → PRel Z ι as (xs.map fun (i, x) => (i, a.eval x))
  | [], as, h => by simp [evParts] at h; subst h; exact .nil
  | (i, x) :: xs, as, h => by
    simp only [evParts] at h
    split at h
    · rename_i v r hv hr
      cases h
      exact .cons _ _ _ _ _ (evA_ok hG he hv) (parts_ok hG he hr)
    · cases h
theorem fill_ok (place : Nat → Option (Nat × Nat)) {ps : List (Nat × AV)} {vs : List (Nat × Value)} (hp : PRel Z ι ps vs) : ∀ {cs : List AV} {arr : Array Value} {r : List AV}, LRel Z ι cs arr.toList → (∀ a, a ∈ cs → a.isCell = true) → fillA place cs ps = some r →
    ∃ arr', Instr.fill place arr vs = some arr' ∧ LRel Z ι r arr'.toList ∧ (∀ a, a ∈ r → a.isCell = true) ∧ arr'.size = arr.size := by
  induction hp with
  | nil =>
    intro cs arr r hl h1 h
    simp only [fillA, Option.some.injEq] at h
    subst h
    exact ⟨arr, rfl, hl, h1, rfl⟩
  | cons i a v l m h t ih =>
    intro cs arr r hl h1 hf
    simp only [fillA] at hf
    split at hf
    · rename_i off size hpl
      split at hf
      · rename_i hc
        obtain ⟨c1, c2, c3⟩ := hc
        have hcr := cells_rel h
        have hvl : v.cells.size = size := by rw [← c1, hcr.len]; simp
        have hal : cs.length = arr.size := by rw [hl.len]; simp
        have hfold := foldl_splice off v.cells.toList 0 arr (by simp; omega)
        have key := hl.splice hcr (o := off) (by omega)
        obtain ⟨arr', f1, f2, f3, f4⟩ := ih (arr := (v.cells.toList.zipIdx 0).foldl (fun cs (p : Value × Nat) => cs.setIfInBounds (off + p.2) p.1) arr) (by rw [hfold]; simpa using key) (setCs_all h1 (all_of c3)) hf
        refine ⟨arr', ?_, f2, f3, ?_⟩
        · have hn : ¬ (v.cells.size ≠ size ∨ off + v.cells.size > arr.size) := by omega
          simp only [Instr.fill, hpl]
          rw [← Array.foldl_toList, Array.toList_zipIdx]
          simp only [hvl, ne_eq, not_true_eq_false, decide_false, Bool.false_or, decide_eq_true_eq]
          rw [if_neg (by omega)]
          exact f1
        · rw [f4]
          have := congrArg List.length hfold
          simp at this
          omega
      · cases hf
    · cases hf
theorem zero_ok {t : Nat} {z : List AV} (h : tZero P t = some z) : ∃ v, (zeroValue t).run P w = .ok v w ∧ LRel Z ι z v.cells.toList ∧ (∀ a, a ∈ z → a.isCell = true) ∧ ∃ i, P.info? t = some i ∧ i.zero = some v := by
  unfold tZero at h
  cases hi : P.info? t with
  | none => simp [hi] at h
  | some i =>
    cases hz : i.zero with
    | none => simp [hi, hz] at h
    | some v =>
      simp only [hi, hz, Option.bind_some, Option.map_eq_some_iff] at h
      obtain ⟨a, ha, rfl⟩ := h
      refine ⟨v, by simp [zeroValue, typeInfo, hi, hz], cells_rel (constA_ok Z ι ha), ?_, i, rfl, hz⟩
      unfold constA at ha
      split at ha
      · rename_i cs
        rw [Option.map_eq_some_iff] at ha
        obtain ⟨r, hr, rfl⟩ := ha
        intro a ha
        obtain ⟨n, hn⟩ := List.getElem?_of_mem ha
        obtain ⟨h1, h2⟩ := constL_ok Z ι hr
        have hlt := (List.getElem?_eq_some_iff.1 hn).1
        exact (h2 n a _ hn (List.getElem?_eq_getElem (by rw [← h1]; exact hlt))).2
      · rw [Option.map_eq_some_iff] at ha
        obtain ⟨r, hr, rfl⟩ := ha
        intro a ha
        simp [AV.cells] at ha
        subst ha
        rfl
end
end Go.Proofs.YtbjcghnhhgdopaaGreatDoor.Ai
