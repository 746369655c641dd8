import Derived.Test.YtbjcghnhhgdopaaGreatDoorAi2
namespace Go.Proofs.YtbjcghnhhgdopaaGreatDoor.Ai
open Go Go.RowKit

/-! ## 5. The abstract heap and the world, moved together -/
theorem cell_lt {w : World} {B o : Nat} {v : Value} (h : w.cell? ⟨B, o, none⟩ = some v) : B < w.heap.size := World.block_lt_of_cell? w _ h
theorem get_lt {w : World} {B : Nat} {x : Obj} (h : w.heap[B]? = some x) : B < w.heap.size := (Array.getElem?_eq_some_iff.1 h).1
theorem cell_same {w w' : World} {B o : Nat} (h : w'.heap[B]? = w.heap[B]?) : w'.cell? ⟨B, o, none⟩ = w.cell? ⟨B, o, none⟩ := World.cell?_of_block (w := w) (a := ⟨B, o, none⟩) h

theorem BlkR.move {Z : Zone} {ι ι' : Inj} {w w' : World} {k : Blk} {L : Loc} (h : BlkR Z ι w k L) (hw : w'.heap[L.B]? = w.heap[L.B]?)
    (hi : ∀ id L, ι id = some L → ∃ L', ι' id = some L' ∧ L.gen ≤ L'.gen ∧ (L'.gen = L.gen → L' = L)) : BlkR Z ι' w' k L := by
  obtain ⟨arr, e, h1, h2, h3⟩ := h.obj
  refine ⟨h.gen, h.size, h.sz, ⟨arr, e, hw.trans h1, h2, fun j a ha => ?_⟩, h.fits, h.one, h.mutb, h.froz⟩
  obtain ⟨v, hv, hr⟩ := h3 j a ha
  exact ⟨v, hv, hr.mono (fun _ _ _ h => h) hi⟩

def addI (ι : Inj) (i : Nat) (L : Loc) : Inj := fun j => if j = i then some L else ι j
theorem addI_same (ι : Inj) (i : Nat) (L : Loc) : addI ι i L i = some L := by simp [addI]
theorem addI_other {ι : Inj} {i j : Nat} {L : Loc} (h : j ≠ i) : addI ι i L j = ι j := by simp [addI, h]

theorem Inv.none_new {H : Heap} {Z : Zone} {ι : Inj} {w : World} (h : Inv H Z ι w) : ι H.length = none := by
  cases hn : ι H.length with
  | none => rfl
  | some L => exact absurd (h.dom _ _ hn) (by omega)
theorem Inv.ltB {H : Heap} {Z : Zone} {ι : Inj} {w : World} (h : Inv H Z ι w) {i : Nat} {L : Loc} (hL : ι i = some L) : L.B < w.heap.size := by
  have hd := h.dom _ _ hL
  obtain ⟨arr, e, h1, _⟩ := (h.blk i _ L (List.getElem?_eq_getElem hd) hL).obj
  exact get_lt h1

theorem Inv.new {H : Heap} {Z : Zone} {ι : Inj} {w w' : World} (h : Inv H Z ι w) (sz : Nat) (cs : List AV) (arr : Array Value) (e : Nat)
    (hw : w'.heap = w.heap.push (.cells arr e (0, 0))) (hos : w'.os = w.os) (ht : w'.tape = w.tape) (ho : w'.output = w.output)
    (hfit : cs.length ≤ arr.size) (hc : ∀ (j : Nat) (a : AV), cs[j]? = some a → ∃ v, arr[j]? = some v ∧ AVR Z ι a v) (h1 : ∀ a, a ∈ cs → a.isCell = true) :
    Inv (newBlk H sz cs) Z (addI ι H.length ⟨w.heap.size, 0, 0, sz, cs.length, arr.size⟩) w' ∧ Ext H Z ι w (newBlk H sz cs) Z (addI ι H.length ⟨w.heap.size, 0, 0, sz, cs.length, arr.size⟩) w' := by
  have hold : ∀ B, B < w.heap.size → w'.heap[B]? = w.heap[B]? := fun B hB => by rw [hw, Array.getElem?_push, if_neg (by omega)]
  have hnew : w'.heap[w.heap.size]? = some (.cells arr e (0, 0)) := by rw [hw, Array.getElem?_push, if_pos rfl]
  have hi : ∀ id L, ι id = some L → ∃ L', addI ι H.length ⟨w.heap.size, 0, 0, sz, cs.length, arr.size⟩ id = some L' ∧ L.gen ≤ L'.gen ∧ (L'.gen = L.gen → L' = L) := by
    intro id L hL
    have hne : id ≠ H.length := by rintro rfl; rw [h.none_new] at hL; cases hL
    exact ⟨L, by rw [addI_other hne]; exact hL, Nat.le_refl _, fun _ => rfl⟩
  have hzn : ∀ o, Z w.heap.size o = none := by
    intro o
    cases hz : Z w.heap.size o with
    | none => rfl
    | some v => exact absurd (cell_lt (h.zone _ _ _ hz)) (by omega)
  refine ⟨⟨fun b o v hz => ?_, fun id k L hk hL => ?_, fun id L hL => ?_, fun i j L M hL hM hB => ?_⟩, ⟨by simp [newBlk], fun id L' hL' => ?_, hos, ht, ho, by rw [hw]; simp, fun _ _ _ h => h, hi, fun id L' hL' => ?_, fun _ _ _ h => .inl h, fun B hB _ => hold B hB⟩⟩
  · have := h.zone _ _ _ hz
    rw [cell_same (hold b (cell_lt this))]
    exact this
  · by_cases hid : id = H.length
    · subst hid
      rw [addI_same] at hL
      cases hL
      simp [newBlk] at hk
      subst hk
      refine ⟨rfl, rfl, rfl, ⟨arr, e, hnew, rfl, fun j a ha => ?_⟩, by simpa using hfit, h1, fun _ => hzn, fun hf => by cases hf⟩
      obtain ⟨v, hv, hr⟩ := hc j a ha
      exact ⟨v, by simpa using hv, hr.mono (fun _ _ _ h => h) hi⟩
    · rw [addI_other hid] at hL
      have hd := h.dom _ _ hL
      have hk' : H[id]? = some k := by rwa [newBlk, List.getElem?_append_left hd] at hk
      exact (h.blk id k L hk' hL).move (hold _ (h.ltB hL)) hi
  · by_cases hid : id = H.length
    · subst hid; simp [newBlk]
    · rw [addI_other hid] at hL
      have := h.dom _ _ hL
      simp [newBlk]; omega
  · by_cases hid : i = H.length <;> by_cases hjd : j = H.length
    · rw [hid, hjd]
    · subst hid
      rw [addI_same] at hL
      rw [addI_other hjd] at hM
      cases hL
      have := h.ltB hM
      simp at hB; omega
    · subst hjd
      rw [addI_same] at hM
      rw [addI_other hid] at hL
      cases hM
      have := h.ltB hL
      simp at hB; omega
    · rw [addI_other hid] at hL
      rw [addI_other hjd] at hM
      exact h.inj i j L M hL hM hB
  · by_cases hid : id = H.length
    · exact .inr (by omega)
    · rw [addI_other hid] at hL'
      exact .inl ⟨L', hL'⟩
  · by_cases hid : id = H.length
    · subst hid
      rw [addI_same] at hL'
      cases hL'
      exact .inr (Nat.le_refl _)
    · rw [addI_other hid] at hL'
      exact .inl ⟨L', hL', rfl⟩

theorem Inv.upd {H : Heap} {Z : Zone} {ι : Inj} {w w' : World} (h : Inv H Z ι w) {id : Nat} {k k' : Blk} {L L' : Loc} (hk : H[id]? = some k) (hL : ι id = some L) (hro : k.ro = false)
    (hg : L.gen ≤ L'.gen) (he : L'.gen = L.gen → L' = L) (hB : L'.B = L.B ∨ w.heap.size ≤ L'.B)
    (hos : w'.os = w.os) (ht : w'.tape = w.tape) (ho : w'.output = w.output) (hsize : w.heap.size ≤ w'.heap.size)
    (hkeep : ∀ B, B < w.heap.size → B ≠ L.B → w'.heap[B]? = w.heap[B]?)
    (bg : k'.gen = L'.gen) (bs : k'.cells.length = L'.size) (bz : k'.sz = L'.sz) (bf : L'.sh + L'.size ≤ L'.tot) (bro : k'.ro = false) (b1 : ∀ a, a ∈ k'.cells → a.isCell = true)
    (bo : ∃ arr e, w'.heap[L'.B]? = some (.cells arr e (0, 0)) ∧ arr.size = L'.tot ∧ ∀ (j : Nat) (a : AV), k'.cells[j]? = some a → ∃ v, arr[L'.sh + j]? = some v ∧ AVR Z ι a v) :
    Inv (H.set id k') Z (addI ι id L') w' ∧ Ext H Z ι w (H.set id k') Z (addI ι id L') w' := by
  have hR := h.blk id k L hk hL
  have hi : ∀ i M, ι i = some M → ∃ M', addI ι id L' i = some M' ∧ M.gen ≤ M'.gen ∧ (M'.gen = M.gen → M' = M) := by
    intro i M hM
    by_cases hid : i = id
    · subst hid
      rw [hL] at hM
      cases hM
      exact ⟨L', addI_same _ _ _, hg, he⟩
    · exact ⟨M, by rw [addI_other hid]; exact hM, Nat.le_refl _, fun _ => rfl⟩
  have hz : ∀ b o v, Z b o = some v → b < w.heap.size ∧ b ≠ L.B := by
    intro b o v hz
    refine ⟨cell_lt (h.zone _ _ _ hz), ?_⟩
    rintro rfl
    rw [hR.mutb hro o] at hz
    cases hz
  refine ⟨⟨fun b o v hzv => ?_, fun i q M hq hM => ?_, fun i M hM => ?_, fun i j M N hM hN hBN => ?_⟩, ⟨by simp, fun i M hM => ?_, hos, ht, ho, hsize, fun _ _ _ h => h, hi, fun i M hM => ?_, fun _ _ _ h => .inl h, fun B hBs hno => hkeep B hBs (fun e => hno id L hL e.symm)⟩⟩
  · obtain ⟨h1, h2⟩ := hz b o v hzv
    rw [cell_same (hkeep b h1 h2)]
    exact h.zone _ _ _ hzv
  · by_cases hid : i = id
    · subst hid
      rw [addI_same] at hM
      cases hM
      have hlt := (List.getElem?_eq_some_iff.1 hk).1
      rw [List.getElem?_set_self hlt] at hq
      cases hq
      obtain ⟨arr, e, o1, o2, o3⟩ := bo
      refine ⟨bg, bs, bz, ⟨arr, e, o1, o2, fun j a ha => ?_⟩, bf, b1, fun _ o => ?_, fun hf => by rw [bro] at hf; cases hf⟩
      · obtain ⟨v, hv, hr⟩ := o3 j a ha
        exact ⟨v, hv, hr.mono (fun _ _ _ h => h) hi⟩
      · cases hzz : Z L'.B o with
        | none => rfl
        | some v =>
          obtain ⟨h1, h2⟩ := hz _ _ _ hzz
          rcases hB with hB | hB
          · exact absurd hB h2
          · omega
    · rw [addI_other hid] at hM
      rw [List.getElem?_set_ne (fun e => hid e.symm)] at hq
      have hne : M.B ≠ L.B := fun e => hid (h.inj i id M L hM hL e)
      exact (h.blk i q M hq hM).move (hkeep _ (h.ltB hM) hne) hi
  · rw [List.length_set]
    by_cases hid : i = id
    · subst hid; exact h.dom _ _ hL
    · rw [addI_other hid] at hM
      exact h.dom _ _ hM
  · by_cases hid : i = id <;> by_cases hjd : j = id
    · rw [hid, hjd]
    · subst hid
      rw [addI_same] at hM
      rw [addI_other hjd] at hN
      cases hM
      rcases hB with hB | hB
      · exact absurd (h.inj _ _ _ _ hN hL (hBN ▸ hB)) hjd
      · have := h.ltB hN; omega
    · subst hjd
      rw [addI_same] at hN
      rw [addI_other hid] at hM
      cases hN
      rcases hB with hB | hB
      · exact absurd (h.inj _ _ _ _ hM hL (hBN.trans hB)) hid
      · have := h.ltB hM; omega
    · rw [addI_other hid] at hM
      rw [addI_other hjd] at hN
      exact h.inj i j M N hM hN hBN
  · by_cases hid : i = id
    · subst hid
      exact .inl ⟨L, hL⟩
    · rw [addI_other hid] at hM
      exact .inl ⟨M, hM⟩
  · by_cases hid : i = id
    · subst hid
      rw [addI_same] at hM
      cases hM
      rcases hB with hB | hB
      · exact .inl ⟨L, hL, hB.symm⟩
      · exact .inr hB
    · rw [addI_other hid] at hM
      exact .inl ⟨M, hM, rfl⟩

end Go.Proofs.YtbjcghnhhgdopaaGreatDoor.Ai
