import Derived.Test.YtbjcghnhhgdopaaGreatDoorAi13
namespace Go.Proofs.YtbjcghnhhgdopaaGreatDoor.Ai
open Go Go.RowKit
set_option linter.unusedSimpArgs false

section
variable {P : Program} {H : Heap} {Z : Zone} {ι : Inj} {w : World}
/-! ## 15. A block that is made later than the abstract run made it -/
theorem Inv.grow (h : Inv H Z ι w) (ext : Heap) : Inv (H ++ ext) Z ι w :=
  ⟨h.zone, fun id k L hk hL => h.blk id k L (by rwa [List.getElem?_append_left (h.dom _ _ hL)] at hk) hL, fun id L hL => by have := h.dom _ _ hL; simp; omega, h.inj⟩
theorem Ext.grow {H0 : Heap} {Z0 : Zone} {ι0 : Inj} {w0 : World} (h : Ext H0 Z0 ι0 w0 H Z ι w) (ext : Heap) : Ext H0 Z0 ι0 w0 (H ++ ext) Z ι w :=
  ⟨by have := h.hlen; simp; omega, h.old, h.os, h.tape, h.output, h.size, h.zone, h.inj, h.fresh, h.znew, h.keep⟩
theorem Inv.newAt (h : Inv H Z ι w) {id : Nat} {k : Blk} (hk : H[id]? = some k) (hn : ι id = none) (hg : k.gen = 0) (hro : k.ro = false) (arr : Array Value) (e : Nat)
    (hfit : k.cells.length ≤ arr.size) (hc : LRel Z ι k.cells (arr.toList.take k.cells.length)) (h1 : ∀ a, a ∈ k.cells → a.isCell = true) :
    Inv H Z (addI ι id ⟨w.heap.size, 0, 0, k.sz, k.cells.length, arr.size⟩) (w.alloc (.cells arr e)) ∧
    (∀ i L, ι i = some L → ∃ L', addI ι id ⟨w.heap.size, 0, 0, k.sz, k.cells.length, arr.size⟩ i = some L' ∧ L.gen ≤ L'.gen ∧ (L'.gen = L.gen → L' = L)) ∧
    ∀ H0 Z0 ι0 w0, Ext H0 Z0 ι0 w0 H Z ι w → H0.length ≤ id → Ext H0 Z0 ι0 w0 H Z (addI ι id ⟨w.heap.size, 0, 0, k.sz, k.cells.length, arr.size⟩) (w.alloc (.cells arr e)) := by
  have hlt : id < H.length := (List.getElem?_eq_some_iff.1 hk).1
  have hold : ∀ B, B < w.heap.size → (w.alloc (.cells arr e)).heap[B]? = w.heap[B]? := fun B hB => heap_alloc_old w _ hB
  have hnew : (w.alloc (.cells arr e)).heap[w.heap.size]? = some (.cells arr e (0, 0)) := heap_alloc_new w _
  have hi : ∀ i L, ι i = some L → ∃ L', addI ι id ⟨w.heap.size, 0, 0, k.sz, k.cells.length, arr.size⟩ i = some L' ∧ L.gen ≤ L'.gen ∧ (L'.gen = L.gen → L' = L) := by
    intro i L hL
    have hne : i ≠ id := by rintro rfl; rw [hn] at hL; cases hL
    exact ⟨L, by rw [addI_other hne]; exact hL, Nat.le_refl _, fun _ => rfl⟩
  have hzn : ∀ o, Z w.heap.size o = none := by
    intro o
    cases hz : Z w.heap.size o with
    | none => rfl
    | some v => exact absurd (cell_lt (h.zone _ _ _ hz)) (by omega)
  refine ⟨⟨fun b o v hz => ?_, fun i q L hq hL => ?_, fun i L hL => ?_, fun i j L M hL hM hB => ?_⟩, hi, fun H0 Z0 ι0 w0 hx hle => ?_⟩
  · have := h.zone _ _ _ hz
    rw [cell_same (hold b (cell_lt this))]
    exact this
  · by_cases hid : i = id
    · subst hid
      rw [addI_same] at hL
      cases hL
      rw [hk] at hq
      cases hq
      refine ⟨hg, rfl, rfl, ⟨arr, e, hnew, rfl, fun j a ha => ?_⟩, by simpa using hfit, h1, fun _ => hzn, fun hf => by rw [hro] at hf; cases hf⟩
      have hj := (List.getElem?_eq_some_iff.1 ha).1
      have hja : j < arr.size := by omega
      refine ⟨arr[j], by simp [hja], (hc.get j a _ ha ?_).mono (fun _ _ _ h => h) hi⟩
      rw [List.getElem?_take, if_pos hj]
      simp [hja]
    · rw [addI_other hid] at hL
      exact (h.blk i q L hq hL).move (hold _ (h.ltB hL)) hi
  · by_cases hid : i = id
    · subst hid; exact hlt
    · rw [addI_other hid] at hL
      exact h.dom _ _ hL
  · by_cases hid : i = id <;> by_cases hjd : j = id
    · rw [hid, hjd]
    · subst hid
      rw [addI_same] at hL
      rw [addI_other hjd] at hM
      cases hL
      have := h.ltB hM
      simp at hB; omega
    · subst hjd
      rw [addI_same] at hM
      rw [addI_other hid] at hL
      cases hM
      have := h.ltB hL
      simp at hB; omega
    · rw [addI_other hid] at hL
      rw [addI_other hjd] at hM
      exact h.inj i j L M hL hM hB
  · refine ⟨hx.hlen, fun i L hL => ?_, hx.os, hx.tape, hx.output, Nat.le_trans hx.size (by simp), hx.zone, fun i L hL => ?_, fun i L hL => ?_, hx.znew, fun B hB hno => ?_⟩
    · by_cases hid : i = id
      · subst hid; exact .inr hle
      · rw [addI_other hid] at hL
        exact hx.old i L hL
    · obtain ⟨L1, g1, g2, g3⟩ := hx.inj i L hL
      obtain ⟨L2, q1, q2, q3⟩ := hi i L1 g1
      refine ⟨L2, q1, Nat.le_trans g2 q2, fun e => ?_⟩
      have e1 := g3 (by omega)
      rw [q3 (by omega), e1]
    · by_cases hid : i = id
      · subst hid
        rw [addI_same] at hL
        cases hL
        exact .inr hx.size
      · rw [addI_other hid] at hL
        exact hx.fresh i L hL
    · rw [hold B (Nat.lt_of_lt_of_le hB hx.size)]
      exact hx.keep B hB hno

/-- What an operation that makes a block comes to, in whatever heap. -/
theorem make_run {S : Sig} {call : CallA} {lo : Nat} {o : Oper} {e : Env} {a : Act} {H1 H2 : Heap} {r : AV} (h : evOp P S call lo o.op e H = some (r, H1)) (hm : makesH o.op = true) (_hI : Inv H2 Z ι w) (hG : GlobR S.G Z) (he : EnvR Z ι e a.tmps) :
    ∃ k arr el v, H1 = H ++ [k] ∧ k.gen = 0 ∧ k.ro = false ∧ (execOp a.eval o).run P w = .ok (.value v) (w.alloc (.cells arr el)) ∧ LRel Z ι k.cells (arr.toList.take k.cells.length) ∧ k.cells.length ≤ arr.size ∧ (∀ a, a ∈ k.cells → a.isCell = true) ∧
      ∀ Z' ι', ι' H.length = some ⟨w.heap.size, 0, 0, k.sz, k.cells.length, arr.size⟩ → AVR Z' ι' r v := by
  obtain ⟨dst, op, ty, pos, after, guard⟩ := o
  have var : ∀ {sz : Nat} {cs : List AV} {v : Value} {t : Nat}, LRel Z ι cs v.cells.toList → (∀ a, a ∈ cs → a.isCell = true) → (execOp a.eval ⟨dst, op, ty, pos, after, guard⟩).run P w = .ok (.value (.pointer (some ⟨w.heap.size, 0, none⟩))) (w.alloc (.cells v.cells t)) → r = .ptr H.length 0 0 → H1 = newBlk H sz cs →
      ∃ k arr el v, H1 = H ++ [k] ∧ k.gen = 0 ∧ k.ro = false ∧ (execOp a.eval ⟨dst, op, ty, pos, after, guard⟩).run P w = .ok (.value v) (w.alloc (.cells arr el)) ∧ LRel Z ι k.cells (arr.toList.take k.cells.length) ∧ k.cells.length ≤ arr.size ∧ (∀ a, a ∈ k.cells → a.isCell = true) ∧
      ∀ Z' ι', ι' H.length = some ⟨w.heap.size, 0, 0, k.sz, k.cells.length, arr.size⟩ → AVR Z' ι' r v := by
    intro sz cs v t hl h1 hrun hr hH
    have hlen : cs.length = v.cells.size := by rw [hl.len]; simp
    refine ⟨⟨0, false, sz, cs⟩, v.cells, t, _, hH, rfl, rfl, hrun, ?_, (by show cs.length ≤ _; omega), h1, fun Z' ι' hι => ?_⟩
    · show LRel Z ι cs (v.cells.toList.take cs.length)
      rw [List.take_of_length_le (by simp; omega)]
      exact hl
    · subst hr
      exact .ptr _ _ _ _ _ hι (Nat.le_refl _) (fun _ => by simp)
  have row : ∀ {sz n c : Nat} {cs : List AV} {arr : Array Value} {t : Nat}, LRel Z ι cs (arr.toList.take cs.length) → (∀ a, a ∈ cs → a.isCell = true) → (execOp a.eval ⟨dst, op, ty, pos, after, guard⟩).run P w = .ok (.value (.slice (some ⟨w.heap.size, 0, none⟩) n c)) (w.alloc (.cells arr t)) → r = .row H.length 0 0 n → H1 = newBlk H sz cs →
      n * sz ≤ cs.length → n ≤ c → cs.length ≤ c * sz → c * sz = arr.size → ∃ k arr el v, H1 = H ++ [k] ∧ k.gen = 0 ∧ k.ro = false ∧ (execOp a.eval ⟨dst, op, ty, pos, after, guard⟩).run P w = .ok (.value v) (w.alloc (.cells arr el)) ∧ LRel Z ι k.cells (arr.toList.take k.cells.length) ∧ k.cells.length ≤ arr.size ∧ (∀ a, a ∈ k.cells → a.isCell = true) ∧
      ∀ Z' ι', ι' H.length = some ⟨w.heap.size, 0, 0, k.sz, k.cells.length, arr.size⟩ → AVR Z' ι' r v := by
    intro sz n c cs arr t hl h1 hrun hr hH hn hnc hc hca
    refine ⟨⟨0, false, sz, cs⟩, arr, t, _, hH, rfl, rfl, hrun, hl, by show cs.length ≤ _; omega, h1, fun Z' ι' hι => ?_⟩
    subst hr
    refine .row _ _ _ _ _ _ _ rfl hι (Nat.le_refl _) (fun _ => ⟨fun _ => by simp, ?_, ?_, ?_, hnc⟩)
    · simpa using hc
    · simp; omega
    · simpa using hn
  cases op <;> simp only [makesH, reduceCtorEq] at hm
  case alloc t =>
    simp only [evOp, oPick, oAlloc, oBox, oBuild, oBuildSlice, oLoad, oStore, oNil, oBin, oUn, oConv, oFunc, oMake, oSlice, oFieldAddr, oField, oIndexAddr, oIndex, oExtract, oCall, oLen, oAppend, oCopy, oMaxMin] at h
    split at h
    · rename_i z s hz hs
      split at h
      · cases h
        obtain ⟨zv, hzrun, hzr, hz1, i, hi, hzi⟩ := zero_ok (P := P) (Z := Z) (ι := ι) (w := w) hz
        exact var (t := t) hzr hz1 (by simp [execOp, Instr.alloc, hzrun, newVar, newRow]) rfl rfl
      · cases h
    · cases h
  case box t x =>
    simp only [evOp, oPick, oAlloc, oBox, oBuild, oBuildSlice, oLoad, oStore, oNil, oBin, oUn, oConv, oFunc, oMake, oSlice, oFieldAddr, oField, oIndexAddr, oIndex, oExtract, oCall, oLen, oAppend, oCopy, oMaxMin] at h
    split at h
    · rename_i v hv
      split at h
      · rename_i hall
        cases h
        exact var (t := t) (cells_rel (evA_ok hG he hv)) (all_of hall) (by simp [execOp, Instr.box, newVar, newRow]) rfl rfl
      · cases h
    · cases h
  case buildSlice t len parts =>
    simp only [evOp, oPick, oAlloc, oBox, oBuild, oBuildSlice, oLoad, oStore, oNil, oBin, oUn, oConv, oFunc, oMake, oSlice, oFieldAddr, oField, oIndexAddr, oIndex, oExtract, oCall, oLen, oAppend, oCopy, oMaxMin, Option.bind_eq_some_iff] at h
    obtain ⟨ps, hps, h⟩ := h
    have hp := parts_ok hG he hps
    unfold buildSliceA at h
    split at h
    · rename_i el hel
      have hu := elem_run hel
      split at h
      · rename_i s z hs hz
        split at h
        · rename_i hc
          obtain ⟨hs0, hzl, hbig⟩ := hc
          rw [Option.map_eq_some_iff] at h
          obtain ⟨cs, hcs, hr⟩ := h
          cases hr
          obtain ⟨zv, hzrun, hzr, hz1, i, hi, hzi⟩ := zero_ok (P := P) (Z := Z) (ι := ι) (w := w) hz
          have hmr := made_rel hzr hs0 hzl len
          obtain ⟨arr, f1, f2, f3, f4⟩ := fill_ok (fun i => some (i * s, s)) hp hmr (rep_all hz1 len) hcs
          have hal : arr.size = len * s := by rw [f4, size_madeCells]
          have hcl : cs.length = len * s := by rw [f2.len]; simpa using hal
          have e1 : (List.map (fun (i, x) => (i, a.eval x)) parts.toList).toArray = parts.map fun (i, x) => (i, a.eval x) := by rw [← Array.toList_map]
          have hrun : (Instr.buildSlice t len (List.map (fun (i, x) => (i, a.eval x)) parts.toList).toArray).run P w = .ok (.slice (some ⟨w.heap.size, 0, none⟩) len len) (w.alloc (.cells arr el)) := by
            have hn : ¬ (len * s > 2 ^ 24) := by omega
            by_cases h0 : len * s = 0
            · have hl0 : len = 0 := by
                rcases Nat.mul_eq_zero.1 h0 with h | h
                · exact h
                · omega
              subst hl0
              have hm0 : madeCells zv.cells (0 * s) = #[] := by simp [madeCells]
              rw [hm0] at f1
              simp [Instr.buildSlice, und_run hu, size_run hs, f1, newRow, Array.range_zero']
            · have f1' : Instr.fill (fun i => some (i * s, s)) ((Array.range (len * s)).map (zv.cells[· % zv.cells.size]!)) (List.map (fun (i, x) => (i, a.eval x)) parts.toList) = some arr := f1
              simp only [Instr.buildSlice, Sem.run_bind, und_run hu, size_run hs, Result.andThen_ok]
              rw [if_neg hn, if_neg h0]
              simp [hzrun, f1', newRow]
          rw [e1] at hrun
          exact row (sz := s) (arr := arr) (cs := cs) (t := el) (n := len) (c := len) (by rw [List.take_of_length_le (by simp; omega)]; exact f2) f3 (by simp [execOp, hrun]) rfl rfl (by omega) (Nat.le_refl _) (by omega) (by omega)
        · cases h
      · cases h
    · cases h
  case makeSlice t x y =>
    simp only [evOp, oPick, oAlloc, oBox, oBuild, oBuildSlice, oLoad, oStore, oNil, oBin, oUn, oConv, oFunc, oMake, oSlice, oFieldAddr, oField, oIndexAddr, oIndex, oExtract, oCall, oLen, oAppend, oCopy, oMaxMin] at h
    split at h
    · rename_i p q hp' hq
      have hl := evA_ok hG he hp'
      have hc := evA_ok hG he hq
      unfold makeSliceA at h
      split at h
      · rename_i el n m hel hn hm'
        have hu := elem_run hel
        obtain ⟨kl, hkl⟩ := int_inv hl hn
        obtain ⟨kc, hkc⟩ := int_inv hc hm'
        split at h
        · rename_i s b z hs hb hz
          split at h
          · rename_i hcond
            obtain ⟨c1, c2, c3, c4, hs0, hzl⟩ := hcond
            cases h
            obtain ⟨zv, hzrun, hzr, hz1, i, hi, hzi⟩ := zero_ok (P := P) (Z := Z) (ι := ι) (w := w) hz
            have hsi : i.size = s := by simpa [tSize, hi] using hs
            have hbi : i.bytes = b := by simpa [tBytes, hi] using hb
            have hrun := run_make (P := P) w t el i zv hu hi hzi kl kc n m c1 c2 (by rw [hbi]; exact c3) (by omega)
            rw [hsi] at hrun
            have hsz := size_madeCells zv.cells (m.toNat * s)
            have hmr := made_rel hzr hs0 hzl m.toNat
            have hcl : (List.replicate m.toNat z).flatten.length = m.toNat * s := by rw [hmr.len]; simpa using hsz
            have hnm : n.toNat ≤ m.toNat := by omega
            exact row (sz := s) (arr := madeCells zv.cells (m.toNat * s)) (cs := (List.replicate m.toNat z).flatten) (t := el) (n := n.toNat) (c := m.toNat) (by rw [List.take_of_length_le (by rw [hcl]; simp [hsz])]; exact hmr) (rep_all hz1 _) (by simp [execOp, hkl, hkc, hrun]) rfl rfl (by rw [hcl]; exact Nat.mul_le_mul_right _ hnm) hnm (Nat.le_of_eq hcl) (by rw [hsz])
          · cases h
        · cases h
      · cases h
    · cases h
end
end Go.Proofs.YtbjcghnhhgdopaaGreatDoor.Ai
