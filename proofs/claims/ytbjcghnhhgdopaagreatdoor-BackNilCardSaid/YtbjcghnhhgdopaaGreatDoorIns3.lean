import Derived.Test.YtbjcghnhhgdopaaGreatDoorIns2
set_option linter.unusedVariables false
set_option linter.unusedSimpArgs false
namespace Go.Proofs.YtbjcghnhhgdopaaGreatDoor.Ai
open Go Go.RowKit Go.Lib Go.Proofs

theorem setCell_heap {w : World} {b o : Nat} {v : Value} {arr : Array Value} {e : TypeId} {fr : Nat × Nat} (h : w.heap[b]? = some (.cells arr e fr)) :
    (w.setCell ⟨b, o, none⟩ v).heap[b]? = some (.cells (arr.setIfInBounds o v) e fr) := by
  have hlt : b < w.heap.size := (Array.getElem?_eq_some_iff.1 h).1
  have hv : w.heap[b] = .cells arr e fr := (Array.getElem?_eq_some_iff.1 h).2
  simp [World.setCell, Array.getElem?_modify, Array.getElem_modify, hlt, hv]
theorem setCell_other {w : World} {b o B : Nat} {v : Value} (h : B ≠ b) : (w.setCell ⟨b, o, none⟩ v).heap[B]? = w.heap[B]? := by
  simp [World.setCell, Array.getElem?_modify, Ne.symm h]
theorem setCells_heap {b : Nat} : ∀ (vs : List Value) (o : Nat) (w : World) {arr : Array Value} {e : TypeId} {fr : Nat × Nat}, w.heap[b]? = some (.cells arr e fr) →
    ∃ arr', (w.setCells b o vs).heap[b]? = some (.cells arr' e fr) ∧ arr'.size = arr.size ∧ ∀ k : Nat, arr'[k]? = if o ≤ k ∧ k < o + vs.length ∧ k < arr.size then vs[k - o]? else arr[k]?
  | [], o, w, arr, e, fr, h => ⟨arr, h, rfl, fun k => by rw [if_neg (by simp; omega)]⟩
  | v :: r, o, w, arr, e, fr, h => by
    obtain ⟨arr', h1, h2, h3⟩ := setCells_heap r (o + 1) (w.setCell ⟨b, o, none⟩ v) (setCell_heap h)
    refine ⟨arr', h1, by simpa using h2, fun k => ?_⟩
    rw [h3]
    simp only [Array.size_setIfInBounds, List.length_cons]
    by_cases hk : k = o
    · subst hk
      rw [if_neg (by omega), Array.getElem?_setIfInBounds, if_pos rfl]
      by_cases hs : k < arr.size
      · rw [if_pos hs, if_pos ⟨by omega, by omega, hs⟩]; simp
      · rw [if_neg hs, if_neg (by omega)]; simp; omega
    · rw [Array.getElem?_setIfInBounds, if_neg (Ne.symm hk)]
      by_cases hc : o + 1 ≤ k ∧ k < o + 1 + r.length ∧ k < arr.size
      · rw [if_pos hc, if_pos (by omega), show k - o = (k - (o + 1)) + 1 by omega]; simp
      · rw [if_neg hc, if_neg (by omega)]
theorem setCells_rest {b : Nat} : ∀ (vs : List Value) (o : Nat) (w : World), (w.setCells b o vs).os = w.os ∧ (w.setCells b o vs).tape = w.tape ∧ (w.setCells b o vs).output = w.output ∧ (w.setCells b o vs).heap.size = w.heap.size ∧ ∀ B, B ≠ b → (w.setCells b o vs).heap[B]? = w.heap[B]?
  | [], o, w => ⟨rfl, rfl, rfl, rfl, fun _ _ => rfl⟩
  | v :: r, o, w => by
    obtain ⟨h1, h2, h3, h4, h5⟩ := setCells_rest r (o + 1) (w.setCell ⟨b, o, none⟩ v)
    exact ⟨h1, h2, h3, by rw [World.setCells, h4]; simp [World.setCell], fun B hB => by rw [World.setCells, h5 B hB, setCell_other hB]⟩

/-- slices.Insert at []api.Bucket: one bucket, ahead of one. -/
def insA (lo : Nat) (xs : List AV) (H : Heap) : Option (AV × Heap) := match xs with
  | [.row id g off n, .f (.int .i64 i), .row vid vg voff 1] => match H[id]?, H[vid]? with
    | some k, some q =>
      if k.gen = g ∧ k.sz = 2 ∧ k.ro = false ∧ off + n * 2 ≤ k.cells.length ∧ lo ≤ id ∧ q.gen = vg ∧ q.sz = 2 ∧ voff + 2 ≤ q.cells.length ∧ id ≠ vid ∧ 0 ≤ i ∧ i.toNat < n ∧ (n + 1) * 32 ≤ 140737488355328 then
        some (.row id (g + 1) 0 (n + 1), H.set id { k with gen := g + 1, cells := (k.cells.drop off).take (i.toNat * 2) ++ (q.cells.drop voff).take 2 ++ ((k.cells.drop off).take (n * 2)).drop (i.toNat * 2) })
      else none
    | _, _ => none
  | _ => none
theorem insA_ok {S : Sig} {lo : Nat} {xs : List AV} {H : Heap} {r : AV} {H' : Heap} (h : insA lo xs H = some (r, H')) : (lo ≤ H.length → H.length ≤ H'.length ∧ ∀ id, id < lo → H'[id]? = H[id]?) ∧ ∀ Z ι w vs, Inv H Z ι w → GlobR S.G Z → LRel Z ι xs vs →
    (Enters Tryz.prog 110 ∧ Calls Tryz.prog 110 vs.toArray w fun e w' => ∃ v Z' ι', e = .returned v ∧ AVR Z' ι' r v ∧ Inv H' Z' ι' w' ∧ Ext H Z ι w H' Z' ι' w') := by
  unfold insA at h
  split at h
  · rename_i id g off n i vid vg voff
    split at h
    · rename_i k q hk hq
      split at h
      · rename_i hc
        obtain ⟨c1, c2, c3, c4, c5, c6, c7, c8, c9, c10, c11, c12⟩ := hc
        cases h
        refine ⟨fun _ => ⟨by simp, fun j hj => List.getElem?_set_ne (by omega)⟩, fun Z ι w vs hI hG hA => ⟨⟨_, Tryz.func110, by kernel_rfl, by kernel_rfl⟩, ?_⟩⟩
        obtain ⟨i, rfl⟩ := Int.eq_ofNat_of_zero_le c10
        simp only [Int.ofNat_eq_natCast, Int.toNat_natCast] at c11 ⊢
        cases hA with
        | cons _ v1 _ _ hx hA =>
        cases hA with
        | cons _ v2 _ _ hy hA =>
        cases hA with
        | cons _ v3 _ _ hv hA =>
        cases hA
        have e2 := int_inv' hy
        subst e2
        cases hx with
        | row _ _ _ _ A c L hsp hι hg hAA =>
        cases hv with
        | row _ _ _ _ Av cv Lv hspv hιv hgv hAv =>
        have hR := hI.blk id k L hk hι
        have hRv := hI.blk vid q Lv hq hιv
        obtain ⟨a1, a2, a3, a4, a5⟩ := hAA (by rw [← c1]; exact hR.gen)
        obtain ⟨b1, b2, b3, b4, b5⟩ := hAv (by rw [← c6]; exact hRv.gen)
        have hs2 : L.sz = 2 := by rw [← hR.sz]; exact c2
        have hs2v : Lv.sz = 2 := by rw [← hRv.sz]; exact c7
        rw [hs2] at a2 a3 a4
        rw [hs2v] at b2 b3 b4
        have eA := a1 (by omega)
        have eAv := b1 (by omega)
        subst eA eAv
        have hne : Lv.B ≠ L.B := fun e => c9 (hI.inj _ _ _ _ hι hιv e.symm)
        obtain ⟨arr, e, o1, o2, o3⟩ := hR.obj
        obtain ⟨arv, ev, p1, p2, p3⟩ := hRv.obj
        have hsz := hR.size
        have hszv := hRv.size
        have hfit := hR.fits
        have hfitv := hRv.fits
        have hcell : ∀ (B : Nat) (ar : Array Value) (t : TypeId), w.heap[B]? = some (.cells ar t (0, 0)) → ∀ o, w.cell? ⟨B, o, none⟩ = ar[o]? := fun B ar t hB o => by simp [World.cell?, hB]
        have hfrz : ∀ (B : Nat) (ar : Array Value) (t : TypeId), w.heap[B]? = some (.cells ar t (0, 0)) → ∀ o, w.frozen? ⟨B, o, none⟩ = false := fun B ar t hB o => by simp [World.frozen?, hB]
        -- the values of the two rows
        obtain ⟨cs, hcs⟩ : ∃ cs : List Value, cs = (arr.toList.drop (L.sh + off)).take (n * 2) := ⟨_, rfl⟩
        obtain ⟨us, hus⟩ : ∃ us : List Value, us = (arv.toList.drop (Lv.sh + voff)).take 2 := ⟨_, rfl⟩
        have hcl : cs.length = n * 2 := by rw [hcs]; simp; omega
        have hul : us.length = 2 := by rw [hus]; simp; omega
        have hcg : ∀ j, j < n * 2 → cs[j]? = arr[L.sh + off + j]? := fun j hj => by rw [hcs, List.getElem?_take, if_pos hj, List.getElem?_drop]; simp
        have hug : ∀ j, j < 2 → us[j]? = arv[Lv.sh + voff + j]? := fun j hj => by rw [hus, List.getElem?_take, if_pos hj, List.getElem?_drop]; simp
        have hrel : ∀ j a, j < n * 2 → (k.cells.drop off)[j]? = some a → ∃ v, cs[j]? = some v ∧ AVR Z ι a v := fun j a hj ha => by
          rw [List.getElem?_drop] at ha
          obtain ⟨v, h1, h2⟩ := o3 _ _ ha
          exact ⟨v, by rw [hcg j hj, ← h1]; congr 1; omega, h2⟩
        have hrelv : ∀ j a, j < 2 → (q.cells.drop voff)[j]? = some a → ∃ v, us[j]? = some v ∧ AVR Z ι a v := fun j a hj ha => by
          rw [List.getElem?_drop] at ha
          obtain ⟨v, h1, h2⟩ := p3 _ _ ha
          exact ⟨v, by rw [hug j hj, ← h1]; congr 1; omega, h2⟩
        have hone : ∀ v ∈ cs, v.oneCell' = true := fun v hv => by
          obtain ⟨j, hj⟩ := List.getElem?_of_mem hv
          have hjl : j < n * 2 := by rw [← hcl]; exact (List.getElem?_eq_some_iff.1 hj).1
          have hj2 : j < (k.cells.drop off).length := by simp; omega
          obtain ⟨v', h1, h2⟩ := hrel j _ hjl (List.getElem?_eq_getElem hj2)
          rw [hj] at h1
          cases h1
          exact (one_of h2 (hR.one _ (List.mem_of_mem_drop (List.getElem_mem hj2)))).1
        have honev : ∀ v ∈ us, v.oneCell' = true := fun v hv => by
          obtain ⟨j, hj⟩ := List.getElem?_of_mem hv
          have hjl : j < 2 := by rw [← hul]; exact (List.getElem?_eq_some_iff.1 hj).1
          have hj2 : j < (q.cells.drop voff).length := by simp; omega
          obtain ⟨v', h1, h2⟩ := hrelv j _ hjl (List.getElem?_eq_getElem hj2)
          rw [hj] at h1
          cases h1
          exact (one_of h2 (hRv.one _ (List.mem_of_mem_drop (List.getElem_mem hj2)))).1
        have hcs' : ∀ j v, cs[j]? = some v → w.cell? ⟨L.B, L.sh + off + j, none⟩ = some v := fun j v hj => by
          have hjl : j < n * 2 := by rw [← hcl]; exact (List.getElem?_eq_some_iff.1 hj).1
          rw [hcell _ _ _ o1, ← hcg j hjl, hj]
        have hus' : ∀ j v, us[j]? = some v → w.cell? ⟨Lv.B, Lv.sh + voff + j, none⟩ = some v := fun j v hj => by
          have hjl : j < 2 := by rw [← hul]; exact (List.getElem?_eq_some_iff.1 hj).1
          rw [hcell _ _ _ p1, ← hug j hjl, hj]
        -- the new cells
        obtain ⟨new, hnew⟩ : ∃ new, new = (k.cells.drop off).take (i * 2) ++ (q.cells.drop voff).take 2 ++ ((k.cells.drop off).take (n * 2)).drop (i * 2) := ⟨_, rfl⟩
        rw [← hnew]
        have hnl : new.length = (n + 1) * 2 := by rw [hnew]; simp; omega
        have h1 : ∀ a, a ∈ new → a.isCell = true := fun a ha => by
          rw [hnew] at ha
          simp only [List.mem_append] at ha
          rcases ha with (ha | ha) | ha
          · exact hR.one _ (List.mem_of_mem_drop (List.mem_of_mem_take ha))
          · exact hRv.one _ (List.mem_of_mem_drop (List.mem_of_mem_take ha))
          · exact hR.one _ (List.mem_of_mem_drop (List.mem_of_mem_take (List.mem_of_mem_drop ha)))
        have hget : ∀ (j : Nat) (a : AV), new[j]? = some a → ∃ v, (if j < i * 2 then cs[j]? else if j < i * 2 + 2 then us[j - i * 2]? else cs[j - 2]?) = some v ∧ AVR Z ι a v := fun j a ha => by
          have hlj : j < (n + 1) * 2 := by rw [← hnl]; exact (List.getElem?_eq_some_iff.1 ha).1
          rw [hnew] at ha
          have hl1 : ((k.cells.drop off).take (i * 2)).length = i * 2 := by simp; omega
          have hl2 : ((q.cells.drop voff).take 2).length = 2 := by simp; omega
          rw [List.getElem?_append, List.length_append, hl1, hl2] at ha
          by_cases q1 : j < i * 2
          · rw [if_pos (by omega), List.getElem?_append, hl1, if_pos q1, List.getElem?_take, if_pos q1] at ha
            rw [if_pos q1]
            exact hrel j a (by omega) ha
          · rw [if_neg q1]
            by_cases q2 : j < i * 2 + 2
            · rw [if_pos q2, List.getElem?_append, hl1, if_neg q1, List.getElem?_take, if_pos (by omega)] at ha
              rw [if_pos q2]
              exact hrelv _ a (by omega) ha
            · rw [if_neg q2, List.getElem?_drop, List.getElem?_take, if_pos (by omega)] at ha
              rw [if_neg q2]
              rw [show i * 2 + (j - (i * 2 + 2)) = j - 2 by omega] at ha
              exact hrel _ a (by omega) ha
        by_cases hroom : n + 1 ≤ c
        · -- in place
          refine (ins_shift L.B (L.sh + off) n c i Lv.B (Lv.sh + voff) cv cs us w c11 hroom (by omega) hne hcl hul hcs' (fun j hj => ?_) (fun j hj => hfrz _ _ _ o1 _) hus' hone honev ev e arv.size arr.size ?_ ?_ (by omega) (hfrz _ _ _ p1 _) (hfrz _ _ _ p1 _)).mono fun en w' => ?_
          · rw [hcell _ _ _ o1, Array.getElem?_eq_getElem (by omega)]; rfl
          · simp [World.shape?, p1]
          · simp [World.shape?, o1]
          rintro ⟨rfl, rfl⟩
          obtain ⟨q1, q2, q3, q4, q5⟩ := setCells_rest (b := L.B) (cs.drop (i * 2)) (L.sh + off + (i + 1) * 2) w.drew
          obtain ⟨r1, r2, r3, r4, r5⟩ := setCells_rest (b := L.B) us (L.sh + off + i * 2) (w.drew.setCells L.B (L.sh + off + (i + 1) * 2) (cs.drop (i * 2)))
          obtain ⟨ar1, s1, s2, s3⟩ := setCells_heap (b := L.B) (cs.drop (i * 2)) (L.sh + off + (i + 1) * 2) w.drew o1
          obtain ⟨ar2, t1, t2, t3⟩ := setCells_heap (b := L.B) us (L.sh + off + i * 2) _ s1
          have hfin : ∀ (j : Nat) (a : AV), new[j]? = some a → ∃ v, ar2[L.sh + off + j]? = some v ∧ AVR Z ι a v := fun j a ha => by
            obtain ⟨v, v1, v2⟩ := hget j a ha
            have hlj : j < (n + 1) * 2 := by rw [← hnl]; exact (List.getElem?_eq_some_iff.1 ha).1
            refine ⟨v, ?_, v2⟩
            rw [← v1, t3, s3]
            have hdl : (cs.drop (i * 2)).length = n * 2 - i * 2 := by rw [List.length_drop, hcl]
            simp only [hul, hdl]
            by_cases q1 : j < i * 2
            · rw [if_neg (by omega), if_neg (by omega), if_pos q1, hcg j (by omega)]
            · by_cases q2 : j < i * 2 + 2
              · rw [if_pos (by omega), if_neg q1, if_pos q2]
                congr 1; omega
              · rw [if_neg (by omega), if_pos (by omega), if_neg q1, if_neg q2, List.getElem?_drop]
                congr 1; omega
          obtain ⟨u1, u2⟩ := hI.upd (k' := { k with gen := g + 1, cells := new }) (L' := ⟨L.B, L.sh + off, g + 1, 2, (n + 1) * 2, L.tot⟩) (w' := (w.drew.setCells L.B (L.sh + off + (i + 1) * 2) (cs.drop (i * 2))).setCells L.B (L.sh + off + i * 2) us)
            hk hι c3 (by simp; rw [← hR.gen]; omega) (fun e => by simp at e; rw [← hR.gen] at e; omega) (.inl rfl) (r1.trans q1) (r2.trans q2) (r3.trans q3) (by rw [r4, q4]; exact Nat.le_refl _) (fun B _ hB => (r5 B hB).trans (q5 B hB))
            rfl hnl c2 (by simp; omega) c3 h1 ⟨ar2, e, t1, by rw [t2, s2, o2], hfin⟩
          refine ⟨_, Z, _, rfl, ?_, u1, u2⟩
          exact .row _ _ _ _ _ _ _ rfl (addI_same _ _ _) (Nat.le_refl _) (fun _ => ⟨fun _ => rfl, by simp; omega, by simp; omega, by simp, hroom⟩)
        · -- a new row
          obtain ⟨G, z, g1, g2, g3, hcall⟩ := ins_grow L.B (L.sh + off) n c i Lv.B (Lv.sh + voff) cv cs us w c11 a5 (by omega) c12 hcl hul hcs' hus' hone honev
          refine hcall.mono fun en w' => ?_
          rintro ⟨rfl, rfl⟩
          obtain ⟨ROW, hROW⟩ : ∃ ROW : Array Value, ROW = (cs.take (i * 2)).toArray ++ Builtin.zeroCells z (n + 1 - i) ++ Builtin.zeroCells z (G - (n + 1)) := ⟨_, rfl⟩
          rw [← hROW]
          have hRs : ROW.size = G * 2 := by
            rw [hROW]
            simp [Builtin.zeroCells, g3]
            omega
          have hRg : ∀ j, j < i * 2 → ROW[j]? = cs[j]? := fun j hj => by
            rw [hROW, Array.append_assoc, Array.getElem?_append, if_pos (by simp; omega)]
            simp [hj]
          obtain ⟨W1, hW1⟩ : ∃ W1, W1 = w.alloc (.cells ROW 51) := ⟨_, rfl⟩
          rw [← hW1]
          have m1 : W1.heap = w.heap.push (.cells ROW 51 (0, 0)) := by rw [hW1]; rfl
          have m2 : W1.drew.heap[w.heap.size]? = some (.cells ROW 51 (0, 0)) := by
            show W1.heap[w.heap.size]? = _
            rw [m1]; simp
          obtain ⟨q1, q2, q3, q4, q5⟩ := setCells_rest (b := w.heap.size) us (i * 2) W1.drew
          obtain ⟨r1, r2, r3, r4, r5⟩ := setCells_rest (b := w.heap.size) (cs.drop (i * 2)) ((i + 1) * 2) (W1.drew.setCells w.heap.size (i * 2) us).drew
          obtain ⟨ar1, s1, s2, s3⟩ := setCells_heap (b := w.heap.size) us (i * 2) W1.drew m2
          obtain ⟨ar2, t1, t2, t3⟩ := setCells_heap (b := w.heap.size) (cs.drop (i * 2)) ((i + 1) * 2) (W1.drew.setCells w.heap.size (i * 2) us).drew s1
          have hfin : ∀ (j : Nat) (a : AV), new[j]? = some a → ∃ v, ar2[0 + j]? = some v ∧ AVR Z ι a v := fun j a ha => by
            obtain ⟨v, v1, v2⟩ := hget j a ha
            have hlj : j < (n + 1) * 2 := by rw [← hnl]; exact (List.getElem?_eq_some_iff.1 ha).1
            refine ⟨v, ?_, v2⟩
            rw [← v1, t3, s3]
            have hdl : (cs.drop (i * 2)).length = n * 2 - i * 2 := by rw [List.length_drop, hcl]
            simp only [hul, hdl, Nat.zero_add]
            by_cases q1 : j < i * 2
            · rw [if_neg (by omega), if_neg (by omega), if_pos q1, hRg j q1]
            · by_cases q2 : j < i * 2 + 2
              · rw [if_neg (by omega), if_pos (by omega), if_neg q1, if_pos q2]
              · rw [if_pos (by omega), if_neg q1, if_neg q2, List.getElem?_drop]
                congr 1; omega
          obtain ⟨u1, u2⟩ := hI.upd (k' := { k with gen := g + 1, cells := new }) (L' := ⟨w.heap.size, 0, g + 1, 2, (n + 1) * 2, G * 2⟩) (w' := ((W1.drew.setCells w.heap.size (i * 2) us).drew).setCells w.heap.size ((i + 1) * 2) (cs.drop (i * 2)))
            hk hι c3 (by simp; rw [← hR.gen]; omega) (fun e => by simp at e; rw [← hR.gen] at e; omega) (.inr (Nat.le_refl _)) ((r1.trans q1).trans (by rw [hW1]; rfl)) ((r2.trans q2).trans (by rw [hW1]; rfl)) ((r3.trans q3).trans (by rw [hW1]; rfl)) (by
              rw [r4]
              show w.heap.size ≤ (W1.drew.setCells w.heap.size (i * 2) us).heap.size
              rw [q4]
              show w.heap.size ≤ W1.heap.size
              rw [m1]; simp) (fun B hlt hB => by
              rw [r5 B (by omega)]
              show (W1.drew.setCells w.heap.size (i * 2) us).heap[B]? = _
              rw [q5 B (by omega)]
              show W1.heap[B]? = _
              rw [m1, Array.getElem?_push, if_neg (by omega)])
            rfl hnl c2 (by simp; omega) c3 h1 ⟨ar2, 51, t1, by rw [t2, s2, hRs], hfin⟩
          refine ⟨_, Z, _, rfl, ?_, u1, u2⟩
          exact .row _ _ _ _ _ _ _ rfl (addI_same _ _ _) (Nat.le_refl _) (fun _ => ⟨fun _ => rfl, by simp; omega, by simp, by simp, g1⟩)
      · cases h
    · cases h
  · cases h
end Go.Proofs.YtbjcghnhhgdopaaGreatDoor.Ai
