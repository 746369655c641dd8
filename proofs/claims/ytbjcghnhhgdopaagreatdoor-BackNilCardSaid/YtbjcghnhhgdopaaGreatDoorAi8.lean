import Derived.Test.YtbjcghnhhgdopaaGreatDoorAi7
namespace Go.Proofs.YtbjcghnhhgdopaaGreatDoor.Ai
open Go Go.RowKit

set_option linter.unusedSimpArgs false
section
variable {P : Program} {H : Heap} {Z : Zone} {ι : Inj} {w : World}
theorem lenA_ok {y : AV} {vy : Value} (hy : AVR Z ι y vy) {n : Nat} (h : lenA y = some n) : (Builtin.lenOf vy).run P w = .ok n w := by
  cases hy with
  | f x _ hv => cases hv <;> simp [lenA] at h <;> subst h <;> rfl
  | row => simp [lenA] at h; subst h; rfl
  | _ => simp [lenA] at h
theorem load_row {b o n : Nat} {cs : List AV} (hn : cs.length = n) (h : ∀ (j : Nat) a, cs[j]? = some a → ∃ v, w.cell? ⟨b, o + j, none⟩ = some v ∧ AVR Z ι a v) :
    ∃ arr : Array Value, (loadCells ⟨b, o, none⟩ n).run P w = .ok arr w ∧ LRel Z ι cs arr.toList := by
  have hex : ∀ j, ∃ u, j < n → w.cell? ⟨b, o + j, none⟩ = some u ∧ ∀ a, cs[j]? = some a → AVR Z ι a u := by
    intro j
    by_cases hj : j < n
    · have hlt : j < cs.length := by omega
      obtain ⟨u, hu, hr⟩ := h j _ (List.getElem?_eq_getElem hlt)
      refine ⟨u, fun _ => ⟨hu, fun a ha => ?_⟩⟩
      rw [List.getElem?_eq_getElem hlt] at ha
      cases ha
      exact hr
    · exact ⟨undef, fun h => absurd h hj⟩
  let us := fun j => Classical.choose (hex j)
  have hus : ∀ j, j < n → w.cell? ⟨b, o + j, none⟩ = some (us j) ∧ ∀ a, cs[j]? = some a → AVR Z ι a (us j) := fun j => Classical.choose_spec (hex j)
  have hl := run_loadCells (P := P) w ⟨b, o, none⟩ n us (fun j hj => by rw [add_lit']; exact (hus j hj).1)
  refine ⟨_, hl, LRel.of_get (by simp [hn]) (fun j a v ha hv => ?_)⟩
  have hj : j < n := hn ▸ (List.getElem?_eq_some_iff.1 ha).1
  simp [hj] at hv
  subst hv
  exact (hus j hj).2 a ha

theorem src_ok (hI : Inv H Z ι w) {y : AV} {vy : Value} (hy : AVR Z ι y vy) {s n : Nat} (hs : 0 < s) {new : List AV} (h : srcA H s n y = some new) :
    ∃ arr : Array Value, (Builtin.firstCells s n vy).run P w = .ok arr w ∧ LRel Z ι new arr.toList ∧ new.length = n * s ∧ ∀ a, a ∈ new → a.isCell = true := by
  unfold srcA at h
  split at h
  · rename_i sz rows
    split at h
    · rename_i hc
      obtain ⟨rfl, hn⟩ := hc
      cases h
      cases hy with
      | f _ _ hv =>
        cases hv with
        | fz _ _ A b o c vs hA hsz hcap h1 h2 =>
          by_cases hc0 : c = 0
          · have hr0 : rows = [] := List.eq_nil_of_length_eq_zero (by omega)
            subst hr0
            obtain rfl : n = 0 := by simpa using hn
            exact ⟨#[], by simp [Builtin.firstCells, loadCells, loadCellsFrom], by simpa using .nil, by simp, by simp⟩
          obtain rfl := hA hc0
          have hu : ∀ r, r ∈ rows.take n → r.length = sz := fun r hr => hsz r (List.mem_of_mem_take hr)
          have hlen : ((rows.take n).flatten.map AV.f).length = n * sz := by rw [List.length_map, flatten_len _ hu, List.length_take, Nat.min_eq_left hn]
          obtain ⟨arr, g1, g2⟩ := load_row (P := P) (Z := Z) (ι := ι) (w := w) (b := b) (o := o) hlen (fun j a ha => by
            rw [List.getElem?_map, Option.map_eq_some_iff] at ha
            obtain ⟨x, hx, rfl⟩ := ha
            rw [flatten_get hs _ hu, Option.bind_eq_some_iff] at hx
            obtain ⟨r, hr, hx⟩ := hx
            rw [List.getElem?_take] at hr
            split at hr
            · have e1 := h1 _ _ _ _ hr hx
              have : o + j = o + j / sz * sz + j % sz := by have := Nat.div_add_mod j sz; rw [Nat.mul_comm] at this; omega
              rw [this]
              exact ⟨_, hI.zone _ _ _ e1, .f _ _ (h2 _ _ _ _ hr hx)⟩
            · cases hr)
          exact ⟨arr, g1, g2, hlen, fun a ha => by rw [List.mem_map] at ha; obtain ⟨x, _, rfl⟩ := ha; rfl⟩
    · cases h
  · split at h
    · rename_i hn
      subst hn
      cases h
      cases hy with
      | f _ _ hv =>
        cases hv
        exact ⟨#[], by simp [Builtin.firstCells], .nil, by simp, by simp⟩
    · cases h
  · rename_i b
    split at h
    · rename_i hc
      obtain ⟨rfl, hn⟩ := hc
      cases h
      have := str_inv hy
      subst this
      refine ⟨_, by simp [Builtin.firstCells]; rfl, LRel.of_get ?_ (fun i a v ha hv => ?_), by simp; exact Nat.min_eq_left (by simpa using hn), fun a ha => by rw [List.mem_map] at ha; obtain ⟨x, _, rfl⟩ := ha; rfl⟩
      · simp
      · simp [List.getElem?_take] at ha hv
        obtain ⟨_, x, hx, rfl⟩ := ha
        obtain ⟨_, y, hy', rfl⟩ := hv
        rw [hx] at hy'
        cases hy'
        exact .f _ _ (.int _ _)
    · cases h
  · rename_i id g off len
    split at h
    · rename_i k hk
      split at h
      · rename_i hc
        obtain ⟨c1, c2, c3⟩ := hc
        cases h
        cases hy with
        | row _ _ _ _ A c L hsp hι hg hA =>
          have hR := hI.blk id k L hk hι
          obtain ⟨a1, a2, a3, a4, a5⟩ := hA (by rw [← c1]; exact hR.gen)
          have hsz : L.sz = s := by rw [← hR.sz]; exact c2
          have hsize := hR.size
          have hns : n * s ≤ len * s := Nat.mul_le_mul_right _ c3
          rw [hsz] at a4
          have hlen : ((k.cells.drop off).take (n * s)).length = n * s := by simp; omega
          have hcell : ∀ a, a ∈ (k.cells.drop off).take (n * s) → a.isCell = true := fun a ha => hR.one a (List.mem_of_mem_drop (List.mem_of_mem_take ha))
          by_cases hn : n = 0
          · subst hn
            refine ⟨#[], by simp [Builtin.firstCells, loadCells, loadCellsFrom], ?_, hlen, hcell⟩
            simp
            exact .nil
          · obtain ⟨arr, e, o1, o2, o3⟩ := hR.obj
            rw [a1 (by omega)]
            obtain ⟨arr', g1, g2⟩ := load_row (P := P) (Z := Z) (ι := ι) (w := w) (b := L.B) (o := L.sh + off) hlen (fun j a ha => by
              rw [List.getElem?_take] at ha
              split at ha
              · rw [List.getElem?_drop] at ha
                obtain ⟨v, hv, hr⟩ := o3 _ _ ha
                exact ⟨v, by rw [cell_of_row w L.B _ arr e (0, 0) o1, Nat.add_assoc]; exact hv, hr⟩
              · cases ha)
            exact ⟨arr', by simpa [Builtin.firstCells] using g1, g2, hlen, hcell⟩
      · cases h
    · cases h
  · cases h

theorem Inv.heap_eq {w' : World} (h : Inv H Z ι w) (e : w'.heap = w.heap) : Inv H Z ι w' := by
  have hc : ∀ B o, w'.cell? ⟨B, o, none⟩ = w.cell? ⟨B, o, none⟩ := fun B o => cell_same (by rw [e])
  refine ⟨fun b o v hz => by rw [hc]; exact h.zone _ _ _ hz, fun id k L hk hL => ?_, h.dom, h.inj⟩
  exact (h.blk id k L hk hL).move (by rw [e]) (fun _ L h => ⟨L, h, Nat.le_refl _, fun _ => rfl⟩)
theorem Ext.heap_eq {w' : World} (e : w'.heap = w.heap) (hos : w'.os = w.os) (ht : w'.tape = w.tape) (ho : w'.output = w.output) : Ext H Z ι w H Z ι w' :=
  ⟨Nat.le_refl _, fun _ L h => .inl ⟨L, h⟩, hos, ht, ho, by rw [e]; exact Nat.le_refl _, fun _ _ _ h => h, fun _ L h => ⟨L, h, Nat.le_refl _, fun _ => rfl⟩, fun _ L h => .inl ⟨L, h, rfl⟩, fun _ _ _ h => .inl h, fun _ _ _ => by rw [e]⟩

theorem append_room {t t2 e s n len c : Nat} {u2 : TypeDesc} {base : Option Addr} {vy : Value} {arr : Array Value} {w' : World} {ats : Array Nat} {ty : Nat} (h0 : ats[0]? = some t) (h1 : ats[1]? = some t2) (hu : P.underlying t = some (.slice e)) (hu2 : P.underlying t2 = some u2)
    (hni : isIntD u2 = false) (hs : tSize P e = some s) (hn : (Builtin.lenOf vy).run P w = .ok n w) (hf : (Builtin.firstCells s n vy).run P w = .ok arr w) (hroom : len + n ≤ c)
    (hst : (match base with | some a => storeCells (a.add (len * s)) arr.toList | none => pure ()).run P w = .ok () w') :
    (Builtin.append_ ats ty #[.slice base len c, vy]).run P w = .ok (.slice base (len + n) c) w' := by
  cases base with
  | none =>
    simp at hst
    subst hst
    simp [Builtin.append_, h0, h1, und_run hu, und_run hu2, size_run hs, hn, hf, hroom]
    cases u2 <;> first | (simp [isIntD] at hni; done) | simp [hn, hf, hroom]
  | some a =>
    simp [Builtin.append_, h0, h1, und_run hu, und_run hu2, size_run hs]
    cases u2 <;> first | (simp [isIntD] at hni; done) | simp [hn, hf, hroom, hst]
theorem append_grow {t t2 e s n len c : Nat} {u2 : TypeDesc} {base : Option Addr} {vy : Value} {old arr : Array Value} {i : TypeInfo} {z : Value} {ats : Array Nat} {ty : Nat} (h0 : ats[0]? = some t) (h1 : ats[1]? = some t2) (hu : P.underlying t = some (.slice e)) (hu2 : P.underlying t2 = some u2)
    (hni : isIntD u2 = false) (hi : P.info? e = some i) (hs : i.size = s) (hz : i.zero = some z) (hn : (Builtin.lenOf vy).run P w = .ok n w) (hf : (Builtin.firstCells s n vy).run P w.drew = .ok arr w.drew)
    (ho : (Builtin.firstCells s len (.slice base len c)).run P w.drew = .ok old w.drew) (hroom : ¬ len + n ≤ c) (h63 : len + n ≤ 140737488355328) (hb : (len + n) * i.bytes ≤ 140737488355328) :
    (Builtin.append_ ats ty #[.slice base len c, vy]).run P w = .ok (.slice (some ⟨w.heap.size, 0, none⟩) (len + n) (grownCap w (len + n) c e)) (w.drew.alloc (.cells (old ++ arr ++ Builtin.zeroCells z.cells (grownCap w (len + n) c e - (len + n))) e)) := by
  have hs' : tSize P e = some s := by simp [tSize, hi, hs]
  have g1 := growslice_fits (need := len + n) (old := c) (by omega) hb
  have n1 : ¬ (281474976710656 < Builtin.nextslicecap (len + n) c * i.bytes) := by omega
  have n2 : ¬ (((len + n : Nat) : Int) > IntKind.i64.max) := by
    show ¬ (9223372036854775807 < ((len + n : Nat) : Int))
    omega
  have n3 : ¬ (9223372036854775807 < ((len : Int) + (n : Int))) := by omega
  simp [Builtin.append_, h0, h1, und_run hu, und_run hu2, size_run hs']
  cases u2 <;> first | (simp [isIntD] at hni; done) | simp [hn, hroom, typeInfo, hi, n3, n1, Question.forced, hf, ho, zeroValue, hz, newRow, grownCap]

theorem append_ok (hI : Inv H Z ι w) {x y : AV} {vx vy : Value} (hx : AVR Z ι x vx) (hy : AVR Z ι y vy) {t t2 : Nat} {r : AV} {H' : Heap} {lo : Nat} (h : appendA P lo H t t2 x y = some (r, H')) {ats : Array Nat} (ha0 : ats[0]? = some t) (ha1 : ats[1]? = some t2) (ty : Nat) :
    ∃ v w' Z' ι', (Builtin.append_ ats ty #[vx, vy]).run P w = .ok v w' ∧ AVR Z' ι' r v ∧ Inv H' Z' ι' w' ∧ Ext H Z ι w H' Z' ι' w' := by
  unfold appendA at h
  split at h
  · rename_i e u2 he hu2
    have hu := elem_run he
    split at h
    · cases h
    · rename_i hni
      have hni : isIntD u2 = false := by simpa using hni
      split at h
      · rename_i s bytes z n hs hb hz hn
        split at h
        · rename_i new hnew
          split at h
          · rename_i hc
            obtain ⟨hs0, hzl⟩ := hc
            have hlen := lenA_ok (P := P) (w := w) hy hn
            obtain ⟨arr, f1, f2, f3, f4⟩ := src_ok (P := P) hI hy hs0 hnew
            have hId := hI.heap_eq (w' := w.drew) rfl
            obtain ⟨arrd, fd1, fd2, _, _⟩ := src_ok (P := P) hId hy hs0 hnew
            obtain ⟨zv, hzrun, hzr, hz1, i, hi, hzi⟩ := zero_ok (P := P) (Z := Z) (ι := ι) (w := w) hz
            have hsi : i.size = s := by simpa [tSize, hi] using hs
            have hbi : i.bytes = bytes := by simpa [tBytes, hi] using hb
            have hzs : zv.cells.size = s := by rw [← hzl, hzr.len]; simp
            split at h
            · -- a nil slice
              have hvx : vx = .slice none 0 0 := by cases hx with | f _ _ hv => cases hv; rfl
              subst hvx
              split at h
              · rename_i hn0
                subst hn0
                cases h
                have harr : arr.toList = [] := List.eq_nil_of_length_eq_zero (by rw [← f2.len, f3]; simp)
                refine ⟨_, w, Z, ι, append_room (P := P) (w := w) (w' := w) ha0 ha1 hu hu2 hni hs hlen f1 (Nat.le_refl 0) (by simp), .f _ _ .nilS, hI, Ext.refl _ _ _ _⟩
              · split at h
                · rename_i hn0 hbd
                  cases h
                  have hr := append_grow (P := P) (w := w) (old := #[]) (len := 0) (c := 0) (base := none) (ty := ty) ha0 ha1 hu hu2 hni hi hsi hzi hlen fd1 (by simp [Builtin.firstCells]) (by omega) (by omega) (by rw [hbi]; simpa using hbd.1)
                  simp only [Nat.zero_add, Array.empty_append] at hr
                  have hcap := grownCap_ge w n 0 e
                  have hal : arrd.size = n * s := by have := fd2.len; rw [f3] at this; simpa using this.symm
                  have hsum : (arrd ++ Builtin.zeroCells zv.cells (grownCap w n 0 e - n)).size = grownCap w n 0 e * s := by
                    rw [Array.size_append, size_zeroCells, hal, hzs, ← Nat.add_mul]; congr 1; omega
                  obtain ⟨Z', ι', g1, g2, g3⟩ := row_new hI (w' := w.drew.alloc (.cells (arrd ++ Builtin.zeroCells zv.cells (grownCap w n 0 e - n)) e)) s (cs := new)
                    (by rw [f3, Array.toList_append, List.take_append_of_le_length (by simp [hal]), List.take_of_length_le (by simp [hal])]; exact fd2) f4 e rfl rfl rfl rfl n (grownCap w n 0 e) (by omega) hcap (by rw [f3]; exact Nat.mul_le_mul_right _ hcap) hsum.symm
                  exact ⟨_, _, Z', ι', hr, g1, g2, g3⟩
                · cases h
            · -- a row
              rename_i id g off len
              split at h
              · rename_i k hk
                split at h
                · rename_i hc
                  obtain ⟨c1, c2, c3, c4, _⟩ := hc
                  cases hx with
                  | row _ _ _ _ A c L hsp hι hg hA =>
                    have hR := hI.blk id k L hk hι
                    obtain ⟨a1, a2, a3, a4, a5⟩ := hA (by rw [← c1]; exact hR.gen)
                    have hsz : L.sz = s := by rw [← hR.sz]; exact c2
                    have hsize := hR.size
                    rw [hsz] at a2 a3 a4
                    have ones : ∀ v ∈ arr.toList, v.oneCell' = true := f2.ones (List.all_eq_true.2 f4)
                    split at h
                    · -- it fits
                      rename_i hfit
                      cases h
                      have hroom : len + n ≤ c := by
                        have : (len + n) * s ≤ c * s := by omega
                        exact Nat.le_of_mul_le_mul_right this hs0
                      have hadd : (len + n) * s = len * s + n * s := Nat.add_mul _ _ _
                      obtain ⟨w', Z', ι', g1, g2, g3, g4⟩ := put_ok (P := P) (cs := new) (off := off + len * s) hI hk hι c3 f2 f4 (by omega) ones
                      have hst : (storeCells (A.add (len * s)) arr.toList).run P w = .ok () w' := by
                        by_cases h0 : c = 0
                        · have hn0 : n = 0 := by omega
                          have harr : arr.toList = [] := List.eq_nil_of_length_eq_zero (by rw [← f2.len, f3, hn0]; simp)
                          rw [harr] at g1 ⊢
                          simpa [storeCells] using g1
                        · rw [a1 h0, add_lit', Nat.add_assoc]; exact g1
                      refine ⟨_, w', Z', ι', append_room (P := P) (w := w) (w' := w') (base := some A) ha0 ha1 hu hu2 hni hs hlen f1 hroom hst, ?_, g2, g3⟩
                      refine .row _ _ _ _ _ _ L hsp g4 hg (fun e => ⟨a1, ?_, ?_, ?_, hroom⟩)
                      · rw [hsz]; exact a2
                      · rw [hsz]; exact a3
                      · rw [hsz]; omega
                    · split at h
                      · -- it grows
                        rename_i hnf hbd
                        cases h
                        have hadd : (len + n) * s = len * s + n * s := Nat.add_mul _ _ _
                        obtain ⟨arr0, e0, o1, o2, o3⟩ := hR.obj
                        have hcl : ((k.cells.drop off).take (len * s) ++ new).length = (len + n) * s := by simp; omega
                        have hone : ∀ a, a ∈ (k.cells.drop off).take (len * s) ++ new → a.isCell = true := by
                          intro a ha
                          rw [List.mem_append] at ha
                          rcases ha with ha | ha
                          · exact hR.one a (List.mem_of_mem_drop (List.mem_of_mem_take ha))
                          · exact f4 a ha
                        have hLgen := hR.gen
                        by_cases hroom : len + n ≤ c
                        · -- there is room all the same
                          have hc0 : c ≠ 0 := by
                            intro h0
                            have : len = 0 ∧ n = 0 := by omega
                            apply hnf
                            rw [this.1, this.2]
                            omega
                          have hA' := a1 hc0
                          subst hA'
                          have hcs : (len + n) * s ≤ c * s := Nat.mul_le_mul_right _ hroom
                          have hal : arr.toList.length = n * s := by rw [← f2.len]; exact f3
                          have hst := run_storeCells_at P L.B (L.sh + off + len * s) e0 arr.toList 0 arr0 w o1 (by omega) ones
                          simp only [Nat.add_zero] at hst
                          have hg2 : (w.setRow L.B (arr0.toList.take (L.sh + off + len * s) ++ arr.toList ++ arr0.toList.drop (L.sh + off + len * s + arr.toList.length)).toArray).heap[L.B]? = some (.cells (arr0.toList.take (L.sh + off + len * s) ++ arr.toList ++ arr0.toList.drop (L.sh + off + len * s + arr.toList.length)).toArray e0 (0, 0)) := setRow_heap w L.B arr0 _ e0 (0, 0) o1
                          have hspl : L.sh + off + len * s + arr.toList.length ≤ arr0.toList.length := by rw [hal]; simp; omega
                          obtain ⟨u1, u2'⟩ := hI.upd (k' := { k with gen := g + 1, cells := (k.cells.drop off).take (len * s) ++ new }) (L' := ⟨L.B, L.sh + off, g + 1, s, (len + n) * s, L.tot⟩) (w' := w.setRow L.B (arr0.toList.take (L.sh + off + len * s) ++ arr.toList ++ arr0.toList.drop (L.sh + off + len * s + arr.toList.length)).toArray)
                            hk hι c3 (by show L.gen ≤ g + 1; omega) (fun e => by exfalso; have : g + 1 = L.gen := e; omega) (.inl rfl) rfl rfl rfl (by simp) (fun B _ hB => setRow_other w L.B B _ hB) rfl hcl c2 (by show L.sh + off + (len + n) * s ≤ L.tot; omega) c3 hone
                            ⟨_, e0, hg2, by have := splice_len arr0.toList arr.toList (L.sh + off + len * s) hspl; rw [List.size_toArray, this]; simpa using o2, fun j a ha => by
                              simp only [List.getElem?_toArray]
                              rw [splice_get _ _ _ hspl]
                              by_cases q1 : j < len * s
                              · rw [if_pos (by show L.sh + off + j < _; omega)]
                                rw [List.getElem?_append_left (by simp; omega), List.getElem?_take, if_pos q1, List.getElem?_drop] at ha
                                obtain ⟨v, hv, hr⟩ := o3 _ _ ha
                                exact ⟨v, by show arr0.toList[L.sh + off + j]? = _; rw [Nat.add_assoc]; simpa using hv, hr⟩
                              · rw [if_neg (by show ¬ (L.sh + off + j < _); omega)]
                                have hl1 : ((k.cells.drop off).take (len * s)).length = len * s := by simp; omega
                                rw [List.getElem?_append_right (by omega), hl1] at ha
                                have hj := (List.getElem?_eq_some_iff.1 ha).1
                                rw [if_pos (by show L.sh + off + j < _; rw [hal]; omega)]
                                have hv : j - len * s < arr.toList.length := by omega
                                refine ⟨arr.toList[j - len * s], ?_, f2.get _ _ _ ha (List.getElem?_eq_getElem hv)⟩
                                have : (L.sh + off + j) - (L.sh + off + len * s) = j - len * s := by omega
                                show arr.toList[(L.sh + off + j) - (L.sh + off + len * s)]? = _
                                rw [this]
                                exact List.getElem?_eq_getElem hv⟩
                          refine ⟨_, _, Z, _, append_room (P := P) (w := w) (base := some ⟨L.B, L.sh + off, none⟩) ha0 ha1 hu hu2 hni hs hlen f1 hroom (by show (storeCells ((⟨L.B, L.sh + off, none⟩ : Addr).add (len * s)) arr.toList).run P w = _; rw [add_lit']; exact hst), ?_, u1, u2'⟩
                          refine .row _ _ _ _ _ _ _ rfl (addI_same _ _ _) (Nat.le_refl _) (fun _ => ⟨fun _ => rfl, ?_, ?_, ?_, hroom⟩)
                          · show (len + n) * s ≤ 0 + c * s; omega
                          · show L.sh + off + 0 + c * s ≤ L.tot; omega
                          · show 0 + (len + n) * s ≤ (len + n) * s; omega
                        · -- a new block
                          have hold : srcA H s len (.row id g off len) = some ((k.cells.drop off).take (len * s)) := by simp [srcA, hk, c1, c2]
                          obtain ⟨old, q1, q2, q3, q4⟩ := src_ok (P := P) hId (.row id g off len A c L hsp hι hg hA) hs0 hold
                          have hr := append_grow (P := P) (w := w) (old := old) (len := len) (c := c) (base := some A) (ty := ty) ha0 ha1 hu hu2 hni hi hsi hzi hlen fd1 q1 hroom hbd.2 (by rw [hbi]; exact hbd.1)
                          have hcap := grownCap_ge w (len + n) c e
                          have hal : arrd.size = n * s := by have := fd2.len; rw [f3] at this; simpa using this.symm
                          have hol : old.size = len * s := by have := q2.len; rw [q3] at this; simpa using this.symm
                          have hsum : (old ++ arrd ++ Builtin.zeroCells zv.cells (grownCap w (len + n) c e - (len + n))).size = grownCap w (len + n) c e * s := by
                            rw [Array.size_append, Array.size_append, size_zeroCells, hal, hol, hzs, ← Nat.add_mul, ← Nat.add_mul]; congr 1; omega
                          have hnew2 : (w.drew.alloc (.cells (old ++ arrd ++ Builtin.zeroCells zv.cells (grownCap w (len + n) c e - (len + n))) e)).heap[w.heap.size]? = some (.cells (old ++ arrd ++ Builtin.zeroCells zv.cells (grownCap w (len + n) c e - (len + n))) e (0, 0)) := heap_alloc_new w.drew _
                          obtain ⟨u1, u2'⟩ := hI.upd (k' := { k with gen := g + 1, cells := (k.cells.drop off).take (len * s) ++ new }) (L' := ⟨w.heap.size, 0, g + 1, s, (len + n) * s, grownCap w (len + n) c e * s⟩) (w' := w.drew.alloc (.cells (old ++ arrd ++ Builtin.zeroCells zv.cells (grownCap w (len + n) c e - (len + n))) e))
                            hk hι c3 (by show L.gen ≤ g + 1; omega) (fun e => by exfalso; have : g + 1 = L.gen := e; omega) (.inr (Nat.le_refl _)) rfl rfl rfl (by simp) (fun B hB _ => heap_alloc_old w.drew _ hB) rfl hcl c2 (by show 0 + (len + n) * s ≤ _; rw [Nat.zero_add]; exact Nat.mul_le_mul_right _ hcap) c3 hone
                            ⟨_, e, hnew2, hsum, fun j a ha => by
                              have hl := (q2.append fd2)
                              have hj := (List.getElem?_eq_some_iff.1 ha).1
                              have hj2 : j < (old.toList ++ arrd.toList).length := by rw [← hl.len]; exact hj
                              refine ⟨(old.toList ++ arrd.toList)[j], ?_, hl.get _ _ _ ha (List.getElem?_eq_getElem hj2)⟩
                              show (old ++ arrd ++ _)[0 + j]? = _
                              rw [Nat.zero_add, Array.getElem?_append_left (by simpa using hj2), ← Array.getElem?_toList, Array.toList_append]
                              exact List.getElem?_eq_getElem hj2⟩
                          refine ⟨_, _, Z, _, hr, ?_, u1, u2'⟩
                          refine .row _ _ _ _ _ _ _ rfl (addI_same _ _ _) (Nat.le_refl _) (fun _ => ⟨fun _ => by simp, ?_, ?_, ?_, hcap⟩)
                          · show (len + n) * s ≤ 0 + _; rw [Nat.zero_add]; exact Nat.mul_le_mul_right _ hcap
                          · show 0 + 0 + grownCap w (len + n) c e * s ≤ grownCap w (len + n) c e * s; omega
                          · show 0 + (len + n) * s ≤ (len + n) * s; omega
                      · cases h
                · cases h
              · cases h
            · cases h
          · cases h
        · cases h
      · cases h
  · cases h

theorem copy_ok (hI : Inv H Z ι w) {x y : AV} {vx vy : Value} (hx : AVR Z ι x vx) (hy : AVR Z ι y vy) {t : Nat} {r : AV} {H' : Heap} {lo : Nat} (h : copyA P lo H t x y = some (r, H')) {ats : Array Nat} (ha0 : ats[0]? = some t) (ty : Nat) :
    ∃ v w' Z' ι', (Builtin.copy_ ats ty #[vx, vy]).run P w = .ok v w' ∧ AVR Z' ι' r v ∧ Inv H' Z' ι' w' ∧ Ext H Z ι w H' Z' ι' w' := by
  unfold copyA at h
  split at h
  · rename_i e id g off len m he hm
    have hu := elem_run he
    split at h
    · rename_i s k hs hk
      split at h
      · rename_i hc
        obtain ⟨c1, c2, c3, hs0, c5, _⟩ := hc
        split at h
        · rename_i new hnew
          cases h
          have hlen := lenA_ok (P := P) (w := w) hy hm
          obtain ⟨arr, f1, f2, f3, f4⟩ := src_ok (P := P) hI hy hs0 hnew
          cases hx with
          | row _ _ _ _ A c L hsp hι hg hA =>
            have hR := hI.blk id k L hk hι
            obtain ⟨a1, a2, a3, a4, a5⟩ := hA (by rw [← c1]; exact hR.gen)
            obtain ⟨w', Z', ι', g1, g2, g3, g4⟩ := put_ok (P := P) (cs := new) (off := off) hI hk hι c3 f2 f4 (by omega) (f2.ones (List.all_eq_true.2 f4))
            have hst : (storeCells A arr.toList).run P w = .ok () w' := by
              by_cases h0 : c = 0
              · have hn0 : min m len = 0 := by omega
                have harr : arr.toList = [] := List.eq_nil_of_length_eq_zero (by rw [← f2.len, f3, hn0]; simp)
                rw [harr] at g1 ⊢
                simpa [storeCells] using g1
              · rw [a1 h0]; exact g1
            refine ⟨_, w', Z', ι', ?_, .f _ _ (.int _ _), g2, g3⟩
            have hmin : Nat.min m len = min m len := rfl
            simp [Builtin.copy_, ha0, und_run hu, hlen, size_run hs, hmin, f1, hst, goInt]
        · cases h
      · cases h
    · cases h
  · cases h
end
end Go.Proofs.YtbjcghnhhgdopaaGreatDoor.Ai
