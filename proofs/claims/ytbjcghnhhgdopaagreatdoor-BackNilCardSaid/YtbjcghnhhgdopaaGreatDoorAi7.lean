import Derived.Test.YtbjcghnhhgdopaaGreatDoorAi6
namespace Go.Proofs.YtbjcghnhhgdopaaGreatDoor.Ai
open Go Go.RowKit

section
variable {P : Program} {H : Heap} {Z : Zone} {ι : Inj} {w : World}

theorem flatten_get {α : Type} {sz : Nat} (hs : 0 < sz) : ∀ (rows : List (List α)), (∀ r, r ∈ rows → r.length = sz) → ∀ q, rows.flatten[q]? = (rows[q / sz]?).bind (·[q % sz]?)
  | [], _, q => by simp
  | r :: rows, h, q => by
    have hr := h r List.mem_cons_self
    rw [List.flatten_cons]
    by_cases hq : q < sz
    · rw [List.getElem?_append_left (by omega), Nat.div_eq_of_lt hq, Nat.mod_eq_of_lt hq]
      rfl
    · rw [List.getElem?_append_right (by omega), flatten_get hs rows (fun x hx => h x (List.mem_cons_of_mem _ hx)), hr]
      obtain ⟨p, rfl⟩ : ∃ p, q = p + sz := ⟨q - sz, by omega⟩
      rw [Nat.add_sub_cancel, Nat.add_div_right _ hs, Nat.add_mod_right]
      rfl
theorem flatten_len {α : Type} {sz : Nat} : ∀ (rows : List (List α)), (∀ r, r ∈ rows → r.length = sz) → rows.flatten.length = rows.length * sz
  | [], _ => by simp
  | r :: rows, h => by
    rw [List.flatten_cons, List.length_append, flatten_len rows (fun x hx => h x (List.mem_cons_of_mem _ hx)), h r List.mem_cons_self, List.length_cons, Nat.add_mul, Nat.one_mul, Nat.add_comm]

theorem made_rel {z : List AV} {zv : Array Value} (h : LRel Z ι z zv.toList) {s : Nat} (hs : 0 < s) (hz : z.length = s) (c : Nat) : LRel Z ι (List.replicate c z).flatten (madeCells zv (c * s)).toList := by
  have hu : ∀ r, r ∈ List.replicate c z → r.length = s := fun r hr => by rw [List.eq_of_mem_replicate hr]; exact hz
  have hlen := h.len
  have hzv : zv.size = s := by rw [← hz, hlen]; simp
  refine LRel.of_get ?_ (fun i a v ha hv => ?_)
  · rw [flatten_len _ hu, List.length_replicate]; simp [madeCells]
  · rw [flatten_get hs _ hu] at ha
    simp only [madeCells, Array.toList_map, Array.toList_range, List.getElem?_map, Option.map_eq_some_iff] at hv
    obtain ⟨j, hj, rfl⟩ := hv
    have hj' : j = i := by
      have := List.getElem?_eq_some_iff.1 hj
      obtain ⟨hlt, he⟩ := this
      simpa using he.symm
    subst hj'
    have hlt : j % zv.size < zv.size := Nat.mod_lt _ (by omega)
    rw [Option.bind_eq_some_iff] at ha
    obtain ⟨r, hr, hra⟩ := ha
    have hrz : r = z := List.eq_of_mem_replicate (List.mem_of_getElem? hr)
    subst hrz
    refine h.get (j % s) a _ hra ?_
    rw [← hzv]
    simp [hlt]
theorem rep_all {z : List AV} (h : ∀ a, a ∈ z → a.isCell = true) (c : Nat) : ∀ a, a ∈ (List.replicate c z).flatten → a.isCell = true := by
  intro a ha
  rw [List.mem_flatten] at ha
  obtain ⟨r, hr, har⟩ := ha
  rw [List.eq_of_mem_replicate hr] at har
  exact h a har

theorem build_ok {ps : List (Nat × AV)} {vs : List (Nat × Value)} (hp : PRel Z ι ps vs) {t : Nat} {r : AV} (h : buildA P t ps = some r) : ∃ u, (Instr.build t vs.toArray).run P w = .ok u w ∧ AVR Z ι r u := by
  unfold buildA at h
  split at h
  · rename_i fields z hu hz
    obtain ⟨zv, _, hzr, hz1, i, hi, hzi⟩ := zero_ok (P := P) (Z := Z) (ι := ι) (w := w) hz
    split at h
    · rename_i places hpl
      rw [Option.map_eq_some_iff] at h
      obtain ⟨cs, hcs, rfl⟩ := h
      obtain ⟨arr, h1, h2, _, h4⟩ := fill_ok (fun i => places[i]?) hp hzr hz1 hcs
      refine ⟨.agg arr, run_build w t _ arr ?_, .agg _ _ (by rw [h2.len]; simp) (fun i a v ha hv => h2.get i a v ha (by simpa using hv))⟩
      have h1' : Instr.fill (fun i => (places.toArray)[i]?) zv.cells vs = some arr := by simpa using h1
      simp only [Program.built, hi, hu, hzi, hpl]
      exact h1'
    · cases h
  · rename_i n e z hu hz
    obtain ⟨zv, _, hzr, hz1, i, hi, hzi⟩ := zero_ok (P := P) (Z := Z) (ι := ι) (w := w) hz
    split at h
    · rename_i s hs
      rw [Option.map_eq_some_iff] at h
      obtain ⟨cs, hcs, rfl⟩ := h
      obtain ⟨arr, h1, h2, _, h4⟩ := fill_ok (fun i => some (i * s, s)) hp hzr hz1 hcs
      refine ⟨.agg arr, run_build w t _ arr ?_, .agg _ _ (by rw [h2.len]; simp) (fun i a v ha hv => h2.get i a v ha (by simpa using hv))⟩
      simp only [tSize, Option.map_eq_some_iff] at hs
      obtain ⟨ie, hie, rfl⟩ := hs
      simp only [Program.built, hi, hu, hzi, hie]
      exact h1
    · cases h
  · cases h

theorem elem_run {t e : Nat} (h : tElem P t = some e) : P.underlying t = some (.slice e) := by
  unfold tElem at h
  split at h
  · cases h; assumption
  · cases h

/-- A new block for a row. -/
theorem row_new (hI : Inv H Z ι w) {w' : World} (sz : Nat) {cs : List AV} {arr : Array Value} (hl : LRel Z ι cs (arr.toList.take cs.length)) (h1 : ∀ a, a ∈ cs → a.isCell = true) (e : Nat)
    (hw : w'.heap = w.heap.push (.cells arr e (0, 0))) (hos : w'.os = w.os) (ht : w'.tape = w.tape) (ho : w'.output = w.output) (n c : Nat) (hn : n * sz ≤ cs.length) (hnc : n ≤ c) (hc : cs.length ≤ c * sz) (hca : c * sz = arr.size) :
    ∃ Z' ι', AVR Z' ι' (.row H.length 0 0 n) (.slice (some ⟨w.heap.size, 0, none⟩) n c) ∧ Inv (newBlk H sz cs) Z' ι' w' ∧ Ext H Z ι w (newBlk H sz cs) Z' ι' w' := by
  have hle : cs.length ≤ arr.size := by omega
  obtain ⟨h2, h3⟩ := hI.new sz cs arr e hw hos ht ho hle (fun j a ha => by
    have hj := (List.getElem?_eq_some_iff.1 ha).1
    have hja : j < arr.size := by omega
    refine ⟨arr[j], Array.getElem?_eq_getElem hja, hl.get j a _ ha ?_⟩
    rw [List.getElem?_take, if_pos hj]
    simp [hja]) h1
  refine ⟨Z, _, ?_, h2, h3⟩
  refine .row _ _ _ _ _ _ _ rfl (addI_same _ _ _) (Nat.le_refl _) (fun _ => ⟨fun _ => ?_, ?_, ?_, ?_, hnc⟩)
  · simp
  · simpa using hc
  · simp; omega
  · simpa using hn

theorem buildSlice_ok (hI : Inv H Z ι w) {ps : List (Nat × AV)} {vs : List (Nat × Value)} (hp : PRel Z ι ps vs) {t len : Nat} {r : AV} {H' : Heap} (h : buildSliceA P H t len ps = some (r, H')) :
    ∃ v w' Z' ι', (Instr.buildSlice t len vs.toArray).run P w = .ok v w' ∧ AVR Z' ι' r v ∧ Inv H' Z' ι' w' ∧ Ext H Z ι w H' Z' ι' w' := by
  unfold buildSliceA at h
  split at h
  · rename_i e he
    have hu := elem_run he
    split at h
    · rename_i s z hs hz
      split at h
      · rename_i hc
        obtain ⟨hs0, hzl, hbig⟩ := hc
        rw [Option.map_eq_some_iff] at h
        obtain ⟨cs, hcs, hr⟩ := h
        cases hr
        obtain ⟨zv, hzrun, hzr, hz1, i, hi, hzi⟩ := zero_ok (P := P) (Z := Z) (ι := ι) (w := w) hz
        have hm := made_rel hzr hs0 hzl len
        obtain ⟨arr, f1, f2, f3, f4⟩ := fill_ok (fun i => some (i * s, s)) hp hm (rep_all hz1 len) hcs
        have hal : arr.size = len * s := by rw [f4, size_madeCells]
        have hcl : cs.length = len * s := by rw [f2.len]; simpa using hal
        have hrun : (Instr.buildSlice t len vs.toArray).run P w = .ok (.slice (some ⟨w.heap.size, 0, none⟩) len len) (w.alloc (.cells arr e)) := by
          have hn : ¬ (len * s > 2 ^ 24) := by omega
          by_cases h0 : len * s = 0
          · have hl0 : len = 0 := by
              rcases Nat.mul_eq_zero.1 h0 with h | h
              · exact h
              · omega
            subst hl0
            have hm0 : madeCells zv.cells (0 * s) = #[] := by simp [madeCells]
            rw [hm0] at f1
            simp [Instr.buildSlice, und_run hu, size_run hs, f1, newRow, Array.range_zero']
          · have f1' : Instr.fill (fun i => some (i * s, s)) ((Array.range (len * s)).map (zv.cells[· % zv.cells.size]!)) vs = some arr := f1
            simp only [Instr.buildSlice, Sem.run_bind, und_run hu, size_run hs, Result.andThen_ok]
            rw [if_neg hn, if_neg h0]
            simp [hzrun, f1', newRow]
        obtain ⟨Z', ι', g1, g2, g3⟩ := row_new hI (w' := w.alloc (.cells arr e)) s (by rw [List.take_of_length_le (by simp; omega)]; exact f2) f3 e rfl rfl rfl rfl len len (by omega) (Nat.le_refl _) (by omega) (by omega)
        exact ⟨_, _, Z', ι', hrun, g1, g2, g3⟩
      · cases h
    · cases h
  · cases h

theorem makeSlice_ok (hI : Inv H Z ι w) {l c : AV} {vl vc : Value} (hl : AVR Z ι l vl) (hc : AVR Z ι c vc) {t : Nat} {r : AV} {H' : Heap} (h : makeSliceA P H t l c = some (r, H')) :
    ∃ v w' Z' ι', (Instr.makeSlice t vl vc).run P w = .ok v w' ∧ AVR Z' ι' r v ∧ Inv H' Z' ι' w' ∧ Ext H Z ι w H' Z' ι' w' := by
  unfold makeSliceA at h
  split at h
  · rename_i e n m he hn hm
    have hu := elem_run he
    obtain ⟨kl, rfl⟩ := int_inv hl hn
    obtain ⟨kc, rfl⟩ := int_inv hc hm
    split at h
    · rename_i s b z hs hb hz
      split at h
      · rename_i hcond
        obtain ⟨c1, c2, c3, c4, hs0, hzl⟩ := hcond
        cases h
        obtain ⟨zv, hzrun, hzr, hz1, i, hi, hzi⟩ := zero_ok (P := P) (Z := Z) (ι := ι) (w := w) hz
        have hsi : i.size = s := by simpa [tSize, hi] using hs
        have hbi : i.bytes = b := by simpa [tBytes, hi] using hb
        have hrun := run_make (P := P) w t e i zv hu hi hzi kl kc n m c1 c2 (by rw [hbi]; exact c3) (by omega)
        rw [hsi] at hrun
        have hsz := size_madeCells zv.cells (m.toNat * s)
        have hmr := made_rel hzr hs0 hzl m.toNat
        have hcl : (List.replicate m.toNat z).flatten.length = m.toNat * s := by rw [hmr.len]; simpa using hsz
        have hnm : n.toNat ≤ m.toNat := by omega
        obtain ⟨Z', ι', g1, g2, g3⟩ := row_new hI (w' := w.alloc (.cells (madeCells zv.cells (m.toNat * s)) e)) s (by rw [List.take_of_length_le (by rw [hcl]; simp [hsz])]; exact hmr) (rep_all hz1 _) e rfl rfl rfl rfl n.toNat m.toNat
          (by rw [hcl]; exact Nat.mul_le_mul_right _ hnm) hnm (Nat.le_of_eq hcl) (by rw [hsz])
        exact ⟨_, _, Z', ι', hrun, g1, g2, g3⟩
      · cases h
    · cases h
  · cases h

/-- A new block for a variable. -/
theorem var_new (hI : Inv H Z ι w) (sz : Nat) {cs : List AV} {v : Value} (hl : LRel Z ι cs v.cells.toList) (h1 : ∀ a, a ∈ cs → a.isCell = true) (t : Nat) :
    ∃ w' Z' ι', (newVar t v).run P w = .ok ⟨w.heap.size, 0, none⟩ w' ∧ AVR Z' ι' (.ptr H.length 0 0) (.pointer (some ⟨w.heap.size, 0, none⟩)) ∧ Inv (newBlk H sz cs) Z' ι' w' ∧ Ext H Z ι w (newBlk H sz cs) Z' ι' w' := by
  have hlen := hl.len
  obtain ⟨h2, h3⟩ := hI.new (w' := w.alloc (.cells v.cells t)) sz cs v.cells t rfl rfl rfl rfl (by rw [hlen]; simp) (fun j a ha => by
    have hj := (List.getElem?_eq_some_iff.1 ha).1
    have hja : j < v.cells.size := by rw [hlen] at hj; simpa using hj
    exact ⟨v.cells[j], Array.getElem?_eq_getElem hja, hl.get j a _ ha (by simp [hja])⟩) h1
  exact ⟨_, Z, _, by simp [newVar, newRow], .ptr _ _ _ _ _ (addI_same _ _ _) (Nat.le_refl _) (fun _ => by simp), h2, h3⟩

/-- A store into a block. -/
theorem put_ok (hI : Inv H Z ι w) {id : Nat} {k : Blk} {L : Loc} (hk : H[id]? = some k) (hL : ι id = some L) (hro : k.ro = false) {off : Nat} {cs : List AV} {vs : List Value} (hl : LRel Z ι cs vs) (h1 : ∀ a, a ∈ cs → a.isCell = true)
    (hle : off + cs.length ≤ k.cells.length) (hone : ∀ v ∈ vs, v.oneCell' = true) :
    ∃ w' Z' ι', (storeCells ⟨L.B, L.sh + off, none⟩ vs).run P w = .ok () w' ∧ Inv (H.set id { k with cells := setCs k.cells off cs }) Z' ι' w' ∧ Ext H Z ι w (H.set id { k with cells := setCs k.cells off cs }) Z' ι' w' ∧ ι' id = some L := by
  have hR := hI.blk id k L hk hL
  obtain ⟨arr, e, o1, o2, o3⟩ := hR.obj
  have hlen := hl.len
  have hsz := hR.size
  have hfit := hR.fits
  have hst := run_storeCells_at P L.B (L.sh + off) e vs 0 arr w o1 (by omega) hone
  simp only [Nat.add_zero] at hst
  have hg : (w.setRow L.B (arr.toList.take (L.sh + off) ++ vs ++ arr.toList.drop (L.sh + off + vs.length)).toArray).heap[L.B]? = some (.cells (arr.toList.take (L.sh + off) ++ vs ++ arr.toList.drop (L.sh + off + vs.length)).toArray e (0, 0)) := setRow_heap w L.B arr _ e (0, 0) o1
  have hal : arr.toList.length = L.tot := by simpa using o2
  obtain ⟨h2, h3⟩ := hI.upd (k' := { k with cells := setCs k.cells off cs }) (L' := L) (w' := w.setRow L.B (arr.toList.take (L.sh + off) ++ vs ++ arr.toList.drop (L.sh + off + vs.length)).toArray) hk hL hro (Nat.le_refl _) (fun _ => rfl) (.inl rfl) rfl rfl rfl (by simp)
    (fun B _ hB => setRow_other w L.B B _ hB) hR.gen (by rw [← hsz]; exact splice_len _ _ _ hle) hR.sz hfit hro (setCs_all hR.one h1)
    ⟨_, e, hg, by
      have hq := splice_len arr.toList vs (L.sh + off) (by omega)
      rw [List.size_toArray, hq, hal], fun j a ha => by
      simp only [setCs] at ha
      rw [splice_get _ _ _ hle] at ha
      simp only [List.getElem?_toArray]
      rw [splice_get _ _ _ (by omega), ← hlen]
      by_cases c1 : j < off
      · rw [if_pos c1] at ha
        rw [if_pos (by omega)]
        obtain ⟨v, hv, hr⟩ := o3 j a ha
        exact ⟨v, by simpa using hv, hr⟩
      · rw [if_neg c1] at ha
        rw [if_neg (by omega)]
        by_cases c2 : j < off + cs.length
        · rw [if_pos c2] at ha
          rw [if_pos (by omega)]
          have hv : j - off < vs.length := by omega
          refine ⟨vs[j - off], ?_, hl.get _ _ _ ha (List.getElem?_eq_getElem hv)⟩
          have : L.sh + j - (L.sh + off) = j - off := by omega
          rw [this]
          exact List.getElem?_eq_getElem hv
        · rw [if_neg c2] at ha
          rw [if_neg (by omega)]
          obtain ⟨v, hv, hr⟩ := o3 j a ha
          exact ⟨v, by simpa using hv, hr⟩⟩
  exact ⟨_, Z, _, hst, h2, h3, addI_same _ _ _⟩

theorem store_ok (hI : Inv H Z ι w) {p x : AV} {vp vx : Value} (hp : AVR Z ι p vp) (hx : AVR Z ι x vx) {t : Nat} {H' : Heap} {lo : Nat} (h : storeA P lo H t p x = some H') :
    ∃ w' Z' ι', (Instr.storeAt t vp vx).run P w = .ok () w' ∧ Inv H' Z' ι' w' ∧ Ext H Z ι w H' Z' ι' w' := by
  unfold storeA at h
  split at h
  · rename_i id g off
    split at h
    · rename_i k s hk hs
      split at h
      · rename_i hc
        obtain ⟨c1, c2, c3, c4, c5, _⟩ := hc
        cases h
        cases hp with
        | ptr _ _ _ A L hι hg hA =>
          have hR := hI.blk id k L hk hι
          have hA' := hA (by rw [← c1]; exact hR.gen)
          subst hA'
          have hl := cells_rel hx
          obtain ⟨w', Z', ι', h1, h2, h3, _⟩ := put_ok (P := P) (cs := x.cells) (off := off) hI hk hι c2 hl (all_of c5) (by omega) (hl.ones c5)
          refine ⟨w', Z', ι', ?_, h2, h3⟩
          have hsz : vx.cells.size = s := by rw [← c3, hl.len]; simp
          simp [Instr.storeAt, Instr.sureAddr, storeVar, size_run hs, hsz, h1]
      · cases h
    · cases h
  · cases h
end
end Go.Proofs.YtbjcghnhhgdopaaGreatDoor.Ai
