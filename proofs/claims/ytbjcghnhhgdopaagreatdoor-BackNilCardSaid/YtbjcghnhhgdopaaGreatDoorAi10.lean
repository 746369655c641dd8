import Derived.Test.YtbjcghnhhgdopaaGreatDoorAi9
namespace Go.Proofs.YtbjcghnhhgdopaaGreatDoor.Ai
open Go Go.RowKit

/-! ## 8. Freezing -/
def chunk {α : Type} (sz : Nat) : Nat → List α → List (List α)
  | 0, _ => []
  | n + 1, l => l.take sz :: chunk sz n (l.drop sz)
def frzCells (fc : Heap → AV → Option (FV × Heap)) : Heap → List AV → Option (List FV × Heap)
  | H, [] => some ([], H)
  | H, a :: l => match fc H a with
    | some (x, H1) => match frzCells fc H1 l with
      | some (xs, H2) => some (x :: xs, H2)
      | none => none
    | none => none
def frzCell (lo : Nat) : Nat → Heap → AV → Option (FV × Heap)
  | _, H, .f v => some (v, H)
  | n + 1, H, .row id g off len => match H[id]? with
    | some k => if k.gen = g ∧ 0 < k.sz ∧ off + len * k.sz ≤ k.cells.length ∧ lo ≤ id then
        match frzCells (frzCell lo n) H k.cells with
        | some (vs, H1) => some (.fz k.sz (chunk k.sz len (vs.drop off)), H1.set id { k with ro := true, cells := vs.map .f })
        | none => none
      else none
    | none => none
  | _, _, _ => none
def frzDeep : Nat := 4
/-- A value, frozen: a scalar, or a struct's cells, or several results. -/
def frzOne (lo : Nat) (H : Heap) : AV → Option (AV × Heap)
  | .agg cs => (frzCells (frzCell lo frzDeep) H cs).map fun (xs, H1) => (.agg (xs.map .f), H1)
  | a => (frzCell lo frzDeep H a).map fun (x, H1) => (.f x, H1)
def frzList (lo : Nat) : Heap → List AV → Option (List AV × Heap)
  | H, [] => some ([], H)
  | H, a :: l => match frzOne lo H a with
    | some (x, H1) => match frzList lo H1 l with
      | some (xs, H2) => some (x :: xs, H2)
      | none => none
    | none => none
def frzVal (lo : Nat) (H : Heap) : AV → Option (AV × Heap)
  | .tup vs => (frzList lo H vs).map fun (xs, H1) => (.tup xs, H1)
  | a => frzOne lo H a
/-- Nothing in it refers to the heap. -/
def noRef : AV → Bool
  | .f _ => true
  | .fptr .. => true
  | .agg cs => cs.all fun c => match c with | .f _ => true | _ => false
  | .clo _ cs => cs.all fun c => match c with | .f _ => true | _ => false
  | _ => false
/-- An argument of a call that shares nothing: rows are frozen. -/
def frzArg (lo : Nat) (H : Heap) (a : AV) : Option (AV × Heap) :=
  if noRef a then some (a, H) else match a with
    | .row .. => frzOne lo H a
    | .agg _ => frzOne lo H a
    | _ => none
def frzArgs (lo : Nat) : Heap → List AV → Option (List AV × Heap)
  | H, [] => some ([], H)
  | H, a :: l => match frzArg lo H a with
    | some (x, H1) => match frzArgs lo H1 l with
      | some (xs, H2) => some (x :: xs, H2)
      | none => none
    | none => none

theorem chunk_get {α : Type} (sz : Nat) : ∀ (n : Nat) (l : List α) (i : Nat), (chunk sz n l)[i]? = if i < n then some ((l.drop (i * sz)).take sz) else none
  | 0, l, i => by simp [chunk]
  | n + 1, l, 0 => by simp [chunk]
  | n + 1, l, i + 1 => by
    simp only [chunk, List.getElem?_cons_succ]
    rw [chunk_get sz n _ i, List.drop_drop]
    have : sz + i * sz = (i + 1) * sz := by rw [Nat.add_mul, Nat.one_mul, Nat.add_comm]
    rw [this]
    by_cases h : i < n
    · rw [if_pos h, if_pos (by omega)]
    · rw [if_neg h, if_neg (by omega)]
theorem chunk_len {α : Type} (sz : Nat) : ∀ (n : Nat) (l : List α), (chunk sz n l).length = n
  | 0, l => rfl
  | n + 1, l => by simp [chunk, chunk_len sz n]

section
variable {P : Program} {H : Heap} {Z : Zone} {ι : Inj} {w : World}
def frzZ (Z : Zone) (w : World) (L : Loc) : Zone := fun b o => if b = L.B ∧ L.sh ≤ o ∧ o < L.sh + L.size then w.cell? ⟨b, o, none⟩ else Z b o
theorem Inv.frz (hI : Inv H Z ι w) {id : Nat} {L : Loc} (hL : ι id = some L) (hid : id < H.length) {k : Blk} (hg : k.gen = L.gen) (hz : k.sz = L.sz) {vs : List FV} (hs : vs.length = L.size)
    (hv : ∀ (j : Nat) x, vs[j]? = some x → ∃ v, w.cell? ⟨L.B, L.sh + j, none⟩ = some v ∧ VZ Z x v) :
    Inv (H.set id { k with ro := true, cells := vs.map .f }) (frzZ Z w L) ι w ∧ Ext H Z ι w (H.set id { k with ro := true, cells := vs.map .f }) (frzZ Z w L) ι w := by
  have hR := hI.blk id _ L (List.getElem?_eq_getElem hid) hL
  have hzone : ∀ b o v, Z b o = some v → frzZ Z w L b o = some v := by
    intro b o v h
    unfold frzZ
    split
    · exact hI.zone _ _ _ h
    · exact h
  have hcell : ∀ b o v, frzZ Z w L b o = some v → w.cell? ⟨b, o, none⟩ = some v := by
    intro b o v h
    unfold frzZ at h
    split at h
    · exact h
    · exact hI.zone _ _ _ h
  refine ⟨⟨hcell, fun i q M hq hM => ?_, fun i M hM => by rw [List.length_set]; exact hI.dom _ _ hM, hI.inj⟩, ⟨by simp, fun _ M h => .inl ⟨M, h⟩, rfl, rfl, rfl, Nat.le_refl _, hzone, fun _ M h => ⟨M, h, Nat.le_refl _, fun _ => rfl⟩, fun _ M h => .inl ⟨M, h, rfl⟩, fun b o v h => ?_, fun _ _ _ => rfl⟩⟩
  · by_cases hi : i = id
    · subst hi
      rw [hL] at hM
      cases hM
      rw [List.getElem?_set_self hid] at hq
      cases hq
      obtain ⟨arr, e, o1, o2, o3⟩ := hR.obj
      have hfit := hR.fits
      have hall : ∀ (j : Nat) a, (vs.map AV.f)[j]? = some a → ∃ fv v, a = .f fv ∧ w.cell? ⟨L.B, L.sh + j, none⟩ = some v ∧ VZ Z fv v ∧ j < L.size := by
        intro j a ha
        rw [List.getElem?_map, Option.map_eq_some_iff] at ha
        obtain ⟨x, hx, rfl⟩ := ha
        obtain ⟨v, h1, h2⟩ := hv j x hx
        exact ⟨x, v, rfl, h1, h2, hs ▸ (List.getElem?_eq_some_iff.1 hx).1⟩
      refine ⟨hg, by simpa using hs, hz, ⟨arr, e, o1, o2, fun j a ha => ?_⟩, hfit, fun a ha => ?_, (fun hf => by cases hf), fun _ j a ha => ?_⟩
      · obtain ⟨x, v, rfl, h1, h2, _⟩ := hall j a ha
        rw [cell_of_row w L.B _ arr e (0, 0) o1] at h1
        exact ⟨v, h1, .f _ _ (h2.mono hzone)⟩
      · rw [List.mem_map] at ha
        obtain ⟨x, _, rfl⟩ := ha
        rfl
      · obtain ⟨x, v, rfl, h1, h2, h3⟩ := hall j a ha
        refine ⟨x, v, rfl, ?_, h2.mono hzone⟩
        unfold frzZ
        rw [if_pos ⟨rfl, by omega, by omega⟩]
        exact h1
    · rw [List.getElem?_set_ne (fun e => hi e.symm)] at hq
      have hb := hI.blk i q M hq hM
      have hne : M.B ≠ L.B := fun e => hi (hI.inj i id M L hM hL e)
      obtain ⟨arr, e, o1, o2, o3⟩ := hb.obj
      refine ⟨hb.gen, hb.size, hb.sz, ⟨arr, e, o1, o2, fun j a ha => ?_⟩, hb.fits, hb.one, fun hro o => ?_, fun hro j a ha => ?_⟩
      · obtain ⟨v, h1, h2⟩ := o3 j a ha
        exact ⟨v, h1, h2.mono_z hzone⟩
      · unfold frzZ
        rw [if_neg (fun h => hne h.1)]
        exact hb.mutb hro o
      · obtain ⟨x, v, h1, h2, h3⟩ := hb.froz hro j a ha
        exact ⟨x, v, h1, hzone _ _ _ h2, h3.mono hzone⟩
  · unfold frzZ at h
    split at h
    · rename_i hc
      exact .inr (.inl ⟨id, L, hL, hc.1.symm⟩)
    · exact .inl h

/-- What freezing some values comes to. -/
def FrzOk (fc : Heap → AV → Option (FV × Heap)) : Prop := ∀ (H : Heap) (a : AV) (x : FV) (H' : Heap), fc H a = some (x, H') → ∀ (Z : Zone) (ι : Inj) (w : World) (v : Value), Inv H Z ι w → AVR Z ι a v →
  ∃ Z', Inv H' Z' ι w ∧ Ext H Z ι w H' Z' ι w ∧ VZ Z' x v ∧ H'.length = H.length
theorem frzCells_ok {fc : Heap → AV → Option (FV × Heap)} (hfc : FrzOk fc) (ι : Inj) (w : World) : ∀ (l : List AV) (H : Heap) (xs : List FV) (H' : Heap), frzCells fc H l = some (xs, H') → ∀ (Z : Zone) (vs : List Value), Inv H Z ι w → LRel Z ι l vs →
    ∃ Z', Inv H' Z' ι w ∧ Ext H Z ι w H' Z' ι w ∧ H'.length = H.length ∧ xs.length = l.length ∧ ∀ (j : Nat) x v, xs[j]? = some x → vs[j]? = some v → VZ Z' x v
  | [], H, xs, H', h, Z, vs, hI, hl => by
    simp only [frzCells, Option.some.injEq, Prod.mk.injEq] at h
    obtain ⟨rfl, rfl⟩ := h
    exact ⟨Z, hI, Ext.refl _ _ _ _, rfl, rfl, fun j x v hx => by simp at hx⟩
  | a :: l, H, xs, H', h, Z, vs, hI, hl => by
    simp only [frzCells] at h
    split at h
    · rename_i x H1 h1
      split at h
      · rename_i ys H2 h2
        cases h
        cases hl with
        | cons _ v _ m hav ht =>
          obtain ⟨Z1, g1, g2, g3, g4⟩ := hfc H a x H1 h1 Z ι w v hI hav
          obtain ⟨Z2, q1, q2, q3, q4, q5⟩ := frzCells_ok hfc ι w l H1 ys H' h2 Z1 m g1 (ht.ext g2)
          refine ⟨Z2, q1, g2.trans q2, q3.trans g4, by simp [q4], fun j y u hy hu => ?_⟩
          cases j with
          | zero => simp at hy hu; subst hy; subst hu; exact g3.mono q2.zone
          | succ j => exact q5 j y u (by simpa using hy) (by simpa using hu)
      · cases h
    · cases h
theorem frzCell_ok (lo : Nat) : ∀ n, FrzOk (frzCell lo n)
  | 0 => by
    intro H a x H' h Z ι w v hI hv
    cases a <;> simp only [frzCell, reduceCtorEq, Option.some.injEq, Prod.mk.injEq] at h
    obtain ⟨rfl, rfl⟩ := h
    cases hv with
    | f _ _ hz => exact ⟨Z, hI, Ext.refl _ _ _ _, hz, rfl⟩
  | n + 1 => by
    intro H a x H' h Z ι w v hI hv
    cases a <;> simp only [frzCell, reduceCtorEq, Option.some.injEq, Prod.mk.injEq] at h
    case f =>
      obtain ⟨rfl, rfl⟩ := h
      cases hv with
      | f _ _ hz => exact ⟨Z, hI, Ext.refl _ _ _ _, hz, rfl⟩
    case row id g off len =>
      split at h
      · rename_i k hk
        split at h
        · rename_i hc
          obtain ⟨c1, c2, c3, _⟩ := hc
          split at h
          · rename_i vs H1 hvs
            cases h
            cases hv with
            | row _ _ _ _ A c L hsp hι hg hA =>
              have hR := hI.blk id k L hk hι
              obtain ⟨arr, e, o1, o2, o3⟩ := hR.obj
              have hsize := hR.size
              have hfit := hR.fits
              have hl : LRel Z ι k.cells ((arr.toList.drop L.sh).take k.cells.length) := by
                refine LRel.of_get (by simp; omega) (fun i a u ha hu => ?_)
                obtain ⟨u', h1, h2⟩ := o3 i a ha
                rw [List.getElem?_take] at hu
                split at hu
                · rw [List.getElem?_drop] at hu
                  have : u = u' := by
                    have h1' : arr.toList[L.sh + i]? = some u' := by simpa using h1
                    rw [h1'] at hu
                    exact (Option.some.inj hu).symm
                  subst this
                  exact h2
                · cases hu
              obtain ⟨Z1, q1, q2, q3, q4, q5⟩ := frzCells_ok (frzCell_ok lo n) ι w k.cells H vs H1 hvs Z _ hI hl
              have hid : id < H1.length := by rw [q3]; exact (List.getElem?_eq_some_iff.1 hk).1
              have hvv : ∀ (j : Nat) x, vs[j]? = some x → ∃ v, w.cell? ⟨L.B, L.sh + j, none⟩ = some v ∧ VZ Z1 x v := by
                intro j y hy
                have hj : j < k.cells.length := by rw [← q4]; exact (List.getElem?_eq_some_iff.1 hy).1
                have hja : L.sh + j < arr.size := by omega
                refine ⟨arr[L.sh + j], ?_, q5 j y _ hy ?_⟩
                · rw [cell_of_row w L.B _ arr e (0, 0) o1]; exact Array.getElem?_eq_getElem hja
                · rw [List.getElem?_take, if_pos hj, List.getElem?_drop]
                  simp [hja]
              obtain ⟨u1, u2⟩ := q1.frz (k := k) hι hid hR.gen hR.sz (by rw [q4]; exact hsize) hvv
              refine ⟨_, u1, q2.trans u2, ?_, by rw [List.length_set]; exact q3⟩
              obtain ⟨a1, a2, a3, a4, a5⟩ := hA (by rw [← c1]; exact hR.gen)
              have hlen := chunk_len k.sz len (vs.drop off)
              have key : ∀ A : Addr, A.spot = none → (len ≠ 0 → A = ⟨L.B, L.sh + off, none⟩) → VZ (frzZ Z1 w L) (.fz k.sz (chunk k.sz len (vs.drop off))) (.slice (some A) len c) := by
                intro A hsp hA
                obtain ⟨b, o, sp⟩ := A
                simp only at hsp
                subst hsp
                have hq := VZ.fz (Z := frzZ Z1 w L) k.sz (chunk k.sz len (vs.drop off)) ⟨b, o, none⟩ b o c (fun i j => (w.cell? ⟨L.B, L.sh + (off + i * k.sz + j), none⟩).getD undef) (fun _ => rfl) (fun r hr => ?_) (by rw [hlen]; exact a5) (fun i r j x hi hj => ?_) (fun i r j x hi hj => ?_)
                · rw [hlen] at hq; exact hq
                · obtain ⟨i, hi⟩ := List.getElem?_of_mem hr
                  rw [chunk_get] at hi
                  split at hi
                  · rename_i hlt
                    cases hi
                    have : (i + 1) * k.sz ≤ len * k.sz := Nat.mul_le_mul_right _ hlt
                    rw [Nat.add_mul] at this
                    simp
                    omega
                  · cases hi
                · rw [chunk_get] at hi
                  split at hi
                  · rename_i hlt
                    cases hi
                    rw [List.getElem?_take] at hj
                    split at hj
                    · rename_i hjs
                      rw [List.getElem?_drop, List.getElem?_drop] at hj
                      obtain ⟨v, h1, h2⟩ := hvv _ _ hj
                      have hA' := hA (by omega)
                      cases hA'
                      have hlt2 := (List.getElem?_eq_some_iff.1 hj).1
                      have e1 : L.sh + off + i * k.sz + j = L.sh + (off + (i * k.sz + j)) := by omega
                      have e2 : off + i * k.sz + j = off + (i * k.sz + j) := by omega
                      unfold frzZ
                      rw [if_pos ⟨rfl, by omega, by omega⟩, e1, e2, h1]
                      rfl
                    · cases hj
                  · cases hi
                · rw [chunk_get] at hi
                  split at hi
                  · rename_i hlt
                    cases hi
                    rw [List.getElem?_take] at hj
                    split at hj
                    · rename_i hjs
                      rw [List.getElem?_drop, List.getElem?_drop] at hj
                      obtain ⟨v, h1, h2⟩ := hvv _ _ hj
                      have e2 : off + i * k.sz + j = off + (i * k.sz + j) := by omega
                      rw [e2, h1]
                      exact h2.mono u2.zone
                    · cases hj
                  · cases hi
              exact key A hsp (fun h => a1 (by omega))
          · cases h
        · cases h
      · cases h
theorem frzOne_ok {lo : Nat} {a : AV} {x : AV} {H' : Heap} (h : frzOne lo H a = some (x, H')) {v : Value} (hI : Inv H Z ι w) (hv : AVR Z ι a v) :
    ∃ Z', Inv H' Z' ι w ∧ Ext H Z ι w H' Z' ι w ∧ (∀ ι', AVR Z' ι' x v) ∧ H'.length = H.length := by
  unfold frzOne at h
  split at h
  · rename_i cs
    rw [Option.map_eq_some_iff] at h
    obtain ⟨⟨xs, H1⟩, h1, h2⟩ := h
    cases h2
    cases hv with
    | agg _ vs hl hvs =>
      obtain ⟨Z1, q1, q2, q3, q4, q5⟩ := frzCells_ok (frzCell_ok lo frzDeep) ι w cs H xs _ h1 Z vs.toList hI (LRel.of_get (by simpa using hl) (fun i a u ha hu => hvs i a u ha (by simpa using hu)))
      refine ⟨Z1, q1, q2, fun ι' => .agg _ _ (by simp [q4, hl]) (fun i a u ha hu => ?_), q3⟩
      rw [List.getElem?_map, Option.map_eq_some_iff] at ha
      obtain ⟨y, hy, rfl⟩ := ha
      exact .f _ _ (q5 i y u hy (by simpa using hu))
  · rw [Option.map_eq_some_iff] at h
    obtain ⟨⟨y, H1⟩, h1, h2⟩ := h
    cases h2
    obtain ⟨Z1, g1, g2, g3, g4⟩ := frzCell_ok lo frzDeep H a y _ h1 Z ι w v hI hv
    exact ⟨Z1, g1, g2, fun ι' => .f _ _ g3, g4⟩
theorem frzList_ok (lo : Nat) (ι : Inj) (w : World) : ∀ (l : List AV) (H : Heap) (xs : List AV) (H' : Heap), frzList lo H l = some (xs, H') → ∀ (Z : Zone) (vs : List Value), Inv H Z ι w → LRel Z ι l vs →
    ∃ Z', Inv H' Z' ι w ∧ Ext H Z ι w H' Z' ι w ∧ H'.length = H.length ∧ ∀ ι', LRel Z' ι' xs vs
  | [], H, xs, H', h, Z, vs, hI, hl => by
    simp only [frzList, Option.some.injEq, Prod.mk.injEq] at h
    obtain ⟨rfl, rfl⟩ := h
    cases hl
    exact ⟨Z, hI, Ext.refl _ _ _ _, rfl, fun _ => .nil⟩
  | a :: l, H, xs, H', h, Z, vs, hI, hl => by
    simp only [frzList] at h
    split at h
    · rename_i x H1 h1
      split at h
      · rename_i ys H2 h2
        cases h
        cases hl with
        | cons _ v _ m hav ht =>
          obtain ⟨Z1, g1, g2, g3, g4⟩ := frzOne_ok h1 hI hav
          obtain ⟨Z2, q1, q2, q3, q4⟩ := frzList_ok lo ι w l H1 ys H' h2 Z1 m g1 (ht.ext g2)
          exact ⟨Z2, q1, g2.trans q2, q3.trans g4, fun ι' => .cons _ _ _ _ ((g3 ι').mono_z q2.zone) (q4 ι')⟩
      · cases h
    · cases h
theorem frzVal_ok {lo : Nat} {a : AV} {x : AV} {H' : Heap} (h : frzVal lo H a = some (x, H')) {v : Value} (hI : Inv H Z ι w) (hv : AVR Z ι a v) :
    ∃ Z', Inv H' Z' ι w ∧ Ext H Z ι w H' Z' ι w ∧ (∀ ι', AVR Z' ι' x v) ∧ H'.length = H.length := by
  unfold frzVal at h
  split at h
  · rename_i cs
    rw [Option.map_eq_some_iff] at h
    obtain ⟨⟨xs, H1⟩, h1, h2⟩ := h
    cases h2
    cases hv with
    | tup _ vs hl hvs =>
      obtain ⟨Z1, q1, q2, q3, q4⟩ := frzList_ok lo ι w cs H xs _ h1 Z vs.toList hI (LRel.of_get (by simpa using hl) (fun i a u ha hu => hvs i a u ha (by simpa using hu)))
      exact ⟨Z1, q1, q2, fun ι' => .tup _ _ (by have := (q4 ι').len; simpa using this) (fun i a u ha hu => (q4 ι').get i a u ha (by simpa using hu)), q3⟩
  · exact frzOne_ok h hI hv
theorem noRef_ok {a : AV} {v : Value} (h : noRef a = true) (hv : AVR Z ι a v) (ι' : Inj) : AVR Z ι' a v := by
  have cell : ∀ {c : AV} {u : Value}, (match c with | .f _ => true | _ => false) = true → AVR Z ι c u → AVR Z ι' c u := by
    intro c u hc hu
    cases hu with
    | f _ _ hz => exact .f _ _ hz
    | _ => simp at hc
  cases hv with
  | f _ _ hz => exact .f _ _ hz
  | fptr row j b o vs h1 h2 => exact .fptr row j b o vs h1 h2
  | agg cs vs hl hvs =>
    refine .agg _ _ hl (fun i a u ha hu => cell ?_ (hvs i a u ha hu))
    exact List.all_eq_true.1 h a (List.mem_of_getElem? ha)
  | clo fn cs vs hl hvs =>
    refine .clo _ _ _ hl (fun i a u ha hu => cell ?_ (hvs i a u ha hu))
    exact List.all_eq_true.1 h a (List.mem_of_getElem? ha)
  | ptr => simp [noRef] at h
  | row => simp [noRef] at h
  | tup => simp [noRef] at h
  | undef => simp [noRef] at h
theorem frzArg_ok {lo : Nat} {a : AV} {x : AV} {H' : Heap} (h : frzArg lo H a = some (x, H')) {v : Value} (hI : Inv H Z ι w) (hv : AVR Z ι a v) :
    ∃ Z', Inv H' Z' ι w ∧ Ext H Z ι w H' Z' ι w ∧ (∀ ι', AVR Z' ι' x v) ∧ H'.length = H.length := by
  unfold frzArg at h
  split at h
  · rename_i hn
    cases h
    exact ⟨Z, hI, Ext.refl _ _ _ _, noRef_ok hn hv, rfl⟩
  · split at h
    · exact frzOne_ok h hI hv
    · exact frzOne_ok h hI hv
    · cases h
theorem frzArgs_ok (lo : Nat) (ι : Inj) (w : World) : ∀ (l : List AV) (H : Heap) (xs : List AV) (H' : Heap), frzArgs lo H l = some (xs, H') → ∀ (Z : Zone) (vs : List Value), Inv H Z ι w → LRel Z ι l vs →
    ∃ Z', Inv H' Z' ι w ∧ Ext H Z ι w H' Z' ι w ∧ H'.length = H.length ∧ ∀ ι', LRel Z' ι' xs vs
  | [], H, xs, H', h, Z, vs, hI, hl => by
    simp only [frzArgs, Option.some.injEq, Prod.mk.injEq] at h
    obtain ⟨rfl, rfl⟩ := h
    cases hl
    exact ⟨Z, hI, Ext.refl _ _ _ _, rfl, fun _ => .nil⟩
  | a :: l, H, xs, H', h, Z, vs, hI, hl => by
    simp only [frzArgs] at h
    split at h
    · rename_i x H1 h1
      split at h
      · rename_i ys H2 h2
        cases h
        cases hl with
        | cons _ v _ m hav ht =>
          obtain ⟨Z1, g1, g2, g3, g4⟩ := frzArg_ok h1 hI hav
          obtain ⟨Z2, q1, q2, q3, q4⟩ := frzArgs_ok lo ι w l H1 ys H' h2 Z1 m g1 (ht.ext g2)
          exact ⟨Z2, q1, g2.trans q2, q3.trans g4, fun ι' => .cons _ _ _ _ ((g3 ι').mono_z q2.zone) (q4 ι')⟩
      · cases h
    · cases h

/-! ### A call that shares nothing -/
theorem Inv.empty (hI : Inv H Z ι w) : Inv [] Z (fun _ => none) w := ⟨hI.zone, fun id k L _ hL => by simp at hL, fun id L hL => by simp at hL, fun i j L M hL => by simp at hL⟩
/-- The old heap again, behind a call that shared nothing with it. -/
theorem Inv.back {H' : Heap} {Z' : Zone} {ι' : Inj} {w' : World} (hI : Inv H Z ι w) (hI' : Inv H' Z' ι' w') (hx : Ext [] Z (fun _ => none) w H' Z' ι' w') : Inv H Z' ι w' ∧ Ext H Z ι w H Z' ι w' := by
  have hkeep : ∀ B, B < w.heap.size → w'.heap[B]? = w.heap[B]? := fun B hB => hx.keep B hB (fun id L hL => by cases hL)
  have hzn : ∀ b o v, Z' b o = some v → Z b o = some v ∨ w.heap.size ≤ b := by
    intro b o v h
    rcases hx.znew b o v h with h1 | ⟨_, _, h1, _⟩ | h1
    · exact .inl h1
    · cases h1
    · exact .inr h1
  refine ⟨⟨hI'.zone, fun id k L hk hL => ?_, hI.dom, hI.inj⟩, ⟨Nat.le_refl _, fun _ L h => .inl ⟨L, h⟩, hx.os, hx.tape, hx.output, hx.size, hx.zone, fun _ L h => ⟨L, h, Nat.le_refl _, fun _ => rfl⟩, fun _ L h => .inl ⟨L, h, rfl⟩, fun b o v h => (hzn b o v h).imp id .inr, fun B hB _ => hkeep B hB⟩⟩
  have hb := hI.blk id k L hk hL
  have hlt := hI.ltB hL
  obtain ⟨arr, e, o1, o2, o3⟩ := hb.obj
  refine ⟨hb.gen, hb.size, hb.sz, ⟨arr, e, (hkeep _ hlt).trans o1, o2, fun j a ha => ?_⟩, hb.fits, hb.one, fun hro o => ?_, fun hro j a ha => ?_⟩
  · obtain ⟨v, h1, h2⟩ := o3 j a ha
    exact ⟨v, h1, h2.mono_z hx.zone⟩
  · cases hq : Z' L.B o with
    | none => rfl
    | some v =>
      rcases hzn _ _ _ hq with h1 | h1
      · rw [hb.mutb hro o] at h1; cases h1
      · omega
  · obtain ⟨x, v, h1, h2, h3⟩ := hb.froz hro j a ha
    exact ⟨x, v, h1, hx.zone _ _ _ h2, h3.mono hx.zone⟩
end
end Go.Proofs.YtbjcghnhhgdopaaGreatDoor.Ai
