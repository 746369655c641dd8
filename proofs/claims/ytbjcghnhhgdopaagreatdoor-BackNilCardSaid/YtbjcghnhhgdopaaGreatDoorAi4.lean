import Derived.Test.YtbjcghnhhgdopaaGreatDoorAi3
namespace Go.Proofs.YtbjcghnhhgdopaaGreatDoor.Ai
open Go Go.RowKit

/-! ## 6. Operations that write nothing -/
section
variable {P : Program} {H : Heap} {Z : Zone} {ι : Inj} {w : World}
theorem und_run {t : Nat} {d : TypeDesc} (h : P.underlying t = some d) : (underlying t).run P w = .ok d w := by simp [underlying, h]
theorem size_run {t s : Nat} (h : tSize P t = some s) : (sizeOf t).run P w = .ok s w := by
  simp only [tSize, Option.map_eq_some_iff] at h
  obtain ⟨i, hi, rfl⟩ := h
  simp [sizeOf, typeInfo, hi]
theorem agg_run {t : Nat} {b : Bool} (h : tAgg P t = some b) : (isAgg t).run P w = .ok b w := by
  unfold tAgg at h
  split at h
  · rename_i x hd; cases h; simp [isAgg, underlying, hd]
  · rename_i n x hd; cases h; simp [isAgg, underlying, hd]
  · rename_i d h1 h2 hd
    cases h
    simp only [isAgg, Sem.run_bind, underlying, run_program, Result.andThen_ok, hd]
    cases d <;> first | rfl | exact absurd rfl (h1 _) | exact absurd rfl (h2 _ _)
  · cases h

/-- Cells behind an address, as the world has them. -/
theorem cellsAt_ok (hI : Inv H Z ι w) {p : AV} {v : Value} (hp : AVR Z ι p v) {cs : List AV} (h : cellsAt H p = some cs) :
    ∃ b o, v = .pointer (some ⟨b, o, none⟩) ∧ ∀ (j : Nat) (a : AV), cs[j]? = some a → ∃ u, w.cell? ⟨b, o + j, none⟩ = some u ∧ AVR Z ι a u ∧ a.isCell = true := by
  cases hp with
  | ptr id g off A L hι hg hA =>
    simp only [cellsAt] at h
    split at h
    · rename_i k hk
      split at h
      · rename_i hgen
        cases h
        have hb := hI.blk id k L hk hι
        obtain ⟨arr, e, h1, h2, h3⟩ := hb.obj
        have hA' := hA (by rw [← hgen]; exact hb.gen)
        subst hA'
        refine ⟨_, _, rfl, fun j a ha => ?_⟩
        rw [List.getElem?_drop] at ha
        obtain ⟨u, hu, hr⟩ := h3 _ _ ha
        refine ⟨u, ?_, hr, hb.one a (List.mem_of_getElem? ha)⟩
        rw [cell_of_row w L.B _ arr e (0, 0) h1, Nat.add_assoc]
        exact hu
      · cases h
    · cases h
  | fptr row j b o vs h1 h2 =>
    simp only [cellsAt, Option.some.injEq] at h
    subst h
    refine ⟨b, o, rfl, fun i a ha => ?_⟩
    rw [List.getElem?_map, List.getElem?_drop, Option.map_eq_some_iff] at ha
    obtain ⟨x, hx, rfl⟩ := ha
    exact ⟨vs i, hI.zone _ _ _ (h1 i x hx), .f _ _ (h2 i x hx), rfl⟩
  | _ => simp [cellsAt] at h

theorem add_lit' (b o n : Nat) : (⟨b, o, none⟩ : Addr).add n = ⟨b, o + n, none⟩ := by unfold Addr.add; split <;> simp_all

theorem load_ok (hI : Inv H Z ι w) {p : AV} {v : Value} (hp : AVR Z ι p v) {t : Nat} {r : AV} (h : loadA P H t p = some r) :
    ∃ u, (Instr.loadAt t v).run P w = .ok u w ∧ AVR Z ι r u := by
  unfold loadA at h
  split at h
  · rename_i cs ha hc
    obtain ⟨b, o, rfl, hcell⟩ := cellsAt_ok hI hp hc
    split at h
    · rename_i s hs
      split at h
      · rename_i hle
        cases h
        have hex : ∀ j, ∃ u, j < s → w.cell? ⟨b, o + j, none⟩ = some u ∧ ∀ a, cs[j]? = some a → AVR Z ι a u := by
          intro j
          by_cases hj : j < s
          · have hlt : j < cs.length := by omega
            obtain ⟨u, hu, hr, _⟩ := hcell j _ (List.getElem?_eq_getElem hlt)
            refine ⟨u, fun _ => ⟨hu, fun a ha => ?_⟩⟩
            rw [List.getElem?_eq_getElem hlt] at ha
            cases ha
            exact hr
          · exact ⟨undef, fun h => absurd h hj⟩
        let us := fun j => Classical.choose (hex j)
        have hus : ∀ j, j < s → w.cell? ⟨b, o + j, none⟩ = some (us j) ∧ ∀ a, cs[j]? = some a → AVR Z ι a (us j) := fun j => Classical.choose_spec (hex j)
        have hl := run_loadCells (P := P) w ⟨b, o, none⟩ s us (fun j hj => by rw [add_lit']; exact (hus j hj).1)
        refine ⟨.agg ((List.range s).map us).toArray, ?_, .agg _ _ (by simp; omega) (fun j a v ha hv => ?_)⟩
        · simp [Instr.loadAt, Instr.sureAddr, loadVar, agg_run ha, size_run hs, hl]
        · rw [List.getElem?_take] at ha
          split at ha
          · rename_i hj
            simp [hj] at hv
            subst hv
            exact (hus j hj).2 a ha
          · cases ha
      · cases h
    · cases h
  · rename_i c cs ha hc
    cases h
    obtain ⟨b, o, rfl, hcell⟩ := cellsAt_ok hI hp hc
    obtain ⟨u, hu, hr, _⟩ := hcell 0 r rfl
    exact ⟨u, by simp [Instr.loadAt, Instr.sureAddr, loadVar, agg_run ha, run_load]; simpa using hu ▸ rfl, hr⟩
  · cases h

theorem int_inv {a : AV} {v : Value} {n : Int} (h : AVR Z ι a v) (hi : intOfA a = some n) : ∃ k, v = .int k n := by
  cases h with
  | f x y hv =>
    cases hv <;> simp [intOfA] at hi
    subst hi
    exact ⟨_, rfl⟩
  | _ => simp [intOfA] at hi
theorem int_inv' {k : IntKind} {n : Int} {v : Value} (h : AVR Z ι (.f (.int k n)) v) : v = .int k n := by
  cases h with
  | f x y hv => cases hv; rfl
theorem bool_inv {b : Bool} {v : Value} (h : AVR Z ι (.f (.bool b)) v) : v = .bool b := by
  cases h with
  | f x y hv => cases hv; rfl
theorem str_inv {b : ByteArray} {v : Value} (h : AVR Z ι (.f (.str b)) v) : v = .string b := by
  cases h with
  | f x y hv => cases hv; rfl

theorem index_ok {x i : AV} {vx vi : Value} (hx : AVR Z ι x vx) (hi : AVR Z ι i vi) {t : Nat} {r : AV} (h : indexA P t x i = some r) :
    ∃ u, (Instr.indexAt t vx vi).run P w = .ok u w ∧ AVR Z ι r u := by
  unfold indexA at h
  split at h
  · rename_i e n hu hn
    obtain ⟨k, rfl⟩ := int_inv hi hn
    split at h
    · rename_i s hs
      split at h
      · rename_i h0
        split at h
        · rename_i sz rows
          split at h
          · rename_i hsz
            subst hsz
            rw [Option.map_eq_some_iff] at h
            obtain ⟨rw_, hrow, rfl⟩ := h
            have hlt := (List.getElem?_eq_some_iff.1 hrow).1
            cases hx with
            | f x y hv =>
              cases hv with
              | fz _ _ A b o c vs hA hsz hc h1 h2 =>
                obtain rfl := hA (by omega)
                refine ⟨.pointer (some ⟨b, o + n.toNat * sz, none⟩), ?_, ?_⟩
                · have hlt' : n < rows.length := by omega
                  simp [Instr.indexAt, asIntOf, und_run hu, size_run hs, h0, hlt', add_lit']
                · refine .fptr rw_ 0 b _ (fun j => vs n.toNat j) (fun j a ha => ?_) (fun j a ha => ?_)
                  · rw [Nat.zero_add] at ha
                    exact h1 _ _ _ _ hrow ha
                  · rw [Nat.zero_add] at ha
                    exact h2 _ _ _ _ hrow ha
          · cases h
        · rename_i id g off len
          split at h
          · rename_i hlt
            cases h
            cases hx with
            | row _ _ _ _ A c L hsp hι hg hA =>
              refine ⟨.pointer (some (A.add (n.toNat * s))), ?_, .ptr _ _ _ _ L hι hg (fun e => ?_)⟩
              · have hlt' : n < len := by omega
                simp [Instr.indexAt, asIntOf, und_run hu, size_run hs, h0, hlt']
              · obtain ⟨h1, _, _, _, h5⟩ := hA e
                rw [h1 (by omega), add_lit', Nat.add_assoc]
          · cases h
        · cases h
      · cases h
    · cases h
  · rename_i len e n hu hn
    obtain ⟨k, rfl⟩ := int_inv hi hn
    split at h
    · rename_i s hs
      split at h
      · rename_i h0
        have hlt' : n < len := by omega
        split at h
        · rename_i id g off
          cases h
          cases hx with
          | ptr _ _ _ A L hι hg hA =>
            refine ⟨.pointer (some (A.add (n.toNat * s))), ?_, .ptr _ _ _ _ L hι hg (fun e => ?_)⟩
            · simp [Instr.indexAt, asIntOf, und_run hu, size_run hs, h0.1, hlt', Instr.sureAddr]
            · rw [hA e, add_lit', Nat.add_assoc]
        · rename_i row j
          cases h
          cases hx with
          | fptr _ _ b o vs h1 h2 =>
            refine ⟨.pointer (some ⟨b, o + n.toNat * s, none⟩), ?_, .fptr row _ b _ (fun q => vs (n.toNat * s + q)) (fun q a ha => ?_) (fun q a ha => ?_)⟩
            · simp [Instr.indexAt, asIntOf, und_run hu, size_run hs, h0.1, hlt', Instr.sureAddr, add_lit']
            · rw [Nat.add_assoc] at ha ⊢; exact h1 _ _ ha
            · rw [Nat.add_assoc] at ha; exact h2 _ _ ha
        · cases h
      · cases h
    · cases h
  · cases h

theorem agg_part {cs : List AV} {vs : Array Value} (hl : cs.length = vs.size) (h : ∀ (i : Nat) (a : AV) (v : Value), cs[i]? = some a → vs[i]? = some v → AVR Z ι a v)
    {t s off : Nat} {ag : Bool} (hs : tSize P t = some s) (ha : tAgg P t = some ag) (hle : off + s ≤ cs.length) {r : AV}
    (hr : (if ag then some (AV.agg ((cs.drop off).take s)) else (if s = 1 then cs[off]? else none)) = some r) : ∃ u, (part t vs off).run P w = .ok u w ∧ AVR Z ι r u := by
  cases ag with
  | true =>
    simp at hr
    subst hr
    refine ⟨.agg (vs.extract off (off + s)), ?_, .agg _ _ (by simp; omega) (fun i a v h1 h2 => ?_)⟩
    · simp [part, agg_run ha, size_run hs]
    · rw [List.getElem?_take] at h1
      split at h1
      · rename_i hi
        rw [List.getElem?_drop] at h1
        rw [Array.getElem?_extract] at h2
        split at h2
        · exact h _ _ _ h1 h2
        · cases h2
      · cases h1
  | false =>
    simp at hr
    obtain ⟨rfl, hr⟩ := hr
    have hlt : off < vs.size := by omega
    exact ⟨vs[off], by simp [part, agg_run ha, hlt], h _ _ _ hr (Array.getElem?_eq_getElem hlt)⟩

theorem index2_ok {x i : AV} {vx vi : Value} (hx : AVR Z ι x vx) (hi : AVR Z ι i vi) {t : Nat} {r : AV} (h : index2A P t x i = some r) :
    ∃ u, (Instr.index t vx vi).run P w = .ok u w ∧ AVR Z ι r u := by
  unfold index2A at h
  split at h
  · rename_i n s hu hn
    obtain ⟨k, rfl⟩ := int_inv hi hn
    have := str_inv hx
    subst this
    split at h
    · rename_i h0
      rw [Option.map_eq_some_iff] at h
      obtain ⟨b, hb, rfl⟩ := h
      exact ⟨.int .u8 b.toNat, by simp [Instr.index, asIntOf, und_run hu, h0, hb], .f _ _ (.int _ _)⟩
    · cases h
  · rename_i len e n cs hu hn
    obtain ⟨k, rfl⟩ := int_inv hi hn
    cases hx with
    | agg _ vs hl hvs =>
      split at h
      · rename_i s ag hs ha
        split at h
        · rename_i h0
          obtain ⟨u, h1, h2⟩ := agg_part (P := P) (w := w) hl hvs hs ha h0.2.2 h
          have hlt' : n < len := by omega
          exact ⟨u, by simp [Instr.index, asIntOf, und_run hu, size_run hs, h0.1, hlt', h1], h2⟩
        · cases h
      · cases h
  · cases h

theorem fieldAddr_ok {x : AV} {vx : Value} (hx : AVR Z ι x vx) {s fld : Nat} {r : AV} (h : fieldAddrA P s x fld = some r) :
    ∃ u, (Instr.fieldAt s vx fld).run P w = .ok u w ∧ AVR Z ι r u := by
  unfold fieldAddrA at h
  split at h
  · rename_i fields hu
    split at h
    · rename_i f hf
      split at h
      · rename_i z hz
        split at h
        · cases h
        · rename_i hz0
          split at h
          · rename_i id g off
            cases h
            cases hx with
            | ptr _ _ _ A L hι hg hA =>
              refine ⟨.pointer (some (A.add f.offset)), ?_, .ptr _ _ _ _ L hι hg (fun e => ?_)⟩
              · simp [Instr.fieldAt, und_run hu, hf, Instr.sureAddr, fieldPlace, size_run hz, hz0]
              · rw [hA e, add_lit', Nat.add_assoc]
          · rename_i row j
            cases h
            cases hx with
            | fptr _ _ b o vs h1 h2 =>
              refine ⟨.pointer (some ⟨b, o + f.offset, none⟩), ?_, .fptr row _ b _ (fun q => vs (f.offset + q)) (fun q a ha => ?_) (fun q a ha => ?_)⟩
              · simp [Instr.fieldAt, und_run hu, hf, Instr.sureAddr, fieldPlace, size_run hz, hz0, add_lit']
              · rw [Nat.add_assoc] at ha ⊢; exact h1 _ _ ha
              · rw [Nat.add_assoc] at ha; exact h2 _ _ ha
          · cases h
      · cases h
    · cases h
  · cases h

theorem field_ok {x : AV} {vx : Value} (hx : AVR Z ι x vx) {s fld : Nat} {r : AV} (h : fieldA P s x fld = some r) :
    ∃ u, (Instr.field s vx fld).run P w = .ok u w ∧ AVR Z ι r u := by
  unfold fieldA at h
  split at h
  · rename_i fields cs hu
    cases hx with
    | agg _ vs hl hvs =>
      split at h
      · rename_i f hf
        split at h
        · rename_i z ag hz ha
          split at h
          · rename_i hle
            obtain ⟨u, h1, h2⟩ := agg_part (P := P) (w := w) hl hvs hz ha hle h
            exact ⟨u, by simp [Instr.field, und_run hu, hf, asAgg, h1], h2⟩
          · cases h
        · cases h
      · cases h
  · cases h

theorem bound_ok {a : AV} {v : Value} (h : AVR Z ι a v) {most m : Nat} (hb : boundA a most = some m) (y : Nat) (hy : most ≤ y) (code : BoundsCode) : m ≤ most ∧ (Instr.sliceBound v y code).run P w = .ok m w := by
  unfold boundA at hb
  split at hb
  · rename_i n hn
    obtain ⟨k, rfl⟩ := int_inv h hn
    split at hb
    · rename_i hc
      cases hb
      have h1 : n ≤ y := by omega
      exact ⟨hc.2, by simp [Instr.sliceBound, asIntOf, hc.1, h1]⟩
    · cases hb
  · cases hb
/-- An optional value. -/
inductive ORel (Z : Zone) (ι : Inj) : Option AV → Option Value → Prop
  | none : ORel Z ι none none
  | some (a v) (h : AVR Z ι a v) : ORel Z ι (some a) (some v)

theorem bounds_ok {lo hi : Option AV} {vl vh : Option Value} (hl : ORel Z ι lo vl) (hh : ORel Z ι hi vh) {len most cap l h : Nat} (is : Bool) (hm : most ≤ cap) (hlen : len ≤ most) (h1 : oBound hi len most = some h) (h2 : oBound lo 0 h = some l) :
    l ≤ h ∧ h ≤ most ∧ (Instr.sliceBounds is len cap vl vh none).run P w = .ok (l, h, cap) w := by
  cases hh with
  | none =>
    simp only [oBound, Option.some.injEq] at h1
    subst h1
    cases hl with
    | none => simp only [oBound, Option.some.injEq] at h2; subst h2; exact ⟨by omega, hlen, by simp [Instr.sliceBounds]⟩
    | some a v ha =>
      obtain ⟨h3, h4⟩ := bound_ok (P := P) (w := w) ha h2 len (Nat.le_refl _) .sliceB
      exact ⟨h3, hlen, by simp [Instr.sliceBounds, h4]⟩
  | some a v ha =>
    obtain ⟨h3, h4⟩ := bound_ok (P := P) (w := w) ha h1 cap hm (if is then .sliceAcap else .sliceAlen)
    cases hl with
    | none => simp only [oBound, Option.some.injEq] at h2; subst h2; exact ⟨by omega, h3, by simp [Instr.sliceBounds, h4]⟩
    | some b u hb =>
      obtain ⟨h5, h6⟩ := bound_ok (P := P) (w := w) hb h2 h (Nat.le_refl _) .sliceB
      exact ⟨h5, h3, by simp [Instr.sliceBounds, h4, h6]⟩

theorem slice_ok (hI : Inv H Z ι w) {x : AV} {vx : Value} (hx : AVR Z ι x vx) {lo hi mx : Option AV} {vl vh vm : Option Value} (hl : ORel Z ι lo vl) (hh : ORel Z ι hi vh) (hm : ORel Z ι mx vm) {t : Nat} {r : AV}
    (h : sliceA P H t x lo hi mx = some r) : ∃ u, (Instr.sliceAt t vx vl vh vm).run P w = .ok u w ∧ AVR Z ι r u := by
  unfold sliceA at h
  split at h
  · cases h
  · cases hm
    split at h
    · rename_i s hu
      have := str_inv hx
      subst this
      split at h
      · rename_i q hq
        rw [Option.map_eq_some_iff] at h
        obtain ⟨l, hl2, rfl⟩ := h
        obtain ⟨h1, h2, h3⟩ := bounds_ok (P := P) (w := w) hl hh false (Nat.le_refl _) (Nat.le_refl _) hq hl2
        exact ⟨.string (s.extract l q), by simp [Instr.sliceAt, und_run hu, Instr.slice, h3], .f _ _ (.str _)⟩
      · cases h
    · rename_i e sz rows hu
      split at h
      · rename_i hs
        split at h
        · rename_i q hq
          rw [Option.map_eq_some_iff] at h
          obtain ⟨l, hl2, rfl⟩ := h
          cases hx with
          | f x y hv =>
            cases hv with
            | fz _ _ A b o c vs hA hsz hc g1 g2 =>
              obtain ⟨h1, h2, h3⟩ := bounds_ok (P := P) (w := w) hl hh true (cap := c) hc (Nat.le_refl _) hq hl2
              have hlen : ((rows.drop l).take (q - l)).length = q - l := by simp; omega
              refine ⟨.slice (some (if c = l then A else ⟨b, o + l * sz, none⟩)) (q - l) (c - l), ?_, ?_⟩
              · by_cases hcl : c = l
                · subst hcl
                  simp [Instr.sliceAt, und_run hu, Instr.slice, h3, size_run hs]
                · obtain rfl := hA (by omega)
                  simp [Instr.sliceAt, und_run hu, Instr.slice, h3, size_run hs, add_lit', hcl]
              · have key : ∀ A', (c - l ≠ 0 → A' = ⟨b, o + l * sz, none⟩) → AVR Z ι (.f (.fz sz ((rows.drop l).take (q - l)))) (.slice (some A') (q - l) (c - l)) := by
                  intro A' hA'
                  have hv := VZ.fz (Z := Z) sz ((rows.drop l).take (q - l)) A' b (o + l * sz) (c - l) (fun i j => vs (l + i) j) hA' (fun r hr => hsz r (List.mem_of_mem_drop (List.mem_of_mem_take hr))) (by rw [hlen]; omega)
                    (fun i r j x hi hj => ?_) (fun i r j x hi hj => ?_)
                  · rw [hlen] at hv; exact .f _ _ hv
                  · rw [List.getElem?_take] at hi
                    split at hi
                    · rw [List.getElem?_drop] at hi
                      have := g1 _ _ _ _ hi hj
                      rw [Nat.add_mul] at this
                      rw [← this]; congr 1; omega
                    · cases hi
                  · rw [List.getElem?_take] at hi
                    split at hi
                    · rw [List.getElem?_drop] at hi
                      exact g2 _ _ _ _ hi hj
                    · cases hi
                split
                · rename_i hcl; exact key _ (fun h => absurd hcl (by omega))
                · exact key _ (fun _ => rfl)
        · cases h
      · cases h
    · rename_i e hu
      split at h
      · rename_i zs q hs hq
        rw [Option.map_eq_some_iff] at h
        obtain ⟨l, hl2, rfl⟩ := h
        cases hx with
        | f x y hv =>
          cases hv
          obtain ⟨h1, h2, h3⟩ := bounds_ok (P := P) (w := w) hl hh true (Nat.le_refl _) (Nat.le_refl _) hq hl2
          have hq0 : q = 0 := by omega
          have hl0 : l = 0 := by omega
          subst hq0 hl0
          exact ⟨.slice none 0 0, by simp [Instr.sliceAt, und_run hu, Instr.slice, h3, size_run hs], .f _ _ .nilS⟩
      · cases h
    · rename_i e id g off len hu
      split at h
      · rename_i k s hk hs
        split at h
        · rename_i hc
          obtain ⟨hgen, hksz, hs0⟩ := hc
          split at h
          · rename_i q hq
            rw [Option.map_eq_some_iff] at h
            obtain ⟨l, hl2, rfl⟩ := h
            cases hx with
            | row _ _ _ _ A c L hsp hι hg hA =>
              have hb := hI.blk id k L hk hι
              obtain ⟨a1, a2, a3, a4, a5⟩ := hA (by rw [← hgen]; exact hb.gen)
              have hsz : L.sz = s := by rw [← hb.sz]; exact hksz
              have hsize := hb.size
              rw [hsz] at a2 a3 a4
              have hdiv : (k.cells.length - off) / s ≤ c := by
                rw [hsize]
                refine Nat.div_le_of_le_mul ?_
                rw [Nat.mul_comm]; omega
              have hlen2 : len ≤ (k.cells.length - off) / s := by
                rw [Nat.le_div_iff_mul_le hs0]; omega
              obtain ⟨h1, h2, h3⟩ := bounds_ok (P := P) (w := w) hl hh true hdiv hlen2 hq hl2
              have hq2 : q * s ≤ L.size - off := by
                have := (Nat.le_div_iff_mul_le hs0).1 h2
                omega
              refine ⟨.slice (some (if c = l then A else A.add (l * s))) (q - l) (c - l), ?_, ?_⟩
              · simp [Instr.sliceAt, und_run hu, Instr.slice, h3, size_run hs]
                split <;> simp_all
              · have hls : l * s ≤ q * s := Nat.mul_le_mul_right _ h1
                have hlc : l * s ≤ c * s := Nat.mul_le_mul_right _ (by omega)
                refine .row _ _ _ _ _ _ L (by split <;> simp [Addr.add, hsp]; split <;> simp [hsp]) hι hg (fun e => ⟨fun hne => ?_, ?_, ?_, ?_, by omega⟩)
                · rw [if_neg (by omega), a1 (by omega), add_lit', Nat.add_assoc]
                · rw [hsz, Nat.sub_mul]; omega
                · rw [hsz, Nat.sub_mul]; omega
                · rw [hsz, Nat.sub_mul]; omega
          · cases h
        · cases h
      · cases h
    · cases h
end
end Go.Proofs.YtbjcghnhhgdopaaGreatDoor.Ai
