import Derived.Test.YtbjcghnhhgdopaaGreatDoorAi18
import Derived.ProofKit
import Derived.LaidLaws
namespace Go.Proofs.YtbjcghnhhgdopaaGreatDoor.Ai
open Go Go.RowKit

/-! ## 19. Arguments as frozen data -/
/-- Frozen cells that fit a type. -/
def FitF (P : Program) : Nat → TypeId → List FV → Prop
  | 0, _, _ => False
  | n + 1, t, fs => match P.underlying t with
    | some .bool => ∃ b, fs = [.bool b]
    | some (.int k) => ∃ m, fs = [.int k m] ∧ (Lit.int k m).wf = true
    | some .string => ∃ s, fs = [.str s] ∧ s.size ≤ maxLen
    | some (.slice e) => fs = [.nilS] ∨ ∃ rows, fs = [.fz (P.cellsOf e) rows] ∧ rows.length ≤ maxLen ∧ ∀ r, r ∈ rows → r.length = P.cellsOf e ∧ FitF P n e r
    | some (.struct fds) => fs.length = P.cellsOf t ∧ ∀ f, f ∈ fds.toList → FitF P n f.type ((fs.drop f.offset).take (P.cellsOf f.type))
    | _ => False
def coverB (P : Program) : List Field → Nat → Nat → Bool
  | [], acc, tot => acc == tot
  | f :: l, acc, tot => f.offset == acc && coverB P l (acc + P.cellsOf f.type) tot
/-- The types that are read so. -/
def plainT (P : Program) : Nat → TypeId → Bool
  | 0, _ => false
  | n + 1, t => match P.underlying t with
    | some .bool | some (.int _) | some .string => true
    | some (.slice e) => decide (0 < P.cellsOf e) && plainT P n e
    | some (.struct fds) => coverB P fds.toList 0 (P.cellsOf t) && fds.toList.all fun f => plainT P n f.type
    | _ => false
/-- Cells that stand for frozen data. -/
structure LZ (Z : Zone) (fs : List FV) (cs : List Value) : Prop where
  len : fs.length = cs.length
  at_ : ∀ (i : Nat) x v, fs[i]? = some x → cs[i]? = some v → VZ Z x v
theorem LZ.one {Z : Zone} {x : FV} {v : Value} (h : VZ Z x v) : LZ Z [x] [v] := ⟨rfl, fun i y u hy hu => by
  cases i with
  | zero => simp at hy hu; subst hy hu; exact h
  | succ i => simp at hy⟩
theorem LZ.append {Z : Zone} {fs gs : List FV} {cs ds : List Value} (h : LZ Z fs cs) (k : LZ Z gs ds) : LZ Z (fs ++ gs) (cs ++ ds) := ⟨by simp [h.len, k.len], fun i x v hx hv => by
  rw [List.getElem?_append] at hx hv
  rw [h.len] at hx
  split at hx
  · rename_i hi
    rw [if_pos hi] at hv
    exact h.at_ i x v hx hv
  · rename_i hi
    rw [if_neg hi] at hv
    exact k.at_ _ x v hx hv⟩
section
variable {H : Type} {enc : TypeId × Value → H} {P : Program} {w : World} {base : Nat} {held : Bool}

theorem cover_le : ∀ {l : List Field} {acc tot : Nat}, coverB P l acc tot = true → acc ≤ tot
  | [], acc, tot, h => by simp [coverB] at h; omega
  | f :: l, acc, tot, h => by
    simp only [coverB, Bool.and_eq_true] at h
    have := cover_le h.2
    omega
theorem add_add (a : Addr) (n m : Nat) : (a.add n).add m = a.add (n + m) := by
  unfold Addr.add
  by_cases hn : n = 0
  · simp [hn]
  · by_cases hm : m = 0
    · simp [hm]
    · rw [if_neg hn, if_neg hm, if_neg (by omega), Nat.add_assoc]
theorem add_none {a : Addr} (h : a.spot = none) (n : Nat) : a.add n = ⟨a.block, a.off + n, none⟩ := by
  obtain ⟨b, o, s⟩ := a
  simp only at h
  subst h
  unfold Addr.add
  by_cases hn : n = 0
  · simp [hn]
  · rw [if_neg hn]
/-- Fields laid end to end. -/
theorem open_fields {n : Nat} {cs : List Value} {tot : Nat} (hl : cs.length = tot) : ∀ (l : List Field) (acc : Nat), coverB P l acc tot = true →
    (∀ f, f ∈ l → ∃ fs, FitF P n f.type fs ∧ LZ (zone0 w) fs ((cs.drop f.offset).take (P.cellsOf f.type))) →
    ∃ fs, LZ (zone0 w) fs (cs.drop acc) ∧ ∀ f, f ∈ l → acc ≤ f.offset ∧ FitF P n f.type ((fs.drop (f.offset - acc)).take (P.cellsOf f.type))
  | [], acc, hc, _ => by
    simp only [coverB, beq_iff_eq] at hc
    refine ⟨[], ?_, fun f hf => by cases hf⟩
    rw [List.drop_eq_nil_of_le (by omega)]
    exact ⟨rfl, fun i x v hx => by simp at hx⟩
  | f :: l, acc, hc, h => by
    simp only [coverB, Bool.and_eq_true, beq_iff_eq] at hc
    obtain ⟨hoff, hc⟩ := hc
    obtain ⟨fs1, g1, g2⟩ := h f List.mem_cons_self
    obtain ⟨fs2, q1, q2⟩ := open_fields hl l _ hc (fun g hg => h g (List.mem_cons_of_mem _ hg))
    have hle := cover_le hc
    rw [hoff] at g2
    have hlen : fs1.length = P.cellsOf f.type := by rw [g2.len]; simp; omega
    refine ⟨fs1 ++ fs2, ?_, fun g hg => ?_⟩
    · have := g2.append q1
      rwa [← List.drop_drop, List.take_append_drop] at this
    · rcases List.mem_cons.1 hg with rfl | hg
      · refine ⟨by omega, ?_⟩
        rw [hoff, Nat.sub_self, List.drop_zero, ← hlen, List.take_left]
        exact g1
      · obtain ⟨u1, u2⟩ := q2 g hg
        refine ⟨by omega, ?_⟩
        rw [List.drop_append, List.drop_eq_nil_of_le (by omega), List.nil_append, show g.offset - acc - fs1.length = g.offset - (acc + P.cellsOf f.type) by omega]
        exact u2

/-- What can be read as data of such a type is frozen data. -/
theorem open_fit : ∀ (n : Nat) {t : TypeId} {fuel : Nat} {cs : List Value} {x : DataW H × List MemPlace}, plainT P n t = true → DataW.trod enc P w base (fun _ => true) held fuel t cs = some x →
    ∃ fs, FitF P n t fs ∧ LZ (zone0 w) fs cs
  | 0, t, fuel, cs, x, hp, h => by simp [plainT] at hp
  | n + 1, t, fuel, cs, x, hp, h => by
    unfold plainT at hp
    unfold FitF
    split at hp
    · rename_i hu
      obtain ⟨b, rfl, rfl⟩ := DataW.trod_bool hu h
      exact ⟨_, ⟨b, rfl⟩, .one (.bool b)⟩
    · rename_i k hu
      obtain ⟨m, rfl, rfl, hw⟩ := DataW.trod_int hu h
      exact ⟨_, ⟨m, rfl, hw⟩, .one (.int k m)⟩
    · rename_i hu
      obtain ⟨s, rfl, rfl, hw⟩ := DataW.trod_string hu h
      exact ⟨_, ⟨s, rfl, hw⟩, .one (.str s)⟩
    · rename_i e hu
      simp only [Bool.and_eq_true, decide_eq_true_eq] at hp
      obtain ⟨hpos, hp⟩ := hp
      rcases DataW.trod_slice hu h with ⟨rfl, rfl⟩ | ⟨a, len, cap, elems, rest, m, _, rfl, rfl, hb, hl, hm, hlen, hel, hsp, _⟩
      · exact ⟨_, .inl rfl, .one .nilS⟩
      · obtain ⟨hrl, hr⟩ := hsp rfl
        have each : ∀ i, i < len → ∃ r : List FV, FitF P n e r ∧ r.length = P.cellsOf e ∧ ∀ j x, r[j]? = some x → ∃ v, w.cell? (a.add (i * P.cellsOf e + j)) = some v ∧ VZ (zone0 w) x v := by
          intro i hi
          have h1 := hel i hi
          rw [List.getElem?_eq_getElem (by omega), Option.bind_eq_some_iff] at h1
          obtain ⟨cs', hcs, hd⟩ := h1
          obtain ⟨_, hcl, hcell⟩ := World.cells?_some hcs
          obtain ⟨fs, g1, g2⟩ := open_fit n hp hd
          refine ⟨fs, g1, by rw [g2.len, hcl], fun j x hx => ?_⟩
          have hj : j < P.cellsOf e := by rw [← hcl, ← g2.len]; exact (List.getElem?_eq_some_iff.1 hx).1
          have h2 : cs'[j]? = some (cs'[j]'(by omega)) := List.getElem?_eq_getElem (by omega)
          refine ⟨_, ?_, g2.at_ j _ _ hx h2⟩
          rw [← h2, ← hcell j hj, add_add]
        have hspot : cap ≠ 0 → a = ⟨a.block, a.off, none⟩ := by
          intro hc0
          have hcell0 : ∃ v, w.cell? a = some v := by
            by_cases hl0 : 0 < len
            · have h1 := hel 0 hl0
              rw [List.getElem?_eq_getElem (by omega), Option.bind_eq_some_iff] at h1
              obtain ⟨cs', hcs, _⟩ := h1
              obtain ⟨_, hcl, hcell⟩ := World.cells?_some hcs
              have := hcell 0 hpos
              rw [List.getElem?_eq_getElem (by omega)] at this
              exact ⟨_, by simpa [Addr.add] using this⟩
            · have h1 := hr 0 (by omega)
              rw [List.getElem?_eq_getElem (by omega), Option.bind_eq_some_iff] at h1
              obtain ⟨cs', hcs, _⟩ := h1
              obtain ⟨_, hcl, hcell⟩ := World.cells?_some hcs
              have := hcell 0 hpos
              rw [List.getElem?_eq_getElem (by omega)] at this
              have hl0 : len = 0 := by omega
              subst hl0
              exact ⟨_, by simpa [Addr.add] using this⟩
          obtain ⟨v, hv⟩ := hcell0
          have := World.cell?_spot hv
          obtain ⟨b, o, sp⟩ := a
          simp only at this
          rw [this]
        have hrows : ∃ rows : List (List FV), rows.length = len ∧ ∀ i r, rows[i]? = some r → FitF P n e r ∧ r.length = P.cellsOf e ∧ ∀ j x, r[j]? = some x → ∃ v, w.cell? (a.add (i * P.cellsOf e + j)) = some v ∧ VZ (zone0 w) x v := by
          refine ⟨(List.range len).map fun i => if hi : i < len then Classical.choose (each i hi) else [], by simp, fun i r hr => ?_⟩
          rw [List.getElem?_map, Option.map_eq_some_iff] at hr
          obtain ⟨i', hi', rfl⟩ := hr
          obtain ⟨hi, he⟩ := List.getElem?_eq_some_iff.1 hi'
          simp only [List.length_range] at hi
          rw [List.getElem_range] at he
          subst he
          rw [dif_pos hi]
          exact Classical.choose_spec (each i hi)
        obtain ⟨rows, hrl', hrow⟩ := hrows
        refine ⟨[.fz (P.cellsOf e) rows], .inr ⟨rows, rfl, by omega, fun r hr => ?_⟩, ?_⟩
        · obtain ⟨i, hi⟩ := List.getElem?_of_mem hr
          obtain ⟨q1, q2, _⟩ := hrow i r hi
          exact ⟨q2, q1⟩
        · refine .one ?_
          have hq := VZ.fz (Z := zone0 w) (P.cellsOf e) rows a a.block a.off cap (fun i j => (w.cell? (a.add (i * P.cellsOf e + j))).getD undef) hspot (fun r hr => ?_) (by omega) (fun i r j x hi hj => ?_) (fun i r j x hi hj => ?_)
          · rw [hrl'] at hq; exact hq
          · obtain ⟨i, hi⟩ := List.getElem?_of_mem hr
            exact (hrow i r hi).2.1
          · obtain ⟨_, _, q3⟩ := hrow i r hi
            obtain ⟨v, hv, _⟩ := q3 j x hj
            rw [hv]
            have hi' := (List.getElem?_eq_some_iff.1 hi).1
            have ha := hspot (by omega)
            rw [add_none (by rw [ha])] at hv
            rw [Option.getD_some, ← Nat.add_assoc] at *
            exact hv
          · obtain ⟨_, _, q3⟩ := hrow i r hi
            obtain ⟨v, hv, hz⟩ := q3 j x hj
            rw [hv]
            exact hz
    · rename_i fds hu
      simp only [Bool.and_eq_true, List.all_eq_true] at hp
      obtain ⟨xs, m, _, rfl, hlen, hxs, hf⟩ := DataW.trod_struct hu h
      obtain ⟨fs, g1, g2⟩ := open_fields (n := n) hlen fds.toList 0 hp.1 (fun f hfm => by
        obtain ⟨i, hi⟩ := List.getElem?_of_mem hfm
        rw [Array.getElem?_toList] at hi
        have h1 := hf i f hi
        have hlt := (Array.getElem?_eq_some_iff.1 hi).1
        rw [List.getElem?_eq_getElem (by omega)] at h1
        exact open_fit n (hp.2 f hfm) h1)
      rw [List.drop_zero] at g1
      refine ⟨fs, ⟨by rw [g1.len, hlen], fun f hfm => ?_⟩, g1⟩
      have := (g2 f hfm).2
      rwa [Nat.sub_zero] at this
    · cases hp
end
end Go.Proofs.YtbjcghnhhgdopaaGreatDoor.Ai
