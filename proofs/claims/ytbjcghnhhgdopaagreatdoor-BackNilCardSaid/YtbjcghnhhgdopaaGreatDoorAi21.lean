import Derived.Test.YtbjcghnhhgdopaaGreatDoorAi20
import Derived.Laws.StructEq
namespace Go.Proofs.YtbjcghnhhgdopaaGreatDoor.Ai
open Go Go.RowKit

/-! ## 21. '==' of structs of whole numbers -/
section
variable {P : Program}
def intFieldsB (P : Program) : List Field → Nat → Nat → Bool
  | [], i, n => i == n
  | f :: fs, i, n => f.name != "_" && f.offset == i && (match P.underlying f.type with | some (.int _) => true | _ => false) && intFieldsB P fs (i + 1) n
theorem part_int {w : World} {t : TypeId} {k : IntKind} (h : P.underlying t = some (.int k)) {xs : Array Value} {i : Nat} {v : Value} (hv : xs[i]? = some v) : (part t xs i).run P w = .ok v w := by
  simp [part, isAgg, run_underlying h, hv]
theorem eqf_ints {Z : Zone} {ι : Inj} {w : World} {d : Nat} {as bs : List AV} {xs ys : Array Value} (hx : AVR Z ι (.agg as) (.agg xs)) (hy : AVR Z ι (.agg bs) (.agg ys)) {n : Nat} (ha : as.length = n) (hb : bs.length = n) :
    ∀ (fs : List Field) (i : Nat) (r : Bool), intFieldsB P fs i n = true → eqCells (as.drop i) (bs.drop i) = some r → (Op.eqFields (d + 1) xs ys fs).run P w = .ok r w
  | [], i, r, hf, h => by
    simp only [intFieldsB, beq_iff_eq] at hf
    rw [List.drop_eq_nil_of_le (by omega), List.drop_eq_nil_of_le (by omega)] at h
    simp only [eqCells, Option.some.injEq] at h
    subst h
    simp [Op.eqFields]
  | f :: fs, i, r, hf, h => by
    simp only [intFieldsB, Bool.and_eq_true, bne_iff_ne, ne_eq, beq_iff_eq] at hf
    obtain ⟨⟨⟨hn, ho⟩, hk⟩, hf⟩ := hf
    split at hk
    · rename_i k hu
      have hlt : i < n := by
        have : ∀ (fs : List Field) i, intFieldsB P fs i n = true → i ≤ n := by
          intro fs
          induction fs with
          | nil => intro i h; simp only [intFieldsB, beq_iff_eq] at h; omega
          | cons f fs ih => intro i h; simp only [intFieldsB, Bool.and_eq_true] at h; have := ih _ h.2; omega
        have := this _ _ hf
        omega
      rw [List.drop_eq_getElem_cons (l := as) (i := i) (by omega), List.drop_eq_getElem_cons (l := bs) (i := i) (by omega)] at h
      cases hx with
      | agg _ _ hxl hxa =>
        cases hy with
        | agg _ _ hyl hya =>
          have hx1 : xs[i]? = some (xs[i]'(by omega)) := Array.getElem?_eq_getElem _
          have hy1 : ys[i]? = some (ys[i]'(by omega)) := Array.getElem?_eq_getElem _
          have gx := hxa i _ _ (List.getElem?_eq_getElem (by omega)) hx1
          have gy := hya i _ _ (List.getElem?_eq_getElem (by omega)) hy1
          generalize as[i] = a at h gx
          generalize bs[i] = b at h gy
          unfold eqCells at h
          split at h
          · rename_i he; cases he
          · rename_i k1 a1 l1 k2 b1 l2 e1 e2
            cases e1
            cases e2
            split at h
            · rename_i hkk
              subst hkk
              rw [Option.map_eq_some_iff] at h
              obtain ⟨r1, h1, rfl⟩ := h
              have ih := eqf_ints (d := d) (w := w) (.agg _ _ hxl hxa) (.agg _ _ hyl hya) ha hb fs (i + 1) r1 hf h1
              cases gx with
              | f _ _ gx =>
                cases gy with
                | f _ _ gy =>
                  generalize hX : xs[i]'_ = X at hx1 gx
                  generalize hY : ys[i]'_ = Y at hy1 gy
                  cases gx
                  cases gy
                  rw [← ho] at hx1 hy1
                  rw [Op.eqFields, if_pos hn]
                  simp only [Sem.run_bind, part_int hu hx1, part_int hu hy1, Result.andThen_ok, run_equalIn_int w d f.type _ _ _ _ hu, Sem.run_ite]
                  by_cases hab : a1 = b1
                  · simp [hab, ih]
                  · simp [hab]
            · cases h
          · cases h
    · cases hk
theorem eq_struct {t n : Nat} {fs : Array Field} (hu : P.underlying t = some (.struct fs)) (hf : intFieldsB P fs.toList 0 n = true) (hp : P.stoodInHeld t = false) (hm : P.eqGuardType P.depth t = false)
    (x y : Operand) (as bs : List AV) (xs ys : Array Value) (Z : Zone) (ι : Inj) (r : Bool) (w : World) (ha : as.length = n) (hb : bs.length = n) (he : eqCells as bs = some r) (hx : AVR Z ι (.agg as) (.agg xs)) (hy : AVR Z ι (.agg bs) (.agg ys)) :
    (do eqGuard .eql t x y (.agg xs) (.agg ys); binOp .eql t (.agg xs) (.agg ys) : Sem Value).run P w = .ok (.bool r) w ∧
    (do eqGuard .neq t x y (.agg xs) (.agg ys); binOp .neq t (.agg xs) (.agg ys) : Sem Value).run P w = .ok (.bool !r) w := by
  have hF : P.fieldsOf t = fs := by simp [Program.fieldsOf, hu]
  have h1 : (Op.equalIn (9998 + 1 + 1) t (.agg xs) (.agg ys)).run P w = .ok r w := by
    rw [run_equalIn_struct (P := P) w _ t xs ys (by rw [hF]; exact hu) hp, hF]
    exact eqf_ints (d := 9998) hx hy ha hb fs.toList 0 r hf (by simpa using he)
  constructor
  · rw [Sem.run_bind, run_eqGuard_agg w .eql t x y xs ys hm, Result.andThen_ok, run_eql_struct]
    rw [show (10000 : Nat) = 9998 + 1 + 1 from rfl, h1]
    rfl
  · rw [Sem.run_bind, run_eqGuard_agg w .neq t x y xs ys hm, Result.andThen_ok, run_neq_struct]
    rw [show (10000 : Nat) = 9998 + 1 + 1 from rfl, h1]
    rfl
end
end Go.Proofs.YtbjcghnhhgdopaaGreatDoor.Ai
