/- BackNil: a Back that is none answers false, tells no bucket, keeps nothing, its copy is none, and the program wakes: for every time and every list of words. No condition of ours. -/
import Derived.Test.YtbjcghnhhgdopaaGreatDoorNil24
import Derived.Test.YtbjcghnhhgdopaaGreatDoorTie
import Derived.Test.YtbjcghnhhgdopaaGreatDoorCards
import Derived.SevenTiedAt
import Derived.Test.YtbjcghnhhgdopaaGreatDoorRowNilA
import Derived.Test.YtbjcghnhhgdopaaGreatDoorRowNilB
namespace Go.Proofs.YtbjcghnhhgdopaaGreatDoor
open Go Go.RowKit Go.ChangeShapes Go.WideShapes
set_option maxRecDepth 100000 in
theorem backNil_lifted {W : Ai.Way} (hX : Ai.ExtOk Tryz.prog Ai.S0 W)
    (contract : ∀ vs, Ai.FitAll Tryz.prog 8 Tryz.f6.params.toList vs → ∃ k H', Ai.evBody Tryz.prog Ai.S0 (Ai.regA Tryz.prog Ai.S0 (Ai.run Tryz.prog Ai.S0 W k)) k 0 6 vs [] = some (.f (.bool true), H'))
    (os : Os) (started : os.Started) (H : Type) (enc : TypeId × Value → H) :
    ReturnsInHanded {} Tryz.checked os 6 .any (fun w xs => (Rows.backNilSpec.pre enc Tryz.prog Tryz.f6 [] false w xs ∧ laidMetH Tryz.prog Rows.backNilRow.laid w) ∧ sizedMet enc Tryz.prog Tryz.f6 (OpenSpec.ofChange Rows.backNilSpec) false w xs)
      (Rows.backNilSpec.post enc Tryz.prog Tryz.f6 false true false false) := by
  refine Ai.lifted_of_run (C := Tryz.checked) (n := 8) (rt := 4) Ai.own started (by kernel_rfl) Tryz.func6
    (ChangeSpec.witness_at (enc := enc) (C := Tryz.checked) (os := os) (X := fun w _ => laidMetH Tryz.prog Rows.backNilRow.laid w) false (Ai.laidWorld os) #[.int .u64 0, .slice none 0 0] 8 rfl (by kernel_rfl) (by kernel_rfl) (by kernel_rfl) (by kernel_rfl) (by kernel_rfl) (Ai.laidWorld_met os _))
    ⟨rfl, fun ds hd => ?_⟩ Ai.laidOut ?_ ?_ (by kernel_rfl) (by kernel_rfl) Ai.mixed Ai.eqOk hX Ai.globOk contract
  · match ds, hd with
    | [_, _], _ => rfl
  · intro t ht
    have h := (show Tryz.f6.params.toList.all (fun t => Tryz.prog.readableRec t && decide (t < Tryz.prog.types.size)) = true by kernel_rfl)
    have := List.all_eq_true.1 h t ht
    simp only [Bool.and_eq_true, decide_eq_true_eq] at this
    exact this
  · intro t ht
    exact List.all_eq_true.1 (show Tryz.f6.params.toList.all (fun t => Ai.plainT Tryz.prog 8 t) = true by kernel_rfl) t ht
theorem backNil_holds : Rows.BackNilSaid :=
  OpenClaim.holds_of_wide 6 Tryz.f6 rfl rfl rfl rfl rfl rfl rfl ⟨rfl, rfl, rfl, rfl, rfl⟩ rfl rfl rfl rfl rfl named Tryz.func6 closed inst wrap
    (fun os started H enc _ => backNil_lifted (Ai.w24_ok _) Ai.backNil_contract os started H enc)
theorem backNil_card : Rows.BackNilCardSaid :=
  Claim7.holds_tied_plain_at .later [] [.data] true Rows.backNilCard.stood.harness false
    backNil_holds (fun _ h => by cases h) (by kernel_rfl) (fun _ h => by cases h) backNil_row_tie rfl ⟨rfl, rfl⟩ (by kernel_rfl) rfl
    (fun f fn hf hfn => by
      obtain rfl : f = 6 := Option.some.inj ((show Tryz.prog.funcNamed "watchglass/watchglasslaw24.BackNil" = some 6 by kernel_rfl).symm.trans hf) |>.symm
      obtain rfl : fn = Tryz.f6 := (Option.some.inj (Tryz.func6.symm.trans hfn)).symm
      exact ⟨by kernel_rfl, fun j t ht => by
        have h := (show Tryz.f6.params.toList.all (fun t => !Tryz.prog.wantsStandIn t) = true by kernel_rfl)
        have := List.all_eq_true.1 h t (by rw [← Array.getElem?_toList] at ht; exact List.mem_of_getElem? ht)
        simp only [Bool.not_eq_true'] at this
        exact this⟩)
    (by kernel_rfl)
#print axioms backNil_card
end Go.Proofs.YtbjcghnhhgdopaaGreatDoor
