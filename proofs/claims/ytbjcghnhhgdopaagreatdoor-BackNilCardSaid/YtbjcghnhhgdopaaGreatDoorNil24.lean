import Derived.Test.YtbjcghnhhgdopaaGreatDoorAw24
namespace Go.Proofs.YtbjcghnhhgdopaaGreatDoor.Ai
open Go Go.RowKit Go.Proofs
set_option maxRecDepth 100000
theorem backNil_run (d : Int) (v : FV) : (evBody Tryz.prog S0 (regA Tryz.prog S0 (run Tryz.prog S0 (W24 fun _ => false) 20)) 20 0 6 [.f (.int .u64 d), .f v] []).map (·.1) = some (.f (.bool true)) := by kernel_rfl
theorem backNil_contract (vs : List AV) (h : FitAll Tryz.prog 8 Tryz.f6.params.toList vs) : ∃ k H', evBody Tryz.prog S0 (regA Tryz.prog S0 (run Tryz.prog S0 (W24 fun _ => false) k)) k 0 6 vs [] = some (.f (.bool true), H') := by
  have hp : Tryz.f6.params.toList = [43, 47] := by kernel_rfl
  rw [hp] at h
  obtain ⟨a, l, rfl, h1, h⟩ := h.head
  obtain ⟨b, l, rfl, h2, h⟩ := h.head
  obtain rfl := h.none
  unfold FitA at h1 h2
  rw [Tryz.underlying43] at h1
  rw [Tryz.underlying47] at h2
  obtain ⟨x, rfl, h1⟩ := h1
  obtain ⟨y, rfl, h2⟩ := h2
  unfold FitF at h1
  rw [Tryz.underlying43] at h1
  obtain ⟨m, hm, _⟩ := h1
  cases hm
  have := backNil_run m y
  rw [Option.map_eq_some_iff] at this
  obtain ⟨⟨r, H'⟩, h3, h4⟩ := this
  simp only at h4
  subst h4
  exact ⟨20, H', h3⟩
end Go.Proofs.YtbjcghnhhgdopaaGreatDoor.Ai
