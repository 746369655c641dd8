import Derived.Test.YtbjcghnhhgdopaaGreatDoorAi21
import Derived.Test.YtbjcghnhhgdopaaGreatDoorFacts
import Derived.Test.YtbjcghnhhgdopaaGreatDoorRows
import Derived.LaidLaws
import Derived.Stop.Joined
namespace Go.Proofs.YtbjcghnhhgdopaaGreatDoor.Ai
open Go Go.RowKit Go.ChangeShapes Go.WideShapes

/-! The seat's closed facts for a law's row: the listed array, the structs that '==' takes. -/
def tabZ : List Int := [0, 1, 56, 2, 57, 49, 28, 3, 61, 58, 42, 50, 38, 29, 17, 4, 62, 47, 59, 36, 45, 43, 51, 22, 53, 39, 33, 30, 24, 18, 12, 5, 63, 55, 48, 27, 60, 41, 37, 16, 46, 35, 44, 21, 52, 32, 23, 11, 54, 26, 40, 15, 34, 20, 31, 10, 25, 14, 19, 9, 13, 8, 7, 6]
def S0 : Sig := ⟨fun g => if g = 0 then some (tabZ.map fun z => .int .u8 z) else none, fun t => if t = 25 then some 2 else none⟩
theorem own : ownKnob Tryz.prog.godebug = none := by kernel_rfl
theorem laidOut : laidOutB Tryz.prog = true := by kernel_rfl
theorem mixed : Tryz.prog.follows .mixedOrders = true := by kernel_rfl
theorem eqOk : EqOk Tryz.prog S0.eqT := by
  intro t n h x y ps qs xs ys Z ι r w ha hb he hx hy
  by_cases ht : t = 25
  · subst ht
    have hn : n = 2 := by simpa [S0] using h.symm
    subst hn
    exact eq_struct Tryz.underlying25 (by kernel_rfl) (by kernel_rfl) (by kernel_rfl) x y ps qs xs ys Z ι r w ha hb he hx hy
  · simp [S0, ht] at h
abbrev laid : List (String × DataW Unit) := [("math/bits.deBruijn64tab", Rows.laid_math_bits_deBruijn64tab)]
theorem globOk (w : World) (h : laidMetH Tryz.prog laid w) : GlobR S0.G (zone0 w) := by
  have h' : laidMet Tryz.prog laid w := h
  intro g r hg ι
  by_cases h0 : g = 0
  · subst h0
    have hr : r = tabZ.map fun z => .int .u8 z := by simpa [S0] using hg.symm
    subst hr
    exact glob_ints h' (name := "math/bits.deBruijn64tab") (k := .u8) tabZ (by exact List.mem_singleton.2 rfl) (g := 0) (t := 298) (by kernel_rfl) (by kernel_rfl) Tryz.underlying298 (by kernel_rfl) (by kernel_rfl) ι
  · simp [S0, h0] at hg
/-- A world that meets the condition. -/
noncomputable def laidWorld (os : Os) : World :=
  let w0 := World.holding Tryz.prog os ⟨#[], #[], []⟩
  { w0 with heap := w0.heap.modify 0 fun
      | .cells _ t frozen => .cells (tabZ.map fun z => Value.int .u8 z).toArray t frozen
      | o => o }
theorem laidWorld_met (os : Os) (args : Array Value) : laidMetH Tryz.prog laid ((laidWorld os).forCall (fun _ _ => 0) ⟨#[], args, []⟩).memory :=
  show laidMet Tryz.prog laid _ from laidMet_of_run (ps := MemPlace.row ⟨0, 0, none⟩ 64) 8 (by kernel_rfl) (by kernel_rfl) (by kernel_rfl)
end Go.Proofs.YtbjcghnhhgdopaaGreatDoor.Ai
