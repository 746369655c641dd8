import Derived.Test.YtbjcghnhhgdopaaGreatDoorHead
import Derived.Test.YtbjcghnhhgdopaaGreatDoorIns3
namespace Go.Proofs.YtbjcghnhhgdopaaGreatDoor.Ai
open Go Go.RowKit Go.Proofs
set_option maxRecDepth 100000

/-! The closed run of law 24's awake, in chunks by tables. -/
def W00 : Way := ⟨fun _ => false, fun _ => none⟩
noncomputable def insExt (lo : Nat) (xs : List AV) (H : Heap) : Option (AV × Heap) := match evBody Tryz.prog S0 (regA Tryz.prog S0 (run Tryz.prog S0 W00 3)) 3 lo 110 xs H with
  | some r => some r
  | none => insA lo xs H
noncomputable def Wi : Way := ⟨fun _ => false, fun f => if f = 110 then some insExt else none⟩
theorem wi_ok : ExtOk Tryz.prog S0 Wi := by
  intro f g hg lo xs H r H' h
  unfold Wi at hg
  simp only at hg
  split at hg
  · rename_i hf
    subst hf
    cases hg
    unfold insExt at h
    split at h
    · rename_i r' hr
      cases h
      obtain ⟨q1, q2⟩ := body_ok (reg_ok mixed eqOk (run_ok mixed eqOk none_ok 3)) hr
      exact ⟨q1, fun Z ι w vs hI hG hA => .inl (q2 Z ι w vs hI hG hA)⟩
    · obtain ⟨q1, q2⟩ := insA_ok (S := S0) h
      exact ⟨q1, fun Z ι w vs hI hG hA => .inl (q2 Z ι w vs hI hG hA)⟩
  · cases hg
def iv (n : Int) : FV := .int .i64 n
def nodeF (k : Int) (nm : ByteArray) (lo hi : Int) (kids : FV) : List FV := [iv k, .str nm, iv lo, iv hi, kids]
def lst24 : FV := .fz 5 [nodeF 3 ⟨#[112]⟩ 0 0 .nilS, nodeF 19 ⟨#[]⟩ 0 0 (.fz 1 [[iv 0]]), nodeF 18 ⟨#[]⟩ 0 0 .nilS, nodeF 21 ⟨#[]⟩ 0 0 (.fz 1 [[iv 1], [iv 2]])]
def u64s (l : List Int) : AV := .f (.fz 1 (l.map fun n => [.int .u64 n]))
def i64s (l : List Int) : AV := .f (.fz 1 (l.map fun n => [.int .i64 n]))
def tt : AV := .f (.bool true)
def ff : AV := .f (.bool false)
def n64 (n : Int) : AV := .f (.int .i64 n)
def nS : AV := .f .nilS
def T24a : Tab := [(35, [.f lst24], tt)]
noncomputable def W24a := Wi.add T24a.fns
def T24b : Tab := [(71, [.f lst24], i64s [1,2,3])]
noncomputable def W24b := W24a.add T24b.fns
def T24c : Tab := [(237, [.f lst24], i64s [2]), (181, [.f lst24], i64s [1])]
noncomputable def W24c := W24b.add T24c.fns
def T24d : Tab := [(195, [.f lst24, n64 0, u64s [1]], u64s [2]), (196, [.f lst24, n64 0, u64s [1]], ff), (195, [.f lst24, n64 0, nS], nS), (196, [.f lst24, n64 0, nS], ff), (195, [.f lst24, n64 1, nS], nS), (196, [.f lst24, n64 1, nS], tt)]
noncomputable def W24d := W24c.add T24d.fns
def T24e : Tab := [(12, [], tt)]
noncomputable def W24e := W24d.add T24e.fns
theorem r24a1 : bodyA Tryz.prog S0 Wi 60 35 [.f lst24] = some tt := by kernel_rfl
theorem t24a : ∀ x, x ∈ T24a → ∃ k, bodyA Tryz.prog S0 Wi k x.1 x.2.1 = some x.2.2 := tab_cons 60 r24a1 tab_nil
theorem w24a_ok : ExtOk Tryz.prog S0 W24a := add_ok mixed eqOk wi_ok (tab_known t24a)
theorem r24b1 : bodyA Tryz.prog S0 W24a 60 71 [.f lst24] = some (i64s [1,2,3]) := by kernel_rfl
theorem w24b_ok : ExtOk Tryz.prog S0 W24b := add_ok mixed eqOk w24a_ok (tab_known (tab_cons 60 r24b1 tab_nil))
theorem r24c1 : bodyA Tryz.prog S0 W24b 60 237 [.f lst24] = some (i64s [2]) := by kernel_rfl
theorem r24c2 : bodyA Tryz.prog S0 W24b 60 181 [.f lst24] = some (i64s [1]) := by kernel_rfl
theorem w24c_ok : ExtOk Tryz.prog S0 W24c := add_ok mixed eqOk w24b_ok (tab_known (tab_cons 60 r24c1 (tab_cons 60 r24c2 tab_nil)))
theorem r24d1 : bodyA Tryz.prog S0 W24c 60 195 [.f lst24, n64 0, u64s [1]] = some (u64s [2]) := by kernel_rfl
theorem r24d2 : bodyA Tryz.prog S0 W24c 60 196 [.f lst24, n64 0, u64s [1]] = some ff := by kernel_rfl
theorem r24d3 : bodyA Tryz.prog S0 W24c 60 195 [.f lst24, n64 0, nS] = some nS := by kernel_rfl
theorem r24d4 : bodyA Tryz.prog S0 W24c 60 196 [.f lst24, n64 0, nS] = some ff := by kernel_rfl
theorem r24d5 : bodyA Tryz.prog S0 W24c 60 195 [.f lst24, n64 1, nS] = some nS := by kernel_rfl
theorem r24d6 : bodyA Tryz.prog S0 W24c 60 196 [.f lst24, n64 1, nS] = some tt := by kernel_rfl
theorem w24d_ok : ExtOk Tryz.prog S0 W24d := add_ok mixed eqOk w24c_ok (tab_known (tab_cons 60 r24d1 (tab_cons 60 r24d2 (tab_cons 60 r24d3 (tab_cons 60 r24d4 (tab_cons 60 r24d5 (tab_cons 60 r24d6 tab_nil)))))))
theorem r24e1 : bodyA Tryz.prog S0 W24d 60 12 [] = some tt := by kernel_rfl
theorem w24e_ok : ExtOk Tryz.prog S0 W24e := add_ok mixed eqOk w24d_ok (tab_known (tab_cons 60 r24e1 tab_nil))
/-- law 24's awake, and slices.Insert at buckets: all else by its text. -/
noncomputable def W24 (p : Nat → Bool) : Way := ⟨p, fun f => if f = 12 then W24e.ext 12 else Wi.ext f⟩
theorem w24_ok (p : Nat → Bool) : ExtOk Tryz.prog S0 (W24 p) := by
  intro f g hg
  unfold W24 at hg
  simp only at hg
  split at hg
  · rename_i hf
    subst hf
    exact w24e_ok 12 g hg
  · exact wi_ok f g hg
end Go.Proofs.YtbjcghnhhgdopaaGreatDoor.Ai
