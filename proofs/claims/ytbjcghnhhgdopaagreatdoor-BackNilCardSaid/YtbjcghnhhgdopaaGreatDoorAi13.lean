import Derived.Test.YtbjcghnhhgdopaaGreatDoorAi12
namespace Go.Proofs.YtbjcghnhhgdopaaGreatDoor.Ai
open Go Go.RowKit
set_option linter.unusedSimpArgs false

/-! ## 13. Are two values the same? -/
mutual
def FV.same : FV → FV → Bool
  | .bool a, .bool b => a == b
  | .int k a, .int l b => k == l && a == b
  | .str a, .str b => a.data == b.data
  | .nilP, .nilP => true
  | .nilS, .nilS => true
  | .nilF, .nilF => true
  | .nilI, .nilI => true
  | .fn a, .fn b => a == b
  | .fz s a, .fz t b => s == t && sameRows a b
  | _, _ => false
def sameRows : List (List FV) → List (List FV) → Bool
  | [], [] => true
  | a :: l, b :: m => sameRow a b && sameRows l m
  | _, _ => false
def sameRow : List FV → List FV → Bool
  | [], [] => true
  | a :: l, b :: m => FV.same a b && sameRow l m
  | _, _ => false
end
mutual
theorem FV.same_eq : ∀ (a b : FV), FV.same a b = true → a = b
  | .bool a, b, h => by cases b <;> simp [FV.same] at h; rw [h]
  | .int k a, b, h => by cases b <;> simp [FV.same] at h; rw [h.1, h.2]
  | .str ⟨a⟩, b, h => by cases b <;> simp [FV.same] at h; rename_i b; cases b; simp at h; rw [h]
  | .nilP, b, h => by cases b <;> simp [FV.same] at h; rfl
  | .nilS, b, h => by cases b <;> simp [FV.same] at h; rfl
  | .nilF, b, h => by cases b <;> simp [FV.same] at h; rfl
  | .nilI, b, h => by cases b <;> simp [FV.same] at h; rfl
  | .fn a, b, h => by cases b <;> simp [FV.same] at h; rw [h]
  | .fz s a, b, h => by cases b <;> simp [FV.same] at h; rw [h.1, sameRows_eq _ _ h.2]
theorem sameRows_eq : ∀ (a b : List (List FV)), sameRows a b = true → a = b
  | [], b, h => by cases b <;> simp [sameRows] at h; rfl
  | x :: l, b, h => by cases b <;> simp [sameRows] at h; rw [sameRow_eq _ _ h.1, sameRows_eq _ _ h.2]
theorem sameRow_eq : ∀ (a b : List FV), sameRow a b = true → a = b
  | [], b, h => by cases b <;> simp [sameRow] at h; rfl
  | x :: l, b, h => by cases b <;> simp [sameRow] at h; rw [FV.same_eq _ _ h.1, sameRow_eq _ _ h.2]
end
mutual
theorem FV.same_refl : ∀ (a : FV), FV.same a a = true
  | .bool a => by simp [FV.same]
  | .int k a => by simp [FV.same]
  | .str a => by simp [FV.same]
  | .nilP | .nilS | .nilF | .nilI => rfl
  | .fn a => by simp [FV.same]
  | .fz s a => by simp [FV.same, sameRows_refl a]
theorem sameRows_refl : ∀ (a : List (List FV)), sameRows a a = true
  | [] => rfl
  | x :: l => by simp [sameRows, sameRow_refl x, sameRows_refl l]
theorem sameRow_refl : ∀ (a : List FV), sameRow a a = true
  | [] => rfl
  | x :: l => by simp [sameRow, FV.same_refl x, sameRow_refl l]
end
mutual
def AV.same : AV → AV → Bool
  | .f a, .f b => FV.same a b
  | .ptr a b c, .ptr x y z => a == x && b == y && c == z
  | .fptr r i, .fptr s j => sameRow r s && i == j
  | .row a b c d, .row x y z u => a == x && b == y && c == z && d == u
  | .clo a l, .clo b m => a == b && sameAs l m
  | .agg l, .agg m => sameAs l m
  | .tup l, .tup m => sameAs l m
  | .undef, .undef => true
  | _, _ => false
def sameAs : List AV → List AV → Bool
  | [], [] => true
  | a :: l, b :: m => AV.same a b && sameAs l m
  | _, _ => false
end
mutual
theorem AV.same_eq : ∀ (a b : AV), AV.same a b = true → a = b
  | .f a, b, h => by cases b <;> simp [AV.same] at h; rw [FV.same_eq _ _ h]
  | .ptr .., b, h => by cases b <;> simp [AV.same] at h; obtain ⟨⟨rfl, rfl⟩, rfl⟩ := h; rfl
  | .fptr r i, b, h => by cases b <;> simp [AV.same] at h; rw [sameRow_eq _ _ h.1, h.2]
  | .row .., b, h => by cases b <;> simp [AV.same] at h; obtain ⟨⟨⟨rfl, rfl⟩, rfl⟩, rfl⟩ := h; rfl
  | .clo a l, b, h => by cases b <;> simp [AV.same] at h; rw [h.1, sameAs_eq _ _ h.2]
  | .agg l, b, h => by cases b <;> simp [AV.same] at h; rw [sameAs_eq _ _ h]
  | .tup l, b, h => by cases b <;> simp [AV.same] at h; rw [sameAs_eq _ _ h]
  | .undef, b, h => by cases b <;> simp [AV.same] at h; rfl
theorem sameAs_eq : ∀ (a b : List AV), sameAs a b = true → a = b
  | [], b, h => by cases b <;> simp [sameAs] at h; rfl
  | x :: l, b, h => by cases b <;> simp [sameAs] at h; rw [AV.same_eq _ _ h.1, sameAs_eq _ _ h.2]
end
mutual
theorem AV.same_refl : ∀ (a : AV), AV.same a a = true
  | .f a => by simp [AV.same, FV.same_refl]
  | .ptr .. => by simp [AV.same]
  | .fptr r i => by simp [AV.same, sameRow_refl]
  | .row .. => by simp [AV.same]
  | .clo a l => by simp [AV.same, sameAs_refl l]
  | .agg l => by simp [AV.same, sameAs_refl l]
  | .tup l => by simp [AV.same, sameAs_refl l]
  | .undef => rfl
theorem sameAs_refl : ∀ (a : List AV), sameAs a a = true
  | [] => rfl
  | x :: l => by simp [sameAs, AV.same_refl x, sameAs_refl l]
end
def sameBlk (a b : Blk) : Bool := a.gen == b.gen && a.ro == b.ro && a.sz == b.sz && sameAs a.cells b.cells
theorem sameBlk_eq {a b : Blk} (h : sameBlk a b = true) : a = b := by
  cases a; cases b
  simp [sameBlk] at h
  obtain ⟨⟨⟨rfl, rfl⟩, rfl⟩, h⟩ := h
  rw [sameAs_eq _ _ h]
theorem sameBlk_refl (a : Blk) : sameBlk a a = true := by simp [sameBlk, sameAs_refl]

/-! ## 14. What an operation looks at -/
section
variable {P : Program} {S : Sig} {e e' : Env} {H : Heap}
theorem evArgs_congr : ∀ {l : List Operand}, (∀ x ∈ l, evA S.G e x = evA S.G e' x) → evArgs S e l = evArgs S e' l
  | [], _ => rfl
  | x :: l, h => by simp only [evArgs]; rw [h x List.mem_cons_self, evArgs_congr (fun y hy => h y (List.mem_cons_of_mem _ hy))]
theorem evParts_congr : ∀ {l : List (Nat × Operand)}, (∀ x ∈ l.map (·.2), evA S.G e x = evA S.G e' x) → evParts S e l = evParts S e' l
  | [], _ => rfl
  | (i, x) :: l, h => by simp only [evParts]; rw [h x (by simp), evParts_congr (fun y hy => h y (by simp at hy ⊢; exact .inr hy))]
theorem evO_congr {x : Option Operand} (h : ∀ y ∈ x.toArray.toList, evA S.G e y = evA S.G e' y) : evO S e x = evO S e' x := by
  cases x with
  | none => rfl
  | some y => simp only [evO]; rw [h y (by simp)]
theorem evOp_congr {call : CallA} {lo : Nat} {o : Op} (h : ∀ x ∈ o.operands.toList, evA S.G e x = evA S.G e' x) : evOp P S call lo o e H = evOp P S call lo o e' H := by
  cases o with
  | move x => simp only [evOp, oPick, oAlloc, oBox, oBuild, oBuildSlice, oLoad, oStore, oNil, oBin, oUn, oConv, oFunc, oMake, oSlice, oFieldAddr, oField, oIndexAddr, oIndex, oExtract, oCall, oLen, oAppend, oCopy, oMaxMin]; rw [h x (by simp [Op.operands])]
  | assign x => simp only [evOp, oPick, oAlloc, oBox, oBuild, oBuildSlice, oLoad, oStore, oNil, oBin, oUn, oConv, oFunc, oMake, oSlice, oFieldAddr, oField, oIndexAddr, oIndex, oExtract, oCall, oLen, oAppend, oCopy, oMaxMin]; rw [h x (by simp [Op.operands])]
  | pick c a b => simp only [evOp, oPick, oAlloc, oBox, oBuild, oBuildSlice, oLoad, oStore, oNil, oBin, oUn, oConv, oFunc, oMake, oSlice, oFieldAddr, oField, oIndexAddr, oIndex, oExtract, oCall, oLen, oAppend, oCopy, oMaxMin]; rw [h c (by simp [Op.operands]), h a (by simp [Op.operands]), h b (by simp [Op.operands])]
  | alloc t => rfl
  | box t x => simp only [evOp, oPick, oAlloc, oBox, oBuild, oBuildSlice, oLoad, oStore, oNil, oBin, oUn, oConv, oFunc, oMake, oSlice, oFieldAddr, oField, oIndexAddr, oIndex, oExtract, oCall, oLen, oAppend, oCopy, oMaxMin]; rw [h x (by simp [Op.operands])]
  | build t ps => simp only [evOp, oPick, oAlloc, oBox, oBuild, oBuildSlice, oLoad, oStore, oNil, oBin, oUn, oConv, oFunc, oMake, oSlice, oFieldAddr, oField, oIndexAddr, oIndex, oExtract, oCall, oLen, oAppend, oCopy, oMaxMin]; rw [evParts_congr (e := e) (e' := e') (fun x hx => h x (by simpa [Op.operands] using hx))]
  | buildSlice t n ps => simp only [evOp, oPick, oAlloc, oBox, oBuild, oBuildSlice, oLoad, oStore, oNil, oBin, oUn, oConv, oFunc, oMake, oSlice, oFieldAddr, oField, oIndexAddr, oIndex, oExtract, oCall, oLen, oAppend, oCopy, oMaxMin]; rw [evParts_congr (e := e) (e' := e') (fun x hx => h x (by simpa [Op.operands] using hx))]
  | load t x => simp only [evOp, oPick, oAlloc, oBox, oBuild, oBuildSlice, oLoad, oStore, oNil, oBin, oUn, oConv, oFunc, oMake, oSlice, oFieldAddr, oField, oIndexAddr, oIndex, oExtract, oCall, oLen, oAppend, oCopy, oMaxMin]; rw [h x (by simp [Op.operands])]
  | store t a x => simp only [evOp, oPick, oAlloc, oBox, oBuild, oBuildSlice, oLoad, oStore, oNil, oBin, oUn, oConv, oFunc, oMake, oSlice, oFieldAddr, oField, oIndexAddr, oIndex, oExtract, oCall, oLen, oAppend, oCopy, oMaxMin]; rw [h a (by simp [Op.operands]), h x (by simp [Op.operands])]
  | nilCheck x => simp only [evOp, oPick, oAlloc, oBox, oBuild, oBuildSlice, oLoad, oStore, oNil, oBin, oUn, oConv, oFunc, oMake, oSlice, oFieldAddr, oField, oIndexAddr, oIndex, oExtract, oCall, oLen, oAppend, oCopy, oMaxMin]; rw [h x (by simp [Op.operands])]
  | binOp op t x y t2 => simp only [evOp, oPick, oAlloc, oBox, oBuild, oBuildSlice, oLoad, oStore, oNil, oBin, oUn, oConv, oFunc, oMake, oSlice, oFieldAddr, oField, oIndexAddr, oIndex, oExtract, oCall, oLen, oAppend, oCopy, oMaxMin]; rw [h x (by simp [Op.operands]), h y (by simp [Op.operands])]
  | unOp op t x => simp only [evOp, oPick, oAlloc, oBox, oBuild, oBuildSlice, oLoad, oStore, oNil, oBin, oUn, oConv, oFunc, oMake, oSlice, oFieldAddr, oField, oIndexAddr, oIndex, oExtract, oCall, oLen, oAppend, oCopy, oMaxMin]; rw [h x (by simp [Op.operands])]
  | convert s d x => simp only [evOp, oPick, oAlloc, oBox, oBuild, oBuildSlice, oLoad, oStore, oNil, oBin, oUn, oConv, oFunc, oMake, oSlice, oFieldAddr, oField, oIndexAddr, oIndex, oExtract, oCall, oLen, oAppend, oCopy, oMaxMin]; rw [h x (by simp [Op.operands])]
  | makeFunc fn first captured =>
    cases fn with
    | func f => simp only [evOp, oPick, oAlloc, oBox, oBuild, oBuildSlice, oLoad, oStore, oNil, oBin, oUn, oConv, oFunc, oMake, oSlice, oFieldAddr, oField, oIndexAddr, oIndex, oExtract, oCall, oLen, oAppend, oCopy, oMaxMin]; rw [evArgs_congr (e := e) (e' := e') (fun x hx => h x (by simp [Op.operands]; exact .inr (by simpa using hx)))]
    | _ => rfl
  | makeSlice t x y => simp only [evOp, oPick, oAlloc, oBox, oBuild, oBuildSlice, oLoad, oStore, oNil, oBin, oUn, oConv, oFunc, oMake, oSlice, oFieldAddr, oField, oIndexAddr, oIndex, oExtract, oCall, oLen, oAppend, oCopy, oMaxMin]; rw [h x (by simp [Op.operands]), h y (by simp [Op.operands])]
  | slice t x lo hi mx =>
    simp only [evOp, oPick, oAlloc, oBox, oBuild, oBuildSlice, oLoad, oStore, oNil, oBin, oUn, oConv, oFunc, oMake, oSlice, oFieldAddr, oField, oIndexAddr, oIndex, oExtract, oCall, oLen, oAppend, oCopy, oMaxMin]
    rw [h x (by simp [Op.operands]), evO_congr (e := e) (e' := e') (x := lo) (fun y hy => h y (by simp [Op.operands]; simp at hy; exact .inr (.inl hy))), evO_congr (e := e) (e' := e') (x := hi) (fun y hy => h y (by simp [Op.operands]; simp at hy; exact .inr (.inr (.inl hy)))),
      evO_congr (e := e) (e' := e') (x := mx) (fun y hy => h y (by simp [Op.operands]; simp at hy; exact .inr (.inr (.inr hy))))]
  | fieldAddr s x f => simp only [evOp, oPick, oAlloc, oBox, oBuild, oBuildSlice, oLoad, oStore, oNil, oBin, oUn, oConv, oFunc, oMake, oSlice, oFieldAddr, oField, oIndexAddr, oIndex, oExtract, oCall, oLen, oAppend, oCopy, oMaxMin]; rw [h x (by simp [Op.operands])]
  | field s x f => simp only [evOp, oPick, oAlloc, oBox, oBuild, oBuildSlice, oLoad, oStore, oNil, oBin, oUn, oConv, oFunc, oMake, oSlice, oFieldAddr, oField, oIndexAddr, oIndex, oExtract, oCall, oLen, oAppend, oCopy, oMaxMin]; rw [h x (by simp [Op.operands])]
  | indexAddr t x y => simp only [evOp, oPick, oAlloc, oBox, oBuild, oBuildSlice, oLoad, oStore, oNil, oBin, oUn, oConv, oFunc, oMake, oSlice, oFieldAddr, oField, oIndexAddr, oIndex, oExtract, oCall, oLen, oAppend, oCopy, oMaxMin]; rw [h x (by simp [Op.operands]), h y (by simp [Op.operands])]
  | index t x y => simp only [evOp, oPick, oAlloc, oBox, oBuild, oBuildSlice, oLoad, oStore, oNil, oBin, oUn, oConv, oFunc, oMake, oSlice, oFieldAddr, oField, oIndexAddr, oIndex, oExtract, oCall, oLen, oAppend, oCopy, oMaxMin]; rw [h x (by simp [Op.operands]), h y (by simp [Op.operands])]
  | extract t i => simp only [evOp, oPick, oAlloc, oBox, oBuild, oBuildSlice, oLoad, oStore, oNil, oBin, oUn, oConv, oFunc, oMake, oSlice, oFieldAddr, oField, oIndexAddr, oIndex, oExtract, oCall, oLen, oAppend, oCopy, oMaxMin]; rw [h t (by simp [Op.operands])]
  | call c =>
    obtain ⟨callee, cargs, cats⟩ := c
    cases callee with
    | value f =>
      have ha := evArgs_congr (S := S) (e := e) (e' := e') (l := cargs.toList) (fun x hx => h x (by simp [Op.operands, Call.operands]; exact .inr (by simpa using hx)))
      simp only [evOp, oPick, oAlloc, oBox, oBuild, oBuildSlice, oLoad, oStore, oNil, oBin, oUn, oConv, oFunc, oMake, oSlice, oFieldAddr, oField, oIndexAddr, oIndex, oExtract, oCall, oLen, oAppend, oCopy, oMaxMin]; rw [h f (by simp [Op.operands, Call.operands]), ha]
    | invoke => rfl
    | builtin b =>
      have ha := evArgs_congr (S := S) (e := e) (e' := e') (l := cargs.toList) (fun x hx => h x (by simp [Op.operands, Call.operands]; simpa using hx))
      cases b <;> first | rfl | (simp only [evOp, oPick, oAlloc, oBox, oBuild, oBuildSlice, oLoad, oStore, oNil, oBin, oUn, oConv, oFunc, oMake, oSlice, oFieldAddr, oField, oIndexAddr, oIndex, oExtract, oCall, oLen, oAppend, oCopy, oMaxMin]; rw [ha])
  | _ => rfl
/-- Operations whose value hangs on the heap, though they write nothing. -/
def readsH : Op → Bool
  | .load .. | .slice .. => true
  | _ => false
/-- Operations that only make a block. -/
def makesH : Op → Bool
  | .alloc _ | .box .. | .buildSlice .. | .makeSlice .. => true
  | _ => false
/-- Operations that may write what is there. -/
def chainH : Op → Bool
  | .store .. => true
  | .call c => match c.callee with
    | .builtin .len | .builtin .max | .builtin .min => false
    | _ => true
  | _ => false
/-- What neither reads, makes nor writes is the same over every heap. -/
theorem evOp_still {call : CallA} {lo : Nat} {o : Op} {r : AV} {H1 H2 : Heap} (h : evOp P S call lo o e H = some (r, H1)) (hm : makesH o = false) (hc : chainH o = false) : H1 = H ∧ (readsH o = false → evOp P S call lo o e H2 = some (r, H2)) := by
  have q : ∀ {α : Type} {x : Option α} {f : α → AV}, (x.map fun y => (f y, H)) = some (r, H1) → H1 = H ∧ (x.map fun y => (f y, H2)) = some (r, H2) := by
    intro α x f h
    rw [Option.map_eq_some_iff] at h
    obtain ⟨y, hy, h⟩ := h
    cases h
    exact ⟨rfl, by rw [hy]; rfl⟩
  have q2 : ∀ {α : Type} {x : Option α} {f : α → Option AV}, (x.bind fun y => (f y).map (·, H)) = some (r, H1) → H1 = H ∧ (x.bind fun y => (f y).map (·, H2)) = some (r, H2) := by
    intro α x f h
    rw [Option.bind_eq_some_iff] at h
    obtain ⟨y, hy, h⟩ := h
    obtain ⟨g1, g2⟩ := q (f := id) h
    exact ⟨g1, by rw [hy]; exact g2⟩
  cases o with
  | move x => exact ⟨(q (f := id) h).1, fun _ => (q (f := id) h).2⟩
  | assign x => exact ⟨(q (f := id) h).1, fun _ => (q (f := id) h).2⟩
  | pick c a b =>
    simp only [evOp, oPick, oAlloc, oBox, oBuild, oBuildSlice, oLoad, oStore, oNil, oBin, oUn, oConv, oFunc, oMake, oSlice, oFieldAddr, oField, oIndexAddr, oIndex, oExtract, oCall, oLen, oAppend, oCopy, oMaxMin] at h ⊢
    split at h
    · exact ⟨(q (f := id) h).1, fun _ => (q (f := id) h).2⟩
    · cases h
  | alloc t => cases hm
  | box t x => cases hm
  | buildSlice t n ps => cases hm
  | makeSlice t x y => cases hm
  | build t ps => exact ⟨(q2 h).1, fun _ => (q2 h).2⟩
  | load t x => exact ⟨(q2 h).1, fun hr => by cases hr⟩
  | store => cases hc
  | nilCheck x => exact ⟨(q2 h).1, fun _ => (q2 h).2⟩
  | binOp op t x y t2 =>
    simp only [evOp, oPick, oAlloc, oBox, oBuild, oBuildSlice, oLoad, oStore, oNil, oBin, oUn, oConv, oFunc, oMake, oSlice, oFieldAddr, oField, oIndexAddr, oIndex, oExtract, oCall, oLen, oAppend, oCopy, oMaxMin] at h ⊢
    split at h
    · exact ⟨(q (f := id) h).1, fun _ => (q (f := id) h).2⟩
    · cases h
  | unOp op t x => exact ⟨(q2 h).1, fun _ => (q2 h).2⟩
  | convert s d x => exact ⟨(q2 h).1, fun _ => (q2 h).2⟩
  | makeFunc fn first captured =>
    cases fn <;> simp only [evOp, oPick, oAlloc, oBox, oBuild, oBuildSlice, oLoad, oStore, oNil, oBin, oUn, oConv, oFunc, oMake, oSlice, oFieldAddr, oField, oIndexAddr, oIndex, oExtract, oCall, oLen, oAppend, oCopy, oMaxMin, reduceCtorEq] at h ⊢
    split at h
    · rename_i h0
      rw [if_pos h0]
      exact ⟨(q h).1, fun _ => (q h).2⟩
    · cases h
  | slice t x lo hi mx =>
    simp only [evOp, oPick, oAlloc, oBox, oBuild, oBuildSlice, oLoad, oStore, oNil, oBin, oUn, oConv, oFunc, oMake, oSlice, oFieldAddr, oField, oIndexAddr, oIndex, oExtract, oCall, oLen, oAppend, oCopy, oMaxMin] at h
    split at h
    · exact ⟨(q (f := id) h).1, fun hr => by cases hr⟩
    · cases h
  | fieldAddr s x f => exact ⟨(q2 h).1, fun _ => (q2 h).2⟩
  | field s x f => exact ⟨(q2 h).1, fun _ => (q2 h).2⟩
  | indexAddr t x y =>
    simp only [evOp, oPick, oAlloc, oBox, oBuild, oBuildSlice, oLoad, oStore, oNil, oBin, oUn, oConv, oFunc, oMake, oSlice, oFieldAddr, oField, oIndexAddr, oIndex, oExtract, oCall, oLen, oAppend, oCopy, oMaxMin] at h ⊢
    split at h
    · exact ⟨(q (f := id) h).1, fun _ => (q (f := id) h).2⟩
    · cases h
  | index t x y =>
    simp only [evOp, oPick, oAlloc, oBox, oBuild, oBuildSlice, oLoad, oStore, oNil, oBin, oUn, oConv, oFunc, oMake, oSlice, oFieldAddr, oField, oIndexAddr, oIndex, oExtract, oCall, oLen, oAppend, oCopy, oMaxMin] at h ⊢
    split at h
    · exact ⟨(q (f := id) h).1, fun _ => (q (f := id) h).2⟩
    · cases h
  | extract t i =>
    simp only [evOp, oPick, oAlloc, oBox, oBuild, oBuildSlice, oLoad, oStore, oNil, oBin, oUn, oConv, oFunc, oMake, oSlice, oFieldAddr, oField, oIndexAddr, oIndex, oExtract, oCall, oLen, oAppend, oCopy, oMaxMin] at h ⊢
    split at h
    · exact ⟨(q (f := id) h).1, fun _ => (q (f := id) h).2⟩
    · cases h
  | call c =>
    obtain ⟨callee, cargs, cats⟩ := c
    cases callee with
    | builtin b =>
      cases b <;> simp only [evOp, oPick, oAlloc, oBox, oBuild, oBuildSlice, oLoad, oStore, oNil, oBin, oUn, oConv, oFunc, oMake, oSlice, oFieldAddr, oField, oIndexAddr, oIndex, oExtract, oCall, oLen, oAppend, oCopy, oMaxMin, reduceCtorEq] at h ⊢ <;> simp only [chainH, reduceCtorEq] at hc
      case len =>
        split at h
        · exact ⟨(q h).1, fun _ => (q h).2⟩
        · cases h
      case max => exact ⟨(q2 h).1, fun _ => (q2 h).2⟩
      case min => exact ⟨(q2 h).1, fun _ => (q2 h).2⟩
    | _ => simp [chainH] at hc
  | _ => simp [evOp] at h
end
end Go.Proofs.YtbjcghnhhgdopaaGreatDoor.Ai
