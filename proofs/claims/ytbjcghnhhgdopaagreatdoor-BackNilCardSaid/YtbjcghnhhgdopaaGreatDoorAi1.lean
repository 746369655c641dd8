import Derived.Orders
import Derived.Below
import Derived.WalkKit
namespace Go.Proofs.YtbjcghnhhgdopaaGreatDoor.Ai
open Go Go.RowKit

/-! ## 1. Data, abstract values, the abstract heap -/
/-- Frozen data: nothing in it can be written any more. -/
inductive FV where
  | bool (b : Bool)
  | int (k : IntKind) (n : Int)
  | str (s : ByteArray)
  | nilP | nilS | nilF | nilI
  | fn (f : Nat)
  | fz (sz : Nat) (rows : List (List FV))
  deriving Inhabited
/-- Values of the abstract run. -/
inductive AV where
  | f (v : FV)
  | ptr (id gen off : Nat)
  | fptr (row : List FV) (j : Nat)
  | row (id gen off len : Nat)
  | clo (fn : Nat) (captured : List AV)
  | agg (cs : List AV)
  | tup (vs : List AV)
  | undef
  deriving Inhabited
structure Blk where
  gen : Nat
  ro : Bool
  sz : Nat
  cells : List AV
  deriving Inhabited
abbrev Heap := List Blk
abbrev Env := List AV

def AV.isCell : AV → Bool
  | .agg _ | .tup _ | .undef => false
  | _ => true
def AV.cells : AV → List AV
  | .agg cs => cs
  | v => [v]

/-! ## 2. What an abstract value stands for -/
structure Loc where
  B : Nat
  sh : Nat
  gen : Nat
  sz : Nat
  size : Nat
  tot : Nat
abbrev Zone := Nat → Nat → Option Value
abbrev Inj := Nat → Option Loc

inductive VZ (Z : Zone) : FV → Value → Prop
  | bool (b) : VZ Z (.bool b) (.bool b)
  | int (k n) : VZ Z (.int k n) (.int k n)
  | str (s) : VZ Z (.str s) (.string s)
  | nilP : VZ Z .nilP (.pointer none)
  | nilS : VZ Z .nilS (.slice none 0 0)
  | nilF : VZ Z .nilF .nilFunc
  | nilI : VZ Z .nilI .nilIface
  | fn (f) : VZ Z (.fn f) (.func (.func f) #[] #[])
  | fz (sz rows A b o c) (vs : Nat → Nat → Value) (hA : c ≠ 0 → A = ⟨b, o, none⟩) (hsz : ∀ r, r ∈ rows → r.length = sz) (hc : rows.length ≤ c)
      (h1 : ∀ i r j x, rows[i]? = some r → r[j]? = some x → Z b (o + i * sz + j) = some (vs i j))
      (h2 : ∀ i r j x, rows[i]? = some r → r[j]? = some x → VZ Z x (vs i j)) : VZ Z (.fz sz rows) (.slice (some A) rows.length c)

inductive AVR (Z : Zone) (ι : Inj) : AV → Value → Prop
  | f (v x) (h : VZ Z v x) : AVR Z ι (.f v) x
  | ptr (id g off A) (L : Loc) (hι : ι id = some L) (hg : g ≤ L.gen) (hA : g = L.gen → A = ⟨L.B, L.sh + off, none⟩) : AVR Z ι (.ptr id g off) (.pointer (some A))
  | fptr (row j b o) (vs : Nat → Value) (h1 : ∀ i x, row[j + i]? = some x → Z b (o + i) = some (vs i)) (h2 : ∀ i x, row[j + i]? = some x → VZ Z x (vs i)) : AVR Z ι (.fptr row j) (.pointer (some ⟨b, o, none⟩))
  | row (id g off n A c) (L : Loc) (hsp : A.spot = none) (hι : ι id = some L) (hg : g ≤ L.gen)
      (hA : g = L.gen → (c ≠ 0 → A = ⟨L.B, L.sh + off, none⟩) ∧ L.size ≤ off + c * L.sz ∧ L.sh + off + c * L.sz ≤ L.tot ∧ off + n * L.sz ≤ L.size ∧ n ≤ c) : AVR Z ι (.row id g off n) (.slice (some A) n c)
  | clo (fn cs vs) (hl : cs.length = vs.size) (h : ∀ (i : Nat) (a : AV) (v : Value), cs[i]? = some a → vs[i]? = some v → AVR Z ι a v) : AVR Z ι (.clo fn cs) (.func (.func fn) #[] vs)
  | agg (cs vs) (hl : cs.length = vs.size) (h : ∀ (i : Nat) (a : AV) (v : Value), cs[i]? = some a → vs[i]? = some v → AVR Z ι a v) : AVR Z ι (.agg cs) (.agg vs)
  | tup (cs vs) (hl : cs.length = vs.size) (h : ∀ (i : Nat) (a : AV) (v : Value), cs[i]? = some a → vs[i]? = some v → AVR Z ι a v) : AVR Z ι (.tup cs) (.tuple vs)
  | undef : AVR Z ι .undef undef

theorem VZ.mono {Z Z' : Zone} (hz : ∀ b o v, Z b o = some v → Z' b o = some v) {x : FV} {v : Value} (h : VZ Z x v) : VZ Z' x v := by
  induction h with
  | fz sz rows A b o c vs hA hsz hc h1 h2 ih => exact .fz sz rows A b o c vs hA hsz hc (fun i r j x hi hj => hz _ _ _ (h1 i r j x hi hj)) ih
  | bool => exact .bool _
  | int => exact .int _ _
  | str => exact .str _
  | nilP => exact .nilP
  | nilS => exact .nilS
  | nilF => exact .nilF
  | nilI => exact .nilI
  | fn => exact .fn _

/-- What the abstract state says of the world. -/
structure BlkR (Z : Zone) (ι : Inj) (w : World) (k : Blk) (L : Loc) : Prop where
  gen : k.gen = L.gen
  size : k.cells.length = L.size
  sz : k.sz = L.sz
  obj : ∃ arr e, w.heap[L.B]? = some (.cells arr e (0, 0)) ∧ arr.size = L.tot ∧ ∀ j a, k.cells[j]? = some a → ∃ v, arr[L.sh + j]? = some v ∧ AVR Z ι a v
  fits : L.sh + L.size ≤ L.tot
  one : ∀ a, a ∈ k.cells → a.isCell = true
  mutb : k.ro = false → ∀ o, Z L.B o = none
  froz : k.ro = true → ∀ j a, k.cells[j]? = some a → ∃ fv v, a = .f fv ∧ Z L.B (L.sh + j) = some v ∧ VZ Z fv v
structure Inv (H : Heap) (Z : Zone) (ι : Inj) (w : World) : Prop where
  zone : ∀ b o v, Z b o = some v → w.cell? ⟨b, o, none⟩ = some v
  blk : ∀ id k L, H[id]? = some k → ι id = some L → BlkR Z ι w k L
  dom : ∀ id L, ι id = some L → id < H.length
  inj : ∀ i j L M, ι i = some L → ι j = some M → L.B = M.B → i = j

/-- From one moment to a later one. -/
structure Ext (H : Heap) (Z : Zone) (ι : Inj) (w : World) (H' : Heap) (Z' : Zone) (ι' : Inj) (w' : World) : Prop where
  hlen : H.length ≤ H'.length
  old : ∀ id L', ι' id = some L' → (∃ L, ι id = some L) ∨ H.length ≤ id
  os : w'.os = w.os
  tape : w'.tape = w.tape
  output : w'.output = w.output
  size : w.heap.size ≤ w'.heap.size
  zone : ∀ b o v, Z b o = some v → Z' b o = some v
  inj : ∀ id L, ι id = some L → ∃ L', ι' id = some L' ∧ L.gen ≤ L'.gen ∧ (L'.gen = L.gen → L' = L)
  fresh : ∀ id L', ι' id = some L' → (∃ L, ι id = some L ∧ L.B = L'.B) ∨ w.heap.size ≤ L'.B
  znew : ∀ b o v, Z' b o = some v → Z b o = some v ∨ (∃ id L, ι id = some L ∧ L.B = b) ∨ w.heap.size ≤ b
  keep : ∀ B, B < w.heap.size → (∀ id L, ι id = some L → L.B ≠ B) → w'.heap[B]? = w.heap[B]?

theorem Ext.refl (H Z ι w) : Ext H Z ι w H Z ι w :=
  ⟨Nat.le_refl _, fun _ L h => .inl ⟨L, h⟩, rfl, rfl, rfl, Nat.le_refl _, fun _ _ _ h => h, fun _ L h => ⟨L, h, Nat.le_refl _, fun _ => rfl⟩, fun _ L h => .inl ⟨L, h, rfl⟩, fun _ _ _ h => .inl h, fun _ _ _ => rfl⟩
theorem Ext.trans {H H' H'' : Heap} {Z Z' Z'' : Zone} {ι ι' ι'' : Inj} {w w' w'' : World} (h : Ext H Z ι w H' Z' ι' w') (k : Ext H' Z' ι' w' H'' Z'' ι'' w'') : Ext H Z ι w H'' Z'' ι'' w'' where
  hlen := Nat.le_trans h.hlen k.hlen
  old := fun id L'' h'' => by
    rcases k.old id L'' h'' with ⟨L', h'⟩ | hh
    · exact h.old id L' h'
    · exact .inr (Nat.le_trans h.hlen hh)
  os := k.os.trans h.os
  tape := k.tape.trans h.tape
  output := k.output.trans h.output
  size := Nat.le_trans h.size k.size
  zone := fun b o v hv => k.zone _ _ _ (h.zone _ _ _ hv)
  inj := fun id L hL => by
    obtain ⟨L1, h1, g1, e1⟩ := h.inj id L hL
    obtain ⟨L2, h2, g2, e2⟩ := k.inj id L1 h1
    refine ⟨L2, h2, Nat.le_trans g1 g2, fun e => ?_⟩
    have hg : L1.gen = L.gen := by omega
    have e3 := e1 hg
    have e4 := e2 (by omega)
    rw [e4, e3]
  fresh := fun id L'' h'' => by
    rcases k.fresh id L'' h'' with ⟨L1, h1, e1⟩ | hB
    · rcases h.fresh id L1 h1 with ⟨L0, h0, e0⟩ | hB
      · exact .inl ⟨L0, h0, e0.trans e1⟩
      · exact .inr (e1 ▸ hB)
    · exact .inr (Nat.le_trans h.size hB)
  znew := fun b o v hv => by
    rcases k.znew b o v hv with h1 | ⟨id, L, hL, hb⟩ | hb
    · exact h.znew b o v h1
    · rcases h.fresh id L hL with ⟨L0, h0, e0⟩ | hB
      · exact .inr (.inl ⟨id, L0, h0, e0.trans hb⟩)
      · exact .inr (.inr (hb ▸ hB))
    · exact .inr (.inr (Nat.le_trans h.size hb))
  keep := fun B hB hno => by
    rw [k.keep B (Nat.lt_of_lt_of_le hB h.size), h.keep B hB hno]
    intro id L' hL'
    rcases h.fresh id L' hL' with ⟨L, hL, e⟩ | hs
    · exact e ▸ hno id L hL
    · omega

theorem AVR.mono {Z Z' : Zone} {ι ι' : Inj} (hz : ∀ b o v, Z b o = some v → Z' b o = some v)
    (hi : ∀ id L, ι id = some L → ∃ L', ι' id = some L' ∧ L.gen ≤ L'.gen ∧ (L'.gen = L.gen → L' = L)) {a : AV} {v : Value} (h : AVR Z ι a v) : AVR Z' ι' a v := by
  induction h with
  | f v x h => exact .f _ _ (h.mono hz)
  | ptr id g off A L hι hg hA =>
    obtain ⟨L', h', g', e'⟩ := hi id L hι
    refine .ptr id g off A L' h' (Nat.le_trans hg g') (fun e => ?_)
    have := e' (by omega)
    subst this
    exact hA e
  | fptr row j b o vs h1 h2 => exact .fptr row j b o vs (fun i x hx => hz _ _ _ (h1 i x hx)) (fun i x hx => (h2 i x hx).mono hz)
  | row id g off n A c L hsp hι hg hA =>
    obtain ⟨L', h', g', e'⟩ := hi id L hι
    refine .row id g off n A c L' hsp h' (Nat.le_trans hg g') (fun e => ?_)
    have := e' (by omega)
    subst this
    exact hA e
  | clo fn cs vs hl h ih => exact .clo fn cs vs hl ih
  | agg cs vs hl h ih => exact .agg cs vs hl ih
  | tup cs vs hl h ih => exact .tup cs vs hl ih
  | undef => exact .undef
theorem AVR.ext {H H' : Heap} {Z Z' : Zone} {ι ι' : Inj} {w w' : World} (hx : Ext H Z ι w H' Z' ι' w') {a : AV} {v : Value} (h : AVR Z ι a v) : AVR Z' ι' a v := h.mono hx.zone hx.inj

/-! ## 3. Constants, operands -/
def constV : Value → Option FV
  | .bool b => some (.bool b)
  | .int k n => some (.int k n)
  | .string s => some (.str s)
  | .pointer none => some .nilP
  | .slice none 0 0 => some .nilS
  | .nilFunc => some .nilF
  | .nilIface => some .nilI
  | .func (.func f) first captured => if first.size = 0 ∧ captured.size = 0 then some (.fn f) else none
  | _ => none
def constL : List Value → Option (List AV)
  | [] => some []
  | v :: l => match constV v, constL l with
    | some x, some r => some (.f x :: r)
    | _, _ => none
def constA : Value → Option AV
  | .agg cs => (constL cs.toList).map .agg
  | v => (constV v).map .f
theorem constV_ok (Z : Zone) {v : Value} {x : FV} (h : constV v = some x) : VZ Z x v := by
  unfold constV at h
  split at h
  case h_8 f first captured =>
    split at h
    · rename_i hs
      have e1 : first = #[] := Array.eq_empty_of_size_eq_zero hs.1
      have e2 : captured = #[] := Array.eq_empty_of_size_eq_zero hs.2
      subst e1 e2
      cases h
      exact .fn _
    · simp at h
  all_goals first | (cases h; constructor) | simp at h
theorem constL_ok (Z : Zone) (ι : Inj) : ∀ {l : List Value} {r : List AV}, constL l = some r → r.length = l.length ∧ ∀ (i : Nat) (a : AV) (v : Value), r[i]? = some a → l[i]? = some v → AVR Z ι a v ∧ a.isCell = true
  | [], r, h => by simp [constL] at h; subst h; simp
  | v :: l, r, h => by
    simp only [constL] at h
    split at h
    · rename_i x r' hx hr
      cases h
      obtain ⟨h1, h2⟩ := constL_ok Z ι hr
      refine ⟨by simp [h1], fun i a v' ha hv => ?_⟩
      cases i with
      | zero => simp at ha hv; subst ha; subst hv; exact ⟨.f _ _ (constV_ok Z hx), rfl⟩
      | succ i => exact h2 i a v' (by simpa using ha) (by simpa using hv)
    · simp at h
theorem constA_ok (Z : Zone) (ι : Inj) {v : Value} {x : AV} (h : constA v = some x) : AVR Z ι x v := by
  unfold constA at h
  split at h
  · rename_i cs
    cases hc : constL cs.toList with
    | none => simp [hc] at h
    | some r =>
      simp [hc] at h
      subst h
      obtain ⟨h1, h2⟩ := constL_ok Z ι hc
      exact .agg _ _ (by simpa using h1) (fun i a v ha hv => (h2 i a v ha (by simpa using hv)).1)
  · cases hc : constV v with
    | none => simp [hc] at h
    | some r =>
      simp [hc] at h
      subst h
      exact .f _ _ (constV_ok Z hc)

def evA (G : Nat → Option (List FV)) (e : Env) : Operand → Option AV
  | .tmp t => e[t]?
  | .const v => constA v
  | .global g => (G g).map (fun r => .fptr r 0)
  | .func f => some (.f (.fn f))
/-- The package-level variables that the run may read, as they are. -/
def GlobR (G : Nat → Option (List FV)) (Z : Zone) : Prop := ∀ g r, G g = some r → ∀ ι, AVR Z ι (.fptr r 0) (.pointer (some ⟨g, 0, none⟩))
structure EnvR (Z : Zone) (ι : Inj) (e : Env) (ts : Array Value) : Prop where
  len : e.length = ts.size
  at_ : ∀ (i : Nat) a v, e[i]? = some a → ts[i]? = some v → AVR Z ι a v
theorem EnvR.ext {H H' : Heap} {Z Z' : Zone} {ι ι' : Inj} {w w' : World} (hx : Ext H Z ι w H' Z' ι' w') {e : Env} {ts : Array Value} (h : EnvR Z ι e ts) : EnvR Z' ι' e ts := ⟨h.len, fun i a v ha hv => (h.at_ i a v ha hv).ext hx⟩
theorem evA_ok {G : Nat → Option (List FV)} {Z : Zone} {ι : Inj} {e : Env} {a : Act} (hG : GlobR G Z) (he : EnvR Z ι e a.tmps) {x : Operand} {r : AV} (h : evA G e x = some r) : AVR Z ι r (a.eval x) := by
  cases x with
  | tmp t =>
    simp only [evA] at h
    have hlt : t < a.tmps.size := he.len ▸ (List.getElem?_eq_some_iff.1 h).1
    refine he.at_ t r _ h ?_
    simp [Act.eval, Array.getD, hlt]
  | const v => exact constA_ok Z ι h
  | global g =>
    simp only [evA, Option.map_eq_some_iff] at h
    obtain ⟨r', hr, rfl⟩ := h
    exact hG g r' hr ι
  | func f =>
    simp only [evA, Option.some.injEq] at h
    subst h
    exact .f _ _ (.fn f)
def putE (e : Env) (dst : Option Tmp) (v : AV) : Env :=
  match dst with
  | some d => e.set d v
  | none => e
theorem EnvR.put {Z : Zone} {ι : Inj} {e : Env} {a : Act} (he : EnvR Z ι e a.tmps) (dst : Option Tmp) {r : AV} {v : Value} (h : AVR Z ι r v) : EnvR Z ι (putE e dst r) (a.put dst v).tmps := by
  cases dst with
  | none => exact he
  | some d =>
    refine ⟨by simp [putE, Act.put, he.len], fun i x y hx hy => ?_⟩
    simp only [putE, Act.put] at hx hy
    rw [List.getElem?_set] at hx
    rw [Array.getElem?_setIfInBounds] at hy
    by_cases hd : d = i
    · subst hd
      rw [if_pos rfl] at hx hy
      split at hx
      · cases hx
        split at hy
        · cases hy; exact h
        · simp at hy
      · simp at hx
    · rw [if_neg hd] at hx hy
      exact he.at_ i x y hx hy
end Go.Proofs.YtbjcghnhhgdopaaGreatDoor.Ai
