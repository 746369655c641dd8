import Derived.Test.YtbjcghnhhgdopaaGreatDoorAi4
namespace Go.Proofs.YtbjcghnhhgdopaaGreatDoor.Ai
open Go Go.RowKit

section
variable {P : Program} {H : Heap} {Z : Zone} {ι : Inj} {w : World}
/-- '==' on structs: a promise about the types that the run compares. -/
def EqOk (P : Program) (eqT : Nat → Option Nat) : Prop := ∀ t n, eqT t = some n → ∀ (x y : Operand) (as bs : List AV) (xs ys : Array Value) (Z : Zone) (ι : Inj) (r : Bool) (w : World),
  as.length = n → bs.length = n → eqCells as bs = some r → AVR Z ι (.agg as) (.agg xs) → AVR Z ι (.agg bs) (.agg ys) →
  (do eqGuard .eql t x y (.agg xs) (.agg ys); binOp .eql t (.agg xs) (.agg ys) : Sem Value).run P w = .ok (.bool r) w ∧
  (do eqGuard .neq t x y (.agg xs) (.agg ys); binOp .neq t (.agg xs) (.agg ys) : Sem Value).run P w = .ok (.bool !r) w

theorem intInt_ok (op : BinOp) (t : Nat) (x y : Operand) (k : IntKind) (a b : Int) (k' : IntKind) {r : FV} (h : binInt op k a k' b = some r) :
    ∃ u, (do eqGuard op t x y (.int k a) (.int k' b); binOp op t (.int k a) (.int k' b) : Sem Value).run P w = .ok u w ∧ VZ Z r u := by
  have hg : eqGuard op t x y (.int k a) (.int k' b) = pure () := by cases op <;> rfl
  rw [hg]
  cases op <;> simp only [binInt, Option.ite_none_right_eq_some, Option.some.injEq] at h <;> obtain ⟨hc, rfl⟩ := h
  case shl => exact ⟨.int k _, by simp [binOp, Op.shift, Int.not_lt.2 hc], .int _ _⟩
  case shr => exact ⟨.int k _, by simp [binOp, Op.shift, Int.not_lt.2 hc], .int _ _⟩
  case quo => obtain ⟨rfl, hb⟩ := hc; exact ⟨.int k _, by simp [binOp, Op.intDiv, hb], .int _ _⟩
  case rem => obtain ⟨rfl, hb⟩ := hc; exact ⟨.int k _, by simp [binOp, Op.intDiv, hb], .int _ _⟩
  all_goals subst hc
  case and => exact ⟨.int k _, by rw [binOp_and]; rfl, .int _ _⟩
  case or => exact ⟨.int k _, by rw [binOp_or]; rfl, .int _ _⟩
  case xor => exact ⟨.int k _, by rw [binOp_xor]; rfl, .int _ _⟩
  case andNot => exact ⟨.int k _, by rw [binOp_andNot]; rfl, .int _ _⟩
  case add => exact ⟨.int k _, by simp [binOp, Op.intArith], .int _ _⟩
  case sub => exact ⟨.int k _, by simp [binOp, Op.intArith], .int _ _⟩
  case mul => exact ⟨.int k _, by simp [binOp, Op.intArith], .int _ _⟩
  all_goals exact ⟨.bool _, by simp [binOp, Op.intCmp], .bool _⟩
theorem strStr_ok (op : BinOp) (t : Nat) (x y : Operand) (a b : ByteArray) {r : FV} (h : binStr op a b = some r) :
    ∃ u, (do eqGuard op t x y (.string a) (.string b); binOp op t (.string a) (.string b) : Sem Value).run P w = .ok u w ∧ VZ Z r u := by
  have hg : eqGuard op t x y (.string a) (.string b) = pure () := by cases op <;> rfl
  rw [hg]
  cases op <;> simp only [binStr, reduceCtorEq, Option.some.injEq] at h
  case add =>
    split at h
    · cases h
    · rename_i hc
      cases h
      exact ⟨.string (a ++ b), by simp only [binOp, Op.stringOp, Sem.run_bind, Sem.run_pure, Result.andThen_ok]; rw [if_neg hc]; rfl, .str _⟩
  all_goals (subst h; exact ⟨.bool _, by simp [binOp, Op.stringOp], .bool _⟩)

theorem bool_run (t : Nat) (h : tBool P t = true) : P.underlying t = some .bool := by
  unfold tBool at h
  split at h
  · assumption
  · cases h

theorem eqP1 {t e d : Nat} (h : P.underlying t = some (.pointer e)) (b : Option Addr) : (Op.equalIn (d + 1) t (.pointer none) (.pointer b)).run P w = .ok b.isNone w := by
  simp [Op.equalIn, und_run h]
theorem eqP2 {t e d : Nat} (h : P.underlying t = some (.pointer e)) (b : Addr) : (Op.equalIn (d + 1) t (.pointer (some b)) (.pointer none)).run P w = .ok false w := by
  simp [Op.equalIn, und_run h]
theorem eqS1 {t e d : Nat} (h : P.underlying t = some (.slice e)) (n c m q : Nat) (b : Option Addr) : (Op.equalIn (d + 1) t (.slice none n c) (.slice b m q)).run P w = .ok b.isNone w := by
  simp [Op.equalIn, und_run h]
theorem eqS2 {t e d : Nat} (h : P.underlying t = some (.slice e)) (n c m q : Nat) (b : Addr) : (Op.equalIn (d + 1) t (.slice (some b) n c) (.slice none m q)).run P w = .ok false w := by
  simp [Op.equalIn, und_run h]
theorem eqF0 {t d : Nat} {a b : Array Nat} {v : Bool} (h : P.underlying t = some (.func a b v)) : (Op.equalIn (d + 1) t .nilFunc .nilFunc).run P w = .ok true w := by
  simp [Op.equalIn, und_run h]
theorem eqF1 {t d : Nat} {a b : Array Nat} {v : Bool} (h : P.underlying t = some (.func a b v)) (f : Fn) (x y : Array Value) : (Op.equalIn (d + 1) t .nilFunc (.func f x y)).run P w = .ok false w := by
  simp [Op.equalIn, und_run h]
theorem eqF2 {t d : Nat} {a b : Array Nat} {v : Bool} (h : P.underlying t = some (.func a b v)) (f : Fn) (x y : Array Value) : (Op.equalIn (d + 1) t (.func f x y) .nilFunc).run P w = .ok false w := by
  simp [Op.equalIn, und_run h]
theorem sort0 {t : Nat} (h : tSort P t = 0) : ∃ e, P.underlying t = some (.pointer e) := by
  unfold tSort at h
  split at h <;> first | exact ⟨_, by assumption⟩ | cases h
theorem sort1 {t : Nat} (h : tSort P t = 1) : ∃ e, P.underlying t = some (.slice e) := by
  unfold tSort at h
  split at h <;> first | exact ⟨_, by assumption⟩ | cases h
theorem sort2 {t : Nat} (h : tSort P t = 2) : ∃ a b v, P.underlying t = some (.func a b v) := by
  unfold tSort at h
  split at h <;> first | exact ⟨_, _, _, by assumption⟩ | cases h
/-- What may stand there at a test against nil. -/
inductive NilV : Nat → Bool → Value → Prop
  | p0 : NilV 0 true (.pointer none)
  | p1 (a) : NilV 0 false (.pointer (some a))
  | s0 : NilV 1 true (.slice none 0 0)
  | s1 (a n c) : NilV 1 false (.slice (some a) n c)
  | f0 : NilV 2 true .nilFunc
  | f1 (f x y) : NilV 2 false (.func f x y)
theorem nilV_of {x : AV} {v : Value} (hx : AVR Z ι x v) {p : Bool} (hp : isNilA x = some p) : NilV (nilSort x) p v := by
  cases hx with
  | f y _ hv => cases hv <;> simp [isNilA] at hp <;> subst hp <;> constructor
  | undef => simp [isNilA] at hp
  | agg => simp [isNilA] at hp
  | tup => simp [isNilA] at hp
  | _ => simp [isNilA] at hp; subst hp; constructor
theorem nil_run2 {s : Nat} {p q : Bool} {vx vy : Value} (hx : NilV s p vx) (hy : NilV s q vy) {t : Nat} (h1 : tSort P t = s) (h3 : (p || q) = true) :
    (Op.equal t vx vy).run P w = .ok (p && q) w := by
  show (Op.equalIn (9999 + 1) t vx vy).run P w = _
  cases hx <;> cases hy <;> first
    | (exfalso; revert h3; decide)
    | (obtain ⟨e, he⟩ := sort0 h1; first | exact eqP1 he _ | exact eqP2 he _)
    | (obtain ⟨e, he⟩ := sort1 h1; first | exact eqS1 he _ _ _ _ _ | exact eqS2 he _ _ _ _ _)
    | (obtain ⟨a, b, v, he⟩ := sort2 h1; first | exact eqF0 he | exact eqF1 he _ _ _ | exact eqF2 he _ _ _)
theorem nil_bin {s : Nat} {p q : Bool} {vx vy : Value} (hx : NilV s p vx) (hy : NilV s q vy) (t : Nat) (ox oy : Operand) :
    eqGuard .eql t ox oy vx vy = pure () ∧ eqGuard .neq t ox oy vx vy = pure () ∧ binOp .eql t vx vy = (do pure (.bool (← Op.equal t vx vy))) ∧ binOp .neq t vx vy = (do pure (.bool (!(← Op.equal t vx vy)))) := by
  cases hx <;> cases hy <;> exact ⟨rfl, rfl, rfl, rfl⟩
theorem nil_run {x y : AV} {vx vy : Value} (hx : AVR Z ι x vx) (hy : AVR Z ι y vy) {p q : Bool} (hp : isNilA x = some p) (hq : isNilA y = some q) {t : Nat} (h1 : tSort P t = nilSort x) (h2 : tSort P t = nilSort y) (h3 : (p || q) = true) (ox oy : Operand) :
    (∃ u, (do eqGuard .eql t ox oy vx vy; binOp .eql t vx vy : Sem Value).run P w = .ok u w ∧ AVR Z ι (.f (.bool (p && q))) u) ∧ ∃ u, (do eqGuard .neq t ox oy vx vy; binOp .neq t vx vy : Sem Value).run P w = .ok u w ∧ AVR Z ι (.f (.bool !(p && q))) u := by
  have nx := nilV_of hx hp
  have ny := nilV_of hy hq
  rw [← h2, h1] at ny
  have hr := nil_run2 (P := P) (w := w) nx ny h1 h3
  obtain ⟨g1, g2, g3, g4⟩ := nil_bin nx ny t ox oy
  rw [g1, g2, g3, g4]
  exact ⟨⟨_, by simp [hr], .f _ _ (.bool _)⟩, ⟨_, by simp [hr], .f _ _ (.bool _)⟩⟩
theorem eqB' {t d : Nat} (h : P.underlying t = some .bool) (a b : Bool) : (Op.equalIn (d + 1) t (.bool a) (.bool b)).run P w = .ok (a == b) w := by
  simp [Op.equalIn, und_run h]
theorem eqB {t : Nat} (h : P.underlying t = some .bool) (a b : Bool) : (Op.equal t (.bool a) (.bool b)).run P w = .ok (a == b) w := eqB' (d := 9999) h a b
theorem bin_ok {eqT : Nat → Option Nat} (hE : EqOk P eqT) (op : BinOp) (t : Nat) (ox oy : Operand) {x y : AV} {vx vy : Value} (hx : AVR Z ι x vx) (hy : AVR Z ι y vy) {r : AV} (h : binA P eqT op t x y = some r) :
    ∃ u, (do eqGuard op t ox oy vx vy; binOp op t vx vy : Sem Value).run P w = .ok u w ∧ AVR Z ι r u := by
  unfold binA at h
  split at h
  · rename_i k a k' b
    have e1 := int_inv' hx
    have e2 := int_inv' hy
    subst e1 e2
    rw [Option.map_eq_some_iff] at h
    obtain ⟨r', hr, rfl⟩ := h
    obtain ⟨u, h1, h2⟩ := intInt_ok (P := P) (Z := Z) (w := w) op t ox oy k a b k' hr
    exact ⟨u, h1, .f _ _ h2⟩
  · rename_i a b
    have e1 := str_inv hx
    have e2 := str_inv hy
    subst e1 e2
    rw [Option.map_eq_some_iff] at h
    obtain ⟨r', hr, rfl⟩ := h
    obtain ⟨u, h1, h2⟩ := strStr_ok (P := P) (Z := Z) (w := w) op t ox oy a b hr
    exact ⟨u, h1, .f _ _ h2⟩
  · rename_i a b
    have e1 := bool_inv hx
    have e2 := bool_inv hy
    subst e1 e2
    split at h
    · rename_i hb
      have hu := bool_run t hb
      unfold eqOrNe at h
      split at h
      · rename_i r' hr
        cases hr
        cases h
        exact ⟨.bool (a == b), by have := eqB (P := P) (w := w) hu a b; show (do pure (.bool (← Op.equal t (.bool a) (.bool b))) : Sem Value).run P w = .ok (.bool (a == b)) w; simp [this], .f _ _ (.bool _)⟩
      · rename_i r' hr
        cases hr
        cases h
        exact ⟨.bool !(a == b), by have := eqB (P := P) (w := w) hu a b; show (do pure (.bool (!(← Op.equal t (.bool a) (.bool b)))) : Sem Value).run P w = .ok (.bool !(a == b)) w; simp [this], .f _ _ (.bool _)⟩
      · cases h
    · cases h
  · rename_i xs ys
    split at h
    · rename_i hc
      cases hx with
      | agg _ vs hl hv =>
        cases hy with
        | agg _ us hl' hu' =>
          unfold eqOrNe at h
          split at h
          · rename_i r' hr
            cases h
            exact ⟨.bool r', (hE t _ hc.1 ox oy xs ys vs us Z ι r' w rfl (by have := hc.1.symm.trans hc.2; simpa using this.symm) hr (.agg _ _ hl hv) (.agg _ _ hl' hu')).1, .f _ _ (.bool _)⟩
          · rename_i r' hr
            cases h
            exact ⟨.bool !r', (hE t _ hc.1 ox oy xs ys vs us Z ι r' w rfl (by have := hc.1.symm.trans hc.2; simpa using this.symm) hr (.agg _ _ hl hv) (.agg _ _ hl' hu')).2, .f _ _ (.bool _)⟩
          · cases h
    · cases h
  · have key : ∀ r', nilness P t x y = some r' → (∃ u, (do eqGuard .eql t ox oy vx vy; binOp .eql t vx vy : Sem Value).run P w = .ok u w ∧ AVR Z ι (.f (.bool r')) u) ∧ ∃ u, (do eqGuard .neq t ox oy vx vy; binOp .neq t vx vy : Sem Value).run P w = .ok u w ∧ AVR Z ι (.f (.bool !r')) u := by
      intro r' hn
      unfold nilness at hn
      split at hn
      · rename_i p q hp hq
        split at hn
        · rename_i hc
          obtain ⟨c1, c2, c3⟩ := hc
          cases hn
          refine nil_run hx hy hp hq c1 c2 c3 ox oy
        · cases hn
      · cases hn
    unfold eqOrNe at h
    split at h
    · rename_i r' hr
      cases h
      exact (key r' hr).1
    · rename_i r' hr
      cases h
      exact (key r' hr).2
    · cases h

theorem un_ok (op : UnOp) {x : AV} {vx : Value} (hx : AVR Z ι x vx) {r : AV} (h : unA op x = some r) : ∃ u, (Op.unary op vx).run P w = .ok u w ∧ AVR Z ι r u := by
  unfold unA at h
  split at h
  · have := int_inv' hx
    subst this
    cases h
    exact ⟨_, rfl, .f _ _ (.int _ _)⟩
  · have := int_inv' hx
    subst this
    cases h
    exact ⟨_, rfl, .f _ _ (.int _ _)⟩
  · have := bool_inv hx
    subst this
    cases h
    exact ⟨_, rfl, .f _ _ (.bool _)⟩
  · cases h
theorem conv_ok {s d : Nat} {x : AV} {vx : Value} (hx : AVR Z ι x vx) {r : AV} (h : convA P s d x = some r) : ∃ u, (convert s d vx).run P w = .ok u w ∧ AVR Z ι r u := by
  unfold convA at h
  split at h
  · rename_i ds k k' n hs hd
    have := int_inv' hx
    subst this
    cases h
    exact ⟨.int k (k.wrap n), by simp [convert, und_run hs, und_run hd, Conv.intToInt], .f _ _ (.int _ _)⟩
  · rename_i ds b hs hd
    have := str_inv hx
    subst this
    cases h
    exact ⟨.string b, by simp [convert, und_run hs, und_run hd], .f _ _ (.str _)⟩
  · rename_i ds k n hs hd
    have := int_inv' hx
    subst this
    cases h
    exact ⟨.string (Utf8.encode n), by simp [convert, und_run hs, und_run hd, Conv.intToString], .f _ _ (.str _)⟩
  · cases h
theorem len_ok {t : Nat} {x : AV} {vx : Value} (hx : AVR Z ι x vx) {n : Nat} (h : lenT P t x = some n) (ty : Nat) (ats : Array Nat) (ha : ats[0]? = some t) : (Builtin.len_ ats ty #[vx]).run P w = .ok (.int .i64 n) w := by
  unfold lenT at h
  split at h
  · rename_i s hu
    have := str_inv hx
    subst this
    cases h
    simp [Builtin.len_, ha, und_run hu, goInt]
  · rename_i e sz rows hu
    cases h
    cases hx with
    | f _ _ hv => cases hv; simp [Builtin.len_, ha, und_run hu, goInt]
  · rename_i e hu
    cases h
    cases hx with
    | f _ _ hv => cases hv; simp [Builtin.len_, ha, und_run hu, goInt]
  · rename_i e id g off m hu
    cases h
    cases hx
    simp [Builtin.len_, ha, und_run hu, goInt]
  · rename_i m e hu
    cases h
    simp [Builtin.len_, ha, und_run hu, goInt]
  · cases h
/-- A row of arguments. -/
inductive LRel (Z : Zone) (ι : Inj) : List AV → List Value → Prop
  | nil : LRel Z ι [] []
  | cons (a v l m) (h : AVR Z ι a v) (t : LRel Z ι l m) : LRel Z ι (a :: l) (v :: m)
theorem LRel.len {l : List AV} {m : List Value} (h : LRel Z ι l m) : l.length = m.length := by
  induction h with
  | nil => rfl
  | cons a v l m h t ih => simp [ih]
theorem LRel.get {l : List AV} {m : List Value} (h : LRel Z ι l m) : ∀ (i : Nat) a v, l[i]? = some a → m[i]? = some v → AVR Z ι a v := by
  induction h with
  | nil => intro i a v h; simp at h
  | cons a v l m h t ih =>
    intro i a' v' ha hv
    cases i with
    | zero => simp at ha hv; subst ha; subst hv; exact h
    | succ i => exact ih i a' v' (by simpa using ha) (by simpa using hv)
theorem LRel.of_get : ∀ {l : List AV} {m : List Value}, l.length = m.length → (∀ (i : Nat) a v, l[i]? = some a → m[i]? = some v → AVR Z ι a v) → LRel Z ι l m
  | [], [], _, _ => .nil
  | a :: l, v :: m, hl, h => .cons a v l m (h 0 a v rfl rfl) (LRel.of_get (by simpa using hl) (fun i a' v' h1 h2 => h (i + 1) a' v' (by simpa using h1) (by simpa using h2)))
  | [], _ :: _, hl, _ => by simp at hl
  | _ :: _, [], hl, _ => by simp at hl
theorem LRel.append {l l' : List AV} {m m' : List Value} (h : LRel Z ι l m) (h' : LRel Z ι l' m') : LRel Z ι (l ++ l') (m ++ m') := by
  induction h with
  | nil => exact h'
  | cons a v l m h t ih => exact .cons _ _ _ _ h ih
theorem LRel.ext {H' : Heap} {Z' : Zone} {ι' : Inj} {w' : World} (hx : Ext H Z ι w H' Z' ι' w') {l : List AV} {m : List Value} (h : LRel Z ι l m) : LRel Z' ι' l m := by
  induction h with
  | nil => exact .nil
  | cons a v l m h t ih => exact .cons _ _ _ _ (h.ext hx) ih
theorem args_ok {S : Sig} {e : Env} {a : Act} (hG : GlobR S.G Z) (he : EnvR Z ι e a.tmps) : ∀ {xs : List Operand} {as : List AV}, evArgs S e xs = some as → LRel Z ι as (xs.map a.eval)
  | [], as, h => by simp [evArgs] at h; subst h; exact .nil
  | x :: xs, as, h => by
    simp only [evArgs] at h
    split at h
    · rename_i v r hv hr
      cases h
      exact .cons _ _ _ _ (evA_ok hG he hv) (args_ok hG he hr)
    · cases h
theorem maxMin_ok {as : List AV} {vs : List Value} (h : LRel Z ι as vs) {mx : Bool} {r : AV} (hr : maxMin mx as = some r) (ats : Array Nat) (ty : Nat) :
    ∃ u, ((if mx then Builtin.max_ else Builtin.min_) ats ty vs.toArray).run P w = .ok u w ∧ AVR Z ι r u := by
  unfold maxMin at hr
  split at hr
  · rename_i k a k' b
    cases h with
    | cons _ v1 _ _ h1 t1 =>
      cases t1 with
      | cons _ v2 _ _ h2 t2 =>
        cases t2
        have e1 := int_inv' h1
        have e2 := int_inv' h2
        subst e1 e2
        cases hr
        cases mx with
        | true => exact ⟨.int k (if b > a then b else a), by simp [Builtin.max_, Builtin.max2], .f _ _ (.int _ _)⟩
        | false => exact ⟨.int k (if b < a then b else a), by simp [Builtin.min_, Builtin.min2], .f _ _ (.int _ _)⟩
  · cases hr
end
end Go.Proofs.YtbjcghnhhgdopaaGreatDoor.Ai
