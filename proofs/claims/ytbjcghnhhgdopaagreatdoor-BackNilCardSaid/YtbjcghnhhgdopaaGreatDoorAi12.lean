import Derived.Test.YtbjcghnhhgdopaaGreatDoorAi11
namespace Go.Proofs.YtbjcghnhhgdopaaGreatDoor.Ai
open Go Go.RowKit

/-! ## 11. Code, calls -/
inductive Ex where
  | normal | exit (id : Nat) | ret
def Ex.exit' : Ex → Exit
  | .normal => .normal
  | .exit id => .exit id
  | .ret => .ret
abbrev RegA := Array Oper → Bool → Env → Heap → Option (Env × Heap)
def evLoop (body : Env → Heap → Option (Ex × Env × Heap)) : Nat → Env → Heap → Option (Ex × Env × Heap)
  | 0, _, _ => none
  | n + 1, e, H => match body e H with
    | some (.normal, e', H') => evLoop body n e' H'
    | r => r
def evCode (S : Sig) (reg : RegA) (k : Nat) : Code → Env → Heap → Option (Ex × Env × Heap)
  | .skip, e, H => some (.normal, e, H)
  | .region _ ops draw, e, H => match reg ops draw e H with
    | some (e', H') => some (.normal, e', H')
    | none => none
  | .seq x y, e, H => match evCode S reg k x e H with
    | some (.normal, e', H') => evCode S reg k y e' H'
    | r => r
  | .cond c x y, e, H => match evA S.G e c with
    | some (.f (.bool true)) => evCode S reg k x e H
    | some (.f (.bool false)) => evCode S reg k y e H
    | _ => none
  | .block id c, e, H => match evCode S reg k c e H with
    | some (.exit i, e', H') => if i = id then some (.normal, e', H') else some (.exit i, e', H')
    | r => r
  | .loop c, e, H => evLoop (fun e H => evCode S reg k c e H) k e H
  | .exit id, e, H => some (.exit id, e, H)
  | .ret, e, H => some (.ret, e, H)
  | _, _, _ => none

section
variable {P : Program}
/-- What a region's abstract run promises. -/
def RegOk (P : Program) (S : Sig) (lo : Nat) (reg : RegA) : Prop := ∀ ops draw e H e' H', reg ops draw e H = some (e', H') → (lo ≤ H.length → Eff lo H H') ∧
  ∀ (id : Nat) (Z : Zone) (ι : Inj) (a : Act) (w : World) (Q : Exit → Act → World → Prop), StR S.G e H Z ι a w → (∀ a' w' Z' ι', StR S.G e' H' Z' ι' a' w' → Ext H Z ι w H' Z' ι' w' → Q .normal a' w') → (Code.region id ops draw).wp P Q a w
/-- What the run of some code promises. -/
def CodeOk (P : Program) (S : Sig) (lo : Nat) (c : Code) (ev : Env → Heap → Option (Ex × Env × Heap)) : Prop := ∀ e H x e' H', ev e H = some (x, e', H') → (lo ≤ H.length → Eff lo H H') ∧
  ∀ (Z : Zone) (ι : Inj) (a : Act) (w : World) (Q : Exit → Act → World → Prop), StR S.G e H Z ι a w → (∀ a' w' Z' ι', StR S.G e' H' Z' ι' a' w' → Ext H Z ι w H' Z' ι' w' → Q x.exit' a' w') → c.wp P Q a w
theorem loop_ok {S : Sig} {lo : Nat} {c : Code} {ev : Env → Heap → Option (Ex × Env × Heap)} (hc : CodeOk P S lo c ev) : ∀ n e H x e' H', evLoop ev n e H = some (x, e', H') → (lo ≤ H.length → Eff lo H H') ∧
    ∀ (Z : Zone) (ι : Inj) (a : Act) (w : World) (Q : Exit → Act → World → Prop), StR S.G e H Z ι a w → (∀ a' w' Z' ι', StR S.G e' H' Z' ι' a' w' → Ext H Z ι w H' Z' ι' w' → x ≠ .normal → Q x.exit' a' w') → Code.rounds P c Q n a w
  | 0, e, H, x, e', H', h => by simp [evLoop] at h
  | n + 1, e, H, x, e', H', h => by
    simp only [evLoop] at h
    split at h
    · rename_i e1 H1 h1
      obtain ⟨g1, g2⟩ := hc _ _ _ _ _ h1
      obtain ⟨q1, q2⟩ := loop_ok hc n e1 H1 x e' H' h
      refine ⟨fun hl => (g1 hl).trans (q1 (Nat.le_trans hl (g1 hl).1)), fun Z ι a w Q hs hq => ?_⟩
      rw [rounds_succ]
      refine g2 Z ι a w _ hs (fun a1 w1 Z1 ι1 hs1 hx1 => ?_)
      exact q2 Z1 ι1 a1 w1 Q hs1 (fun a' w' Z' ι' hs' hx' hne => hq a' w' Z' ι' hs' (hx1.trans hx') hne)
    · rename_i r hne
      obtain ⟨g1, g2⟩ := hc _ _ _ _ _ h
      refine ⟨g1, fun Z ι a w Q hs hq => ?_⟩
      rw [rounds_succ]
      refine g2 Z ι a w _ hs (fun a1 w1 Z1 ι1 hs1 hx1 => ?_)
      cases x with
      | normal => exact absurd h (hne _ _)
      | exit i => exact hq a1 w1 Z1 ι1 hs1 hx1 (by simp)
      | ret => exact hq a1 w1 Z1 ι1 hs1 hx1 (by simp)
theorem code_ok {S : Sig} {lo : Nat} {reg : RegA} (hr : RegOk P S lo reg) (k : Nat) : ∀ c, CodeOk P S lo c (evCode S reg k c)
  | .skip => by
    intro e H x e' H' h
    simp only [evCode, Option.some.injEq, Prod.mk.injEq] at h
    obtain ⟨rfl, rfl, rfl⟩ := h
    exact ⟨fun _ => Eff.refl _ _, fun Z ι a w Q hs hq => wp_skip (hq a w Z ι hs (Ext.refl _ _ _ _))⟩
  | .region id ops draw => by
    intro e H x e' H' h
    simp only [evCode] at h
    split at h
    · rename_i e1 H1 h1
      cases h
      obtain ⟨g1, g2⟩ := hr _ _ _ _ _ _ h1
      exact ⟨g1, fun Z ι a w Q hs hq => g2 id Z ι a w Q hs hq⟩
    · cases h
  | .seq c d => by
    intro e H x e' H' h
    simp only [evCode] at h
    have hc := code_ok hr k c
    have hd := code_ok hr k d
    split at h
    · rename_i e1 H1 h1
      obtain ⟨g1, g2⟩ := hc _ _ _ _ _ h1
      obtain ⟨q1, q2⟩ := hd _ _ _ _ _ h
      refine ⟨fun hl => (g1 hl).trans (q1 (Nat.le_trans hl (g1 hl).1)), fun Z ι a w Q hs hq => wp_seq (g2 Z ι a w _ hs (fun a1 w1 Z1 ι1 hs1 hx1 => ?_))⟩
      exact q2 Z1 ι1 a1 w1 Q hs1 (fun a' w' Z' ι' hs' hx' => hq a' w' Z' ι' hs' (hx1.trans hx'))
    · rename_i r hne
      obtain ⟨g1, g2⟩ := hc _ _ _ _ _ h
      refine ⟨g1, fun Z ι a w Q hs hq => wp_seq (g2 Z ι a w _ hs (fun a1 w1 Z1 ι1 hs1 hx1 => ?_))⟩
      cases x with
      | normal => exact absurd h (hne _ _)
      | exit i => exact hq a1 w1 Z1 ι1 hs1 hx1
      | ret => exact hq a1 w1 Z1 ι1 hs1 hx1
  | .cond o c d => by
    intro e H x e' H' h
    simp only [evCode] at h
    have hc := code_ok hr k c
    have hd := code_ok hr k d
    split at h
    · rename_i h1
      obtain ⟨g1, g2⟩ := hc _ _ _ _ _ h
      exact ⟨g1, fun Z ι a w Q hs hq => wp_cond_true (bool_inv (evA_ok hs.glob hs.env h1)) (g2 Z ι a w Q hs hq)⟩
    · rename_i h1
      obtain ⟨g1, g2⟩ := hd _ _ _ _ _ h
      exact ⟨g1, fun Z ι a w Q hs hq => wp_cond_false (bool_inv (evA_ok hs.glob hs.env h1)) (g2 Z ι a w Q hs hq)⟩
    · cases h
  | .block id c => by
    intro e H x e' H' h
    simp only [evCode] at h
    have hc := code_ok hr k c
    split at h
    · rename_i i e1 H1 h1
      obtain ⟨g1, g2⟩ := hc _ _ _ _ _ h1
      split at h
      · rename_i hi
        cases h
        refine ⟨g1, fun Z ι a w Q hs hq => wp_block (g2 Z ι a w _ hs (fun a1 w1 Z1 ι1 hs1 hx1 => ?_))⟩
        show (if i = id then Q .normal a1 w1 else Q (.exit i) a1 w1)
        rw [if_pos hi]
        exact hq a1 w1 Z1 ι1 hs1 hx1
      · rename_i hi
        cases h
        refine ⟨g1, fun Z ι a w Q hs hq => wp_block (g2 Z ι a w _ hs (fun a1 w1 Z1 ι1 hs1 hx1 => ?_))⟩
        show (if i = id then Q .normal a1 w1 else Q (.exit i) a1 w1)
        rw [if_neg hi]
        exact hq a1 w1 Z1 ι1 hs1 hx1
    · rename_i r hne
      obtain ⟨g1, g2⟩ := hc _ _ _ _ _ h
      refine ⟨g1, fun Z ι a w Q hs hq => wp_block (g2 Z ι a w _ hs (fun a1 w1 Z1 ι1 hs1 hx1 => ?_))⟩
      cases x with
      | normal => exact hq a1 w1 Z1 ι1 hs1 hx1
      | exit i => exact absurd h (hne _ _ _)
      | ret => exact hq a1 w1 Z1 ι1 hs1 hx1
  | .loop c => by
    intro e H x e' H' h
    simp only [evCode] at h
    obtain ⟨g1, g2⟩ := loop_ok (code_ok hr k c) k e H x e' H' h
    exact ⟨g1, fun Z ι a w Q hs hq => wp_loop_rounds k (g2 Z ι a w Q hs (fun a' w' Z' ι' hs' hx' _ => hq a' w' Z' ι' hs' hx'))⟩
  | .exit id => by
    intro e H x e' H' h
    simp only [evCode, Option.some.injEq, Prod.mk.injEq] at h
    obtain ⟨rfl, rfl, rfl⟩ := h
    exact ⟨fun _ => Eff.refl _ _, fun Z ι a w Q hs hq => wp_exit (hq a w Z ι hs (Ext.refl _ _ _ _))⟩
  | .ret => by
    intro e H x e' H' h
    simp only [evCode, Option.some.injEq, Prod.mk.injEq] at h
    obtain ⟨rfl, rfl, rfl⟩ := h
    exact ⟨fun _ => Eff.refl _ _, fun Z ι a w Q hs hq => wp_ret (hq a w Z ι hs (Ext.refl _ _ _ _))⟩
  | .rangeFunc .. => by intro e H x e' H' h; simp [evCode] at h
  | .scope .. => by intro e H x e' H' h; simp [evCode] at h
  | .label .. => by intro e H x e' H' h; simp [evCode] at h
  | .goto .. => by intro e H x e' H' h; simp [evCode] at h
  | .refuse .. => by intro e H x e' H' h; simp [evCode] at h
end

/-- A function's own text. -/
structure FnI where
  body : Code
  ntmps : Nat
  results : List ResultVar
def fnOf (P : Program) (f : Nat) : Option FnI :=
  match P.funcs[f]? with
  | some fn => if fn.name == "runtime.NumGoroutine" then none else match fn.body with
    | some c => some ⟨c, fn.ntmps, fn.results.toList⟩
    | none => none
  | none => none
def resA (P : Program) (H : Heap) (e : Env) : List ResultVar → Option (List AV)
  | [] => some []
  | .tmp t :: l => match e[t]?, resA P H e l with
    | some v, some r => some (v :: r)
    | _, _ => none
  | .cell t ty :: l => match e[t]?, resA P H e l with
    | some p, some r => (loadA P H ty p).map (· :: r)
    | _, _ => none
def tupA : List AV → AV
  | [v] => v
  | l => .tup l
/-- A function's body, on arguments. -/
def evBody (P : Program) (S : Sig) (reg : Nat → RegA) (k lo : Nat) (f : Nat) (as : List AV) (H : Heap) : Option (AV × Heap) :=
  match fnOf P f with
  | some i => match evCode S (reg lo) k i.body (as ++ List.replicate (i.ntmps - as.length) .undef) H with
    | some (.ret, e, H') => (resA P H' e i.results).map fun l => (tupA l, H')
    | some (.normal, e, H') => (resA P H' e i.results).map fun l => (tupA l, H')
    | _ => none
  | none => none
section
variable {P : Program}
def resC (ts : Array Value) : ResultVar → Sem Value
  | .tmp t => pure (ts.getD t undef)
  | .cell q t => do loadVar t (← asAddr (ts.getD q undef))
theorem load_as {ty : Nat} {q u : Value} {w : World} (h : (Instr.loadAt ty q).run P w = .ok u w) : (do loadVar ty (← asAddr q) : Sem Value).run P w = .ok u w := by
  cases q with
  | pointer a =>
    cases a with
    | some a => simpa [Instr.loadAt, Instr.sureAddr, asAddr] using h
    | none => simp [Instr.loadAt, Instr.sureAddr] at h
  | _ => simp [Instr.loadAt, Instr.sureAddr] at h
def tupV : List Value → Value
  | [v] => v
  | l => .tuple l.toArray
theorem res_ok {S : Sig} {e : Env} {H : Heap} {Z : Zone} {ι : Inj} {a : Act} {w : World} (hs : StR S.G e H Z ι a w) : ∀ {l : List ResultVar} {r : List AV}, resA P H e l = some r →
    ∃ vs : List Value, (l.mapM (resC a.tmps)).run P w = .ok vs w ∧ LRel Z ι r vs
  | [], r, h => by simp only [resA, Option.some.injEq] at h; subst h; exact ⟨[], by simp, .nil⟩
  | .tmp t :: l, r, h => by
    simp only [resA] at h
    split at h
    · rename_i v r' hv hr
      cases h
      obtain ⟨vs, h1, h2⟩ := res_ok hs hr
      have hx := evA_ok (x := .tmp t) hs.glob hs.env (show evA S.G e (.tmp t) = some v from hv)
      exact ⟨a.tmps.getD t undef :: vs, by simp [List.mapM_cons, h1, resC], .cons _ _ _ _ hx h2⟩
    · cases h
  | .cell t ty :: l, r, h => by
    simp only [resA] at h
    split at h
    · rename_i p r' hv hr
      rw [Option.map_eq_some_iff] at h
      obtain ⟨v, hv', rfl⟩ := h
      obtain ⟨vs, h1, h2⟩ := res_ok hs hr
      have hx := evA_ok (x := .tmp t) hs.glob hs.env (show evA S.G e (.tmp t) = some p from hv)
      obtain ⟨u, g1, g2⟩ := load_ok (P := P) hs.inv hx hv'
      have e1 : Act.eval a (.tmp t) = a.tmps.getD t undef := rfl
      rw [e1] at g1
      have g1' : (resC a.tmps (.cell t ty)).run P w = .ok u w := load_as g1
      exact ⟨u :: vs, by simp [List.mapM_cons, g1', h1], .cons _ _ _ _ g2 h2⟩
    · cases h
theorem results_run {fn : Func} {ts : Array Value} {vs : List Value} {w : World} (h : (fn.results.toList.mapM (resC ts)).run P w = .ok vs w) : (results fn ts).run P w = .ok (tupV vs) w := by
  have e1 : results fn ts = (do let vs ← fn.results.mapM (resC ts); pure (if h : vs.size = 1 then vs[0] else .tuple vs)) := by
    unfold results
    congr 1
  rw [e1, Array.mapM_eq_mapM_toList, Sem.run_bind, Sem.run_map, h]
  match vs with
  | [] => rfl
  | [v] => rfl
  | a :: b :: l =>
    show Result.ok (if h : (a :: b :: l).toArray.size = 1 then _ else _) w = _
    rw [dif_neg (by simp)]
    rfl
theorem tup_ok {Z : Zone} {ι : Inj} {r : List AV} {vs : List Value} (h : LRel Z ι r vs) : AVR Z ι (tupA r) (tupV vs) := by
  match r, vs, h with
  | [], _, .nil => exact .tup [] #[] rfl (fun i a v ha => by simp at ha)
  | [x], _, .cons _ v _ _ hx .nil => exact hx
  | x :: y :: l, _, .cons _ v _ _ hx (.cons _ u _ m hy ht) =>
    have hall : LRel Z ι (x :: y :: l) (v :: u :: m) := .cons _ _ _ _ hx (.cons _ _ _ _ hy ht)
    exact .tup _ _ (by simp [ht.len]) (fun i a q ha hq => hall.get i a q ha (by simpa using hq))

/-- What a body's abstract run promises of the call. -/
theorem body_ok {S : Sig} {reg : Nat → RegA} {k lo : Nat} (hr : RegOk P S lo (reg lo)) {f : Nat} {as : List AV} {H : Heap} {r : AV} {H' : Heap} (h : evBody P S reg k lo f as H = some (r, H')) :
    (lo ≤ H.length → Eff lo H H') ∧ ∀ Z ι w vs, Inv H Z ι w → GlobR S.G Z → LRel Z ι as vs →
      Enters P f ∧ Calls P f vs.toArray w fun e w' => ∃ v Z' ι', e = .returned v ∧ AVR Z' ι' r v ∧ Inv H' Z' ι' w' ∧ Ext H Z ι w H' Z' ι' w' := by
  unfold evBody at h
  split at h
  · rename_i i hi
    unfold fnOf at hi
    split at hi
    · rename_i fn hfn
      split at hi
      · cases hi
      · rename_i hname
        split at hi
        · rename_i c hbody
          cases hi
          have hcode := code_ok (P := P) hr k c
          have fin : ∀ (x : Ex) (e : Env), (x = .ret ∨ x = .normal) → evCode S (reg lo) k c (as ++ List.replicate (fn.ntmps - as.length) .undef) H = some (x, e, H') → ∀ l, resA P H' e fn.results.toList = some l → r = tupA l → (lo ≤ H.length → Eff lo H H') ∧ ∀ Z ι w vs, Inv H Z ι w → GlobR S.G Z → LRel Z ι as vs →
              Enters P f ∧ Calls P f vs.toArray w fun e w' => ∃ v Z' ι', e = .returned v ∧ AVR Z' ι' r v ∧ Inv H' Z' ι' w' ∧ Ext H Z ι w H' Z' ι' w' := by
            intro x e hx hev l hl hrl
            obtain ⟨g1, g2⟩ := hcode _ _ _ _ _ hev
            refine ⟨g1, fun Z ι w vs hI hG hA => ⟨⟨fn, hfn, by simpa using hname, by simp [hbody]⟩, ?_⟩⟩
            refine calls_of_wp hfn hbody (g2 Z ι _ w _ ⟨hI, hG, ?_, rfl⟩ (fun a' w' Z' ι' hs' hx' => ?_))
            · have hlen := hA.len
              refine ⟨by simp [hlen], fun j q u hq hu => ?_⟩
              have hall : LRel Z ι (as ++ List.replicate (fn.ntmps - as.length) .undef) (vs ++ List.replicate (fn.ntmps - as.length) undef) := by
                refine hA.append (LRel.of_get (by simp) (fun i a v ha hv => ?_))
                have h1 := List.eq_of_mem_replicate (List.mem_of_getElem? ha)
                have h2 := List.eq_of_mem_replicate (List.mem_of_getElem? hv)
                subst h1 h2
                exact .undef
              refine hall.get j q u hq ?_
              rw [← Array.getElem?_toList] at hu
              simpa [hlen] using hu
            · obtain ⟨us, q1, q2⟩ := res_ok (P := P) hs' hl
              have q3 := results_run (P := P) q1
              have q4 := tup_ok q2
              rw [← hrl] at q4
              have : bodyPost P fn (fun e w' => ∃ v Z' ι', e = .returned v ∧ AVR Z' ι' r v ∧ Inv H' Z' ι' w' ∧ Ext H Z ι w H' Z' ι' w') .ret a' w' := ⟨hs'.def_, _, q3, _, Z', ι', rfl, q4, hs'.inv, hx'⟩
              rcases hx with rfl | rfl
              · exact this
              · exact this
          split at h
          · rename_i e H1 hev
            rw [Option.map_eq_some_iff] at h
            obtain ⟨l, hl, h⟩ := h
            cases h
            exact fin .ret e (.inl rfl) hev l hl rfl
          · rename_i e H1 hev
            rw [Option.map_eq_some_iff] at h
            obtain ⟨l, hl, h⟩ := h
            cases h
            exact fin .normal e (.inr rfl) hev l hl rfl
          · cases h
        · cases hi
    · cases hi
  · cases h

theorem CallOk.eff {S : Sig} {call : CallA} (h : CallOk P S.G call) : CallEff call := fun lo f as H r H' hc hl => (h lo f as H r H' hc).1 hl
end

/-! ## 12. Functions that only make frozen data; functions given by hand -/
structure Way where
  pure : Nat → Bool
  ext : Nat → Option (Nat → List AV → Heap → Option (AV × Heap))
/-- Its arguments are frozen, it runs over a heap of its own, its result is frozen. -/
def evPure (lo : Nat) (as : List AV) (H : Heap) (body : List AV → Option (AV × Heap)) : Option (AV × Heap) :=
  match frzArgs lo H as with
  | some (as', H1) => match body as' with
    | some (r, H2) => match frzVal 0 H2 r with
      | some (r', _) => some (r', H1)
      | none => none
    | none => none
  | none => none
def ev (P : Program) (S : Sig) (W : Way) (reg : CallA → Nat → RegA) : Nat → CallA
  | 0, _, _, _, _ => none
  | k + 1, lo, f, as, H => match W.ext f with
    | some g => g lo as H
    | none => if W.pure f then evPure lo as H (fun as => evBody P S (reg (ev P S W reg k)) k 0 f as [])
      else evBody P S (reg (ev P S W reg k)) k lo f as H
section
variable {P : Program}
theorem frzCells_eff {lo : Nat} {fc : Heap → AV → Option (FV × Heap)} (hfc : ∀ H a x H', fc H a = some (x, H') → Eff lo H H' ∧ H'.length = H.length) : ∀ (l : List AV) (H : Heap) xs H', frzCells fc H l = some (xs, H') → Eff lo H H' ∧ H'.length = H.length
  | [], H, xs, H', h => by simp only [frzCells, Option.some.injEq, Prod.mk.injEq] at h; obtain ⟨_, rfl⟩ := h; exact ⟨Eff.refl _ _, rfl⟩
  | a :: l, H, xs, H', h => by
    simp only [frzCells] at h
    split at h
    · rename_i x H1 h1
      split at h
      · rename_i ys H2 h2
        cases h
        obtain ⟨g1, g2⟩ := hfc _ _ _ _ h1
        obtain ⟨q1, q2⟩ := frzCells_eff hfc l _ _ _ h2
        exact ⟨g1.trans q1, q2.trans g2⟩
      · cases h
    · cases h
theorem frzCell_eff {lo : Nat} : ∀ n (H : Heap) a x H', frzCell lo n H a = some (x, H') → Eff lo H H' ∧ H'.length = H.length
  | 0, H, a, x, H', h => by
    cases a <;> simp only [frzCell, reduceCtorEq, Option.some.injEq, Prod.mk.injEq] at h
    obtain ⟨_, rfl⟩ := h
    exact ⟨Eff.refl _ _, rfl⟩
  | n + 1, H, a, x, H', h => by
    cases a <;> simp only [frzCell, reduceCtorEq, Option.some.injEq, Prod.mk.injEq] at h
    case f => obtain ⟨_, rfl⟩ := h; exact ⟨Eff.refl _ _, rfl⟩
    case row id g off len =>
      split at h
      · split at h
        · rename_i hc
          split at h
          · rename_i vs H1 hvs
            cases h
            obtain ⟨g1, g2⟩ := frzCells_eff (frzCell_eff n) _ _ _ _ hvs
            exact ⟨g1.trans (Eff.set hc.2.2.2 _), by rw [List.length_set]; exact g2⟩
          · cases h
        · cases h
      · cases h
theorem frzOne_eff {lo : Nat} {H : Heap} {a x : AV} {H' : Heap} (h : frzOne lo H a = some (x, H')) : Eff lo H H' ∧ H'.length = H.length := by
  unfold frzOne at h
  split at h
  · rw [Option.map_eq_some_iff] at h
    obtain ⟨⟨xs, H1⟩, h1, h2⟩ := h
    cases h2
    exact frzCells_eff (frzCell_eff _) _ _ _ _ h1
  · rw [Option.map_eq_some_iff] at h
    obtain ⟨⟨xs, H1⟩, h1, h2⟩ := h
    cases h2
    exact frzCell_eff _ _ _ _ _ h1
theorem frzArg_eff {lo : Nat} {H : Heap} {a x : AV} {H' : Heap} (h : frzArg lo H a = some (x, H')) : Eff lo H H' ∧ H'.length = H.length := by
  unfold frzArg at h
  split at h
  · cases h; exact ⟨Eff.refl _ _, rfl⟩
  · split at h
    · exact frzOne_eff h
    · exact frzOne_eff h
    · cases h
theorem frzArgs_eff {lo : Nat} : ∀ (l : List AV) (H : Heap) xs H', frzArgs lo H l = some (xs, H') → Eff lo H H' ∧ H'.length = H.length
  | [], H, xs, H', h => by simp only [frzArgs, Option.some.injEq, Prod.mk.injEq] at h; obtain ⟨_, rfl⟩ := h; exact ⟨Eff.refl _ _, rfl⟩
  | a :: l, H, xs, H', h => by
    simp only [frzArgs] at h
    split at h
    · rename_i x H1 h1
      split at h
      · rename_i ys H2 h2
        cases h
        obtain ⟨q1, q2⟩ := frzArgs_eff l _ _ _ h2
        have g := frzArg_eff h1
        exact ⟨g.1.trans q1, q2.trans g.2⟩
      · cases h
    · cases h
theorem frzList_eff {lo : Nat} : ∀ (l : List AV) (H : Heap) xs H', frzList lo H l = some (xs, H') → Eff lo H H' ∧ H'.length = H.length
  | [], H, xs, H', h => by simp only [frzList, Option.some.injEq, Prod.mk.injEq] at h; obtain ⟨_, rfl⟩ := h; exact ⟨Eff.refl _ _, rfl⟩
  | a :: l, H, xs, H', h => by
    simp only [frzList] at h
    split at h
    · rename_i x H1 h1
      split at h
      · rename_i ys H2 h2
        cases h
        obtain ⟨g1, g2⟩ := frzOne_eff h1
        obtain ⟨q1, q2⟩ := frzList_eff l _ _ _ h2
        exact ⟨g1.trans q1, q2.trans g2⟩
      · cases h
    · cases h
theorem frzVal_eff {lo : Nat} {H : Heap} {a x : AV} {H' : Heap} (h : frzVal lo H a = some (x, H')) : Eff lo H H' ∧ H'.length = H.length := by
  unfold frzVal at h
  split at h
  · rw [Option.map_eq_some_iff] at h
    obtain ⟨⟨xs, H1⟩, h1, h2⟩ := h
    cases h2
    exact frzList_eff _ _ _ _ h1
  · exact frzOne_eff h

theorem pure_ok {S : Sig} {f lo : Nat} {as : List AV} {H : Heap} {body : List AV → Option (AV × Heap)} {r : AV} {H' : Heap}
    (hb : ∀ as r H', body as = some (r, H') → ∀ Z ι w vs, Inv [] Z ι w → GlobR S.G Z → LRel Z ι as vs → Enters P f ∧ Calls P f vs.toArray w fun e w' => ∃ v Z' ι', e = .returned v ∧ AVR Z' ι' r v ∧ Inv H' Z' ι' w' ∧ Ext [] Z ι w H' Z' ι' w')
    (h : evPure lo as H body = some (r, H')) : Eff lo H H' ∧ ∀ Z ι w vs, Inv H Z ι w → GlobR S.G Z → LRel Z ι as vs → Enters P f ∧ Calls P f vs.toArray w fun e w' => ∃ v Z' ι', e = .returned v ∧ AVR Z' ι' r v ∧ Inv H' Z' ι' w' ∧ Ext H Z ι w H' Z' ι' w' := by
  unfold evPure at h
  split at h
  · rename_i as' H1 h1
    split at h
    · rename_i r1 H2 h2
      split at h
      · rename_i r2 H3 h3
        cases h
        refine ⟨(frzArgs_eff _ _ _ _ h1).1, fun Z ι w vs hI hG hA => ?_⟩
        obtain ⟨Z1, g1, g2, g3, g4⟩ := frzArgs_ok lo ι w as H as' _ h1 Z vs hI hA
        obtain ⟨q1, q2⟩ := hb _ _ _ h2 Z1 (fun _ => none) w vs g1.empty (hG.ext g2) (g4 _)
        refine ⟨q1, q2.mono (fun e w' => ?_)⟩
        rintro ⟨v, Z2, ι2, rfl, p1, p2, p3⟩
        obtain ⟨Z3, u1, u2, u3, u4⟩ := frzVal_ok h3 p2 p1
        obtain ⟨w1, w2⟩ := g1.back u1 (p3.trans u2)
        exact ⟨v, Z3, ι, rfl, u3 _, w1, g2.trans w2⟩
      · cases h
    · cases h
  · cases h
/-- Functions given by hand keep the promise. -/
def ExtOk (P : Program) (S : Sig) (W : Way) : Prop := ∀ f g, W.ext f = some g → ∀ lo as H r H', g lo as H = some (r, H') → (lo ≤ H.length → H.length ≤ H'.length ∧ ∀ id, id < lo → H'[id]? = H[id]?) ∧ ∀ Z ι w vs, Inv H Z ι w → GlobR S.G Z → LRel Z ι as vs →
  (Enters P f ∧ Calls P f vs.toArray w fun e w' => ∃ v Z' ι', e = .returned v ∧ AVR Z' ι' r v ∧ Inv H' Z' ι' w' ∧ Ext H Z ι w H' Z' ι' w') ∨
  (∃ v w' Z' ι', (callFunc f vs.toArray).run P w = .ok (.value v) w' ∧ AVR Z' ι' r v ∧ Inv H' Z' ι' w' ∧ Ext H Z ι w H' Z' ι' w')
theorem ev_ok {S : Sig} {W : Way} {reg : CallA → Nat → RegA} (hX : ExtOk P S W) (hr : ∀ call, CallOk P S.G call → ∀ lo, RegOk P S lo (reg call lo)) : ∀ k, CallOk P S.G (ev P S W reg k)
  | 0 => by intro lo f as H r H' h; simp [ev] at h
  | k + 1 => by
    intro lo f as H r H' h
    have ih := ev_ok hX hr k
    simp only [ev] at h
    split at h
    · rename_i g hg
      exact hX f g hg lo as H r H' h
    · split at h
      · obtain ⟨g1, g2⟩ := pure_ok (P := P) (S := S) (f := f) (fun as r H' hb => (body_ok (hr _ ih 0) hb).2) h
        exact ⟨fun _ => g1, fun Z ι w vs hI hG hA => .inl (g2 Z ι w vs hI hG hA)⟩
      · obtain ⟨g1, g2⟩ := body_ok (P := P) (hr _ ih lo) h
        exact ⟨g1, fun Z ι w vs hI hG hA => .inl (g2 Z ι w vs hI hG hA)⟩
end
end Go.Proofs.YtbjcghnhhgdopaaGreatDoor.Ai
