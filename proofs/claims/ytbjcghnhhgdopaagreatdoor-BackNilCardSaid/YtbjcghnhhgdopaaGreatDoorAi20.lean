import Derived.Test.YtbjcghnhhgdopaaGreatDoorAi19
import Derived.ChangeOld
import Derived.Carry
import Derived.SizedLaws
import Derived.OpenShut
import Derived.Stop.Joined
namespace Go.Proofs.YtbjcghnhhgdopaaGreatDoor.Ai
open Go Go.RowKit Go.ChangeShapes Go.WideShapes

/-! ## 20. A law's row out of its abstract run -/
section
variable {P : Program}
/-- An argument that fits a type. -/
def FitA (P : Program) (n : Nat) (t : TypeId) (a : AV) : Prop := match P.underlying t with
  | some (.struct _) => ∃ fs, a = .agg (fs.map .f) ∧ FitF P n t fs
  | _ => ∃ x, a = .f x ∧ FitF P n t [x]
inductive FitAll (P : Program) (n : Nat) : List TypeId → List AV → Prop
  | nil : FitAll P n [] []
  | cons {t ts a l} (h : FitA P n t a) (k : FitAll P n ts l) : FitAll P n (t :: ts) (a :: l)
theorem FitAll.head {n t ts as} (h : FitAll P n (t :: ts) as) : ∃ a l, as = a :: l ∧ FitA P n t a ∧ FitAll P n ts l := by
  cases h with
  | cons h k => exact ⟨_, _, rfl, h, k⟩
theorem FitAll.none {n as} (h : FitAll P n [] as) : as = [] := by cases h; rfl
theorem LZ.agg {Z : Zone} {ι : Inj} {fs : List FV} {vs : Array Value} (h : LZ Z fs vs.toList) : AVR Z ι (.agg (fs.map .f)) (.agg vs) := by
  refine .agg _ _ (by simpa using h.len) (fun i a v ha hv => ?_)
  rw [List.getElem?_map, Option.map_eq_some_iff] at ha
  obtain ⟨x, hx, rfl⟩ := ha
  exact .f _ _ (h.at_ i x v hx (by rw [Array.getElem?_toList]; exact hv))
theorem open_arg {H : Type} {enc : TypeId × Value → H} {w : World} {b0 n : Nat} {t : TypeId} {v : Value} {d : DataW H} {ps : List MemPlace} (hp : plainT P n t = true) (hv : Value.okWide P w .any b0 t v)
    (h : DataW.Trod enc P w 0 (fun _ => true) true t v d ps) : ∃ a, FitA P n t a ∧ AVR (zone0 w) (fun _ => none) a v := by
  obtain ⟨fuel, h⟩ := h
  obtain ⟨fs, h1, h2⟩ := open_fit n hp h
  unfold FitA
  have other : (∀ fds, P.underlying t ≠ some (.struct fds)) → ∃ x, fs = [x] ∧ VZ (zone0 w) x v := by
    intro hne
    have hcell : ∀ cs, v ≠ .agg cs := by
      rintro cs rfl
      cases n with
      | zero => simp [plainT] at hp
      | succ n =>
        unfold plainT at hp
        unfold Value.okWide at hv
        split at hp
        · rename_i hu; simp [hu, Cell.okWide, Cell.ok] at hv
        · rename_i hu; simp [hu, Cell.okWide, Cell.ok] at hv
        · rename_i hu; simp [hu, Cell.okWide, Cell.ok] at hv
        · rename_i hu; simp [hu, Cell.okWide, Cell.ok] at hv
        · rename_i hu; exact absurd hu (hne _)
        · cases hp
    have hc : v.cells.toList = [v] := by
      cases v <;> first | rfl | exact absurd rfl (hcell _)
    rw [hc] at h2
    match fs, h2.len with
    | [x], _ => exact ⟨x, rfl, h2.at_ 0 x v rfl rfl⟩
  split
  · rename_i fds hu
    unfold Value.okWide at hv
    rw [hu] at hv
    obtain ⟨cs, rfl, _⟩ := hv
    exact ⟨_, ⟨fs, rfl, h1⟩, h2.agg⟩
  · rename_i hne
    obtain ⟨x, rfl, hx⟩ := other hne
    exact ⟨_, ⟨x, rfl, h1⟩, .f _ _ hx⟩
theorem open_args {H : Type} {enc : TypeId × Value → H} {w : World} {b0 n : Nat} : ∀ {ts : List TypeId} {vs : List Value} {ds : List (DataW H)} {ps : List MemPlace}, (∀ t, t ∈ ts → plainT P n t = true) →
    (∀ (j : Nat) t v, ts[j]? = some t → vs[j]? = some v → Value.okWide P w .any b0 t v) → DataW.TrodAll enc P w 0 (fun _ => true) true ts vs ds ps → ∃ as, FitAll P n ts as ∧ LRel (zone0 w) (fun _ => none) as vs
  | [], vs, ds, ps, _, _, h => by
    obtain ⟨rfl, rfl, rfl⟩ := trodAll_nil h
    exact ⟨[], .nil, .nil⟩
  | t :: ts, vs, ds, ps, hp, hv, h => by
    obtain ⟨v, vs', d, ds', p, q, rfl, rfl, rfl, h0, h1⟩ := trodAll_cons h
    obtain ⟨a, g1, g2⟩ := open_arg (hp t List.mem_cons_self) (hv 0 t v rfl rfl) h0
    obtain ⟨as, q1, q2⟩ := open_args (fun u hu => hp u (List.mem_cons_of_mem _ hu)) (fun j u x hu hx => hv (j + 1) u x hu hx) h1
    exact ⟨a :: as, .cons g1 q1, .cons _ _ _ _ g2 q2⟩
theorem back_args {H : Type} {enc : TypeId × Value → H} {W W' : World} (hl : laidOutB P = true) (hb : Below W.heap.size W W') : ∀ {ts : List TypeId} {vs : List Value} {ds : List (DataW H)} {ps : List MemPlace}, (∀ t, t ∈ ts → P.readableRec t = true ∧ t < P.types.size) →
    DataW.TrodAll enc P W 0 (fun _ => true) true ts vs ds ps → DataW.TrodAll enc P W' 0 (fun b => decide (b < W.heap.size)) true ts vs ds ps
  | [], vs, ds, ps, _, h => by
    obtain ⟨rfl, rfl, rfl⟩ := trodAll_nil h
    rfl
  | t :: ts, vs, ds, ps, hp, h => by
    obtain ⟨v, vs', d, ds', p, q, rfl, rfl, rfl, h0, h1⟩ := trodAll_cons h
    have hlt : ∀ x ∈ p, x.block < W.heap.size := by
      obtain ⟨m, hm⟩ := h0
      exact DataW.trod_lt m _ _ _ hm
    obtain ⟨r1, r2⟩ := hp t List.mem_cons_self
    exact ⟨p, q, Below.trod hl r1 r2 h0 hb hlt, back_args hl hb (fun u hu => hp u (List.mem_cons_of_mem _ hu)) h1, rfl⟩

/-- A listed array of whole numbers. -/
theorem laid_get {w : World} : ∀ {l : List (String × DataW Unit)} {ps : List MemPlace} (_ : DataW.LaidVars P w l ps) {name : String} {d : DataW Unit} (_ : (name, d) ∈ l),
    ∃ g t cs fuel p, P.globalNamed name = some g ∧ (P.globals[g]?).map (·.type) = some t ∧ w.var? P name = some cs ∧ DataW.trod (fun _ => ()) P w 0 (fun _ => true) false fuel t cs.toList = some (d, p)
  | [], ps, h, name, d, hm => by cases hm
  | (n, d) :: r, ps, h, name, d', hm => by
    obtain ⟨g, t, cs, fuel, p, q, h1, h2, h3, h4, h5, _⟩ := h
    rcases List.mem_cons.1 hm with e | hm
    · cases e
      exact ⟨g, t, cs, fuel, p, h1, h2, h3, h4⟩
    · exact laid_get h5 hm
theorem glob_ints {w : World} {l : List (String × DataW Unit)} (h : laidMet P l w) {name : String} {k : IntKind} (zs : List Int) (hm : (name, DataW.agg (zs.map fun z => .lit (.int k z))) ∈ l) {g t n e : Nat}
    (hg : P.globalNamed name = some g) (ht : (P.globals[g]?).map (·.type) = some t) (hu : P.underlying t = some (.array n e)) (he : P.underlying e = some (.int k)) (hc : P.cellsOf e = 1) (ι : Inj) :
    AVR (zone0 w) ι (.fptr (zs.map fun z => .int k z) 0) (.pointer (some ⟨g, 0, none⟩)) := by
  obtain ⟨ps, hl, _, _⟩ := h
  obtain ⟨g', t', cs, fuel, p, h1, h2, h3, h4⟩ := laid_get hl hm
  rw [hg] at h1
  cases h1
  rw [ht] at h2
  cases h2
  obtain ⟨xs, m, _, hx, hlen, hxl, hel⟩ := DataW.trod_array hu h4
  simp only [Prod.mk.injEq, DataW.agg.injEq] at hx
  have key : ∀ (i : Nat) (z : Int), zs[i]? = some z → cs[i]? = some (.int k z) := by
    intro i z hz
    have hi : i < xs.length := by
      have h5 := congrArg List.length hx.1
      simp only [List.length_map] at h5
      rw [← h5]
      exact (List.getElem?_eq_some_iff.1 hz).1
    have h6 := hel i (by omega)
    rw [List.getElem?_eq_getElem hi, hc, Nat.mul_one] at h6
    obtain ⟨z', hz', hx', _⟩ := DataW.trod_int he h6
    have h7 := congrArg (·[i]?) hx.1
    simp only [List.getElem?_map, hz, Option.map_some, List.getElem?_eq_getElem hi, hx', Option.some.injEq, DataW.lit.injEq, Lit.int.injEq, true_and] at h7
    subst h7
    have h8 := congrArg (·[0]?) hz'
    simp only [List.getElem?_take, List.getElem?_drop, Nat.add_zero] at h8
    simpa using h8
  refine .fptr _ 0 g 0 (fun i => .int k (zs.getD i 0)) (fun i x hx' => ?_) (fun i x hx' => ?_)
  · rw [Nat.zero_add, List.getElem?_map, Option.map_eq_some_iff] at hx'
    obtain ⟨z, hz, rfl⟩ := hx'
    show w.cell? _ = _
    rw [Nat.zero_add, World.var?_cell hg h3, key i z hz]
    simp [List.getD, hz]
  · rw [Nat.zero_add, List.getElem?_map, Option.map_eq_some_iff] at hx'
    obtain ⟨z, hz, rfl⟩ := hx'
    simp only [List.getD, hz, Option.getD_some]
    exact .int k z

/-- The row: every argument that fits leads to true. -/
theorem lifted_of_run {C : Checked} {S : Sig} {W : Way} {os : Os} {f : FuncId} {fn : Func} {s : ChangeSpec} {conds : List PathCond} {laid : List (String × DataW Unit)} {H : Type} {enc : TypeId × Value → H} {n rt : Nat}
    (own : ownKnob C.prog.godebug = none) (started : os.Started) (noInit : C.prog.inits.idxOf? f = none) (hfn : C.prog.funcs[f]? = some fn)
    (witness : ∃ (w : World) (tape : Tape) (i : Input), w.os = os ∧ (w.forCall tape i).Shaped C.prog ∧ i.vars = [] ∧ Input.okWide C.prog (w.forCall tape i) .any w.heap.size f i ∧
      ((s.pre enc C.prog fn conds false (w.forCall tape i).memory i.args ∧ laidMetH C.prog laid (w.forCall tape i).memory) ∧ sizedMet enc C.prog fn (OpenSpec.ofChange s) false (w.forCall tape i).memory i.args) ∧ ({} : Assume).holds C.prog (lone (Frame.enter C.prog f i.args .normal) [] (w.forCall tape i)))
    (hs : s.vars = [] ∧ ∀ ds : List (DataW H), ds.length = fn.params.size → s.fn H ds = { results := [.lit (.bool true)], args := ds })
    (hl : laidOutB C.prog = true) (hread : ∀ t, t ∈ fn.params.toList → C.prog.readableRec t = true ∧ t < C.prog.types.size) (hplain : ∀ t, t ∈ fn.params.toList → plainT C.prog n t = true)
    (hrt : fn.resultTypes = #[rt]) (hru : C.prog.underlying rt = some .bool)
    (hm : C.prog.follows .mixedOrders = true) (hE : EqOk C.prog S.eqT) (hX : ExtOk C.prog S W)
    (hG : ∀ w, laidMetH C.prog laid w → GlobR S.G (zone0 w))
    (contract : ∀ as, FitAll C.prog n fn.params.toList as → ∃ k H', evBody C.prog S (regA C.prog S (run C.prog S W k)) k 0 f as [] = some (.f (.bool true), H')) :
    ReturnsInHanded {} C os f .any (fun w args => (s.pre enc C.prog fn conds false w args ∧ laidMetH C.prog laid w) ∧ sizedMet enc C.prog fn (OpenSpec.ofChange s) false w args)
      (s.post enc C.prog fn false true false false) := by
  refine returnsInHanded_of_change_and (C := C) (X := fun w _ => laidMetH C.prog laid w) (fun _ _ _ hh h => h.of_heap hh) own started noInit hfn witness ?_
  intro W0 base args ds gs before hval hW _ _ hL _
  have hW' := hW
  obtain ⟨p, q, hA, hV, rfl, hfz, hnd⟩ := hW
  rw [hs.1] at hV
  obtain ⟨rfl, rfl⟩ := trodVars_none hV
  obtain ⟨as, h1, h2⟩ := open_args hplain (fun j t v ht hv => hval j t v (by rw [← Array.getElem?_toList]; exact ht) (by rw [← Array.getElem?_toList]; exact hv)) hA
  obtain ⟨k, H', hrun⟩ := contract as h1
  have hcall := law_run hm hE hX hrun (hG _ hL) h2
  refine hcall.mono fun e W' ⟨he, bel⟩ => ?_
  subst he
  have hdl : ds.length = fn.params.size := by
    have hlen : ∀ {ts : List TypeId} {vs : List Value} {ds : List (DataW H)} {ps : List MemPlace}, DataW.TrodAll enc C.prog W0 0 (fun _ => true) true ts vs ds ps → ds.length = ts.length := by
      intro ts
      induction ts with
      | nil =>
        intro vs ds ps h
        obtain ⟨rfl, rfl, rfl⟩ := trodAll_nil h
        rfl
      | cons t ts ih =>
        intro vs ds ps h
        obtain ⟨v, vs', d, ds', p, q, rfl, rfl, rfl, _, h1⟩ := trodAll_cons h
        simp [ih h1]
    rw [hlen hA, Array.length_toList]
  have hfn' := hs.2 ds hdl
  refine ⟨_, rfl, ds, [], p ++ [], [], p, [], hW', ?_, ?_, ?_, bel.frame _, fun h => by cases h⟩
  · rw [List.append_nil, hfn', hrt]
    exact trodAll_mk1 (shut_bool hru _)
  · rw [List.append_nil, hfn']
    exact back_args hl bel hread hA
  · rw [List.append_nil, hfn', hs.1]
    rfl
end
end Go.Proofs.YtbjcghnhhgdopaaGreatDoor.Ai
