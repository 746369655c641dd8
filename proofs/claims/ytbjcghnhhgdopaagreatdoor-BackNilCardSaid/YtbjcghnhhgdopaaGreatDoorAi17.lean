import Derived.Test.YtbjcghnhhgdopaaGreatDoorAi16
namespace Go.Proofs.YtbjcghnhhgdopaaGreatDoor.Ai
open Go Go.RowKit
set_option linter.unusedSimpArgs false

section
variable {P : Program} {S : Sig} {call : CallA} {lo : Nat} {ops : Array Oper}
theorem makes_new {o : Op} {e : Env} {H H1 : Heap} {r : AV} (h : evOp P S call lo o e H = some (r, H1)) (hm : makesH o = true) : ∃ k, H1 = H ++ [k] := by
  cases o <;> simp only [makesH, reduceCtorEq] at hm
  case alloc t =>
    simp only [evOp, oPick, oAlloc, oBox, oBuild, oBuildSlice, oLoad, oStore, oNil, oBin, oUn, oConv, oFunc, oMake, oSlice, oFieldAddr, oField, oIndexAddr, oIndex, oExtract, oCall, oLen, oAppend, oCopy, oMaxMin] at h
    repeat' split at h
    all_goals first | (cases h; done) | (cases h; exact ⟨_, rfl⟩)
  case box t x =>
    simp only [evOp, oPick, oAlloc, oBox, oBuild, oBuildSlice, oLoad, oStore, oNil, oBin, oUn, oConv, oFunc, oMake, oSlice, oFieldAddr, oField, oIndexAddr, oIndex, oExtract, oCall, oLen, oAppend, oCopy, oMaxMin] at h
    repeat' split at h
    all_goals first | (cases h; done) | (cases h; exact ⟨_, rfl⟩)
  case buildSlice t n ps =>
    simp only [evOp, oPick, oAlloc, oBox, oBuild, oBuildSlice, oLoad, oStore, oNil, oBin, oUn, oConv, oFunc, oMake, oSlice, oFieldAddr, oField, oIndexAddr, oIndex, oExtract, oCall, oLen, oAppend, oCopy, oMaxMin, Option.bind_eq_some_iff] at h
    obtain ⟨_, _, h⟩ := h
    unfold buildSliceA at h
    repeat' split at h
    all_goals first | (cases h; done) | (rw [Option.map_eq_some_iff] at h; obtain ⟨cs, _, h⟩ := h; cases h; exact ⟨_, rfl⟩)
  case makeSlice t x y =>
    simp only [evOp, oPick, oAlloc, oBox, oBuild, oBuildSlice, oLoad, oStore, oNil, oBin, oUn, oConv, oFunc, oMake, oSlice, oFieldAddr, oField, oIndexAddr, oIndex, oExtract, oCall, oLen, oAppend, oCopy, oMaxMin] at h
    split at h
    · unfold makeSliceA at h
      repeat' split at h
      all_goals first | (cases h; done) | (cases h; exact ⟨_, rfl⟩)
    · cases h
theorem Chain.grows {l : List Tr} {e : Env} {H : Heap} {en : Env} {Hn : Heap} (hC : CallEff call) (h : Chain P S call lo ops l e H en Hn) (hl : lo ≤ H.length) : H.length ≤ Hn.length ∧ ∀ t ∈ l, H.length ≤ t.H.length := by
  induction h with
  | nil => exact ⟨Nat.le_refl _, fun t ht => by cases ht⟩
  | cons i o e H r H1 l en Hn ho h t ih =>
    have h1 := (evOne_eff hC hl h).1
    obtain ⟨q1, q2⟩ := ih (Nat.le_trans hl h1)
    refine ⟨Nat.le_trans h1 q1, fun u hu => ?_⟩
    rcases List.mem_cons.1 hu with rfl | hu
    · exact Nat.le_refl _
    · exact Nat.le_trans h1 (q2 u hu)
/-- Two that make a block make two. -/
theorem Chain.apart {l : List Tr} {e : Env} {H : Heap} {en : Env} {Hn : Heap} (hC : CallEff call) (h : Chain P S call lo ops l e H en Hn) (hl : lo ≤ H.length) : ∀ t ∈ l, ∀ u ∈ l, t.i ≠ u.i → makesH t.o.op = true → makesH u.o.op = true → wantedA ops t.e t.o = true → wantedA ops u.e u.o = true → t.H.length ≠ u.H.length := by
  induction h with
  | nil => intro t ht; cases ht
  | cons i o e H r H1 l en Hn ho h t ih =>
    have h1 := (evOne_eff hC hl h).1
    have hl1 := Nat.le_trans hl h1
    have hg := (t.grows hC hl1).2
    have first : makesH o.op = true → wantedA ops e o = true → H1.length = H.length + 1 := by
      intro hm hw
      unfold evOne at h
      rw [if_pos hw] at h
      obtain ⟨k, hk⟩ := makes_new h hm
      rw [hk]; simp
    intro x hx y hy hne hmx hmy hwx hwy
    rcases List.mem_cons.1 hx with rfl | hx
    · rcases List.mem_cons.1 hy with rfl | hy
      · exact absurd rfl hne
      · have := first hmx hwx
        have := hg y hy
        show H.length ≠ _
        omega
    · rcases List.mem_cons.1 hy with rfl | hy
      · have := first hmy hwy
        have := hg x hx
        show _ ≠ H.length
        omega
      · exact ih hl1 x hx y hy hne hmx hmy hwx hwy
theorem takeFloats : ∀ (l : List Tr), ∃ fl post, l = fl ++ post ∧ (∀ t ∈ fl, chainH t.o.op = false) ∧ (post = [] ∨ ∃ u m, post = u :: m ∧ chainH u.o.op = true)
  | [] => ⟨[], [], rfl, (fun t ht => by cases ht), .inl rfl⟩
  | t :: l => by
    cases hc : chainH t.o.op with
    | true => exact ⟨[], t :: l, rfl, (fun t ht => by cases ht), .inr ⟨t, l, rfl, hc⟩⟩
    | false =>
      obtain ⟨fl, post, h1, h2, h3⟩ := takeFloats l
      refine ⟨t :: fl, post, by rw [h1]; rfl, fun u hu => ?_, h3⟩
      rcases List.mem_cons.1 hu with rfl | hu
      · exact hc
      · exact h2 u hu
theorem Chain.toHeap {fl post : List Tr} {e : Env} {H : Heap} {en : Env} {Hn : Heap} (h : Chain P S call lo ops (fl ++ post) e H en Hn) : ∃ e1, Chain P S call lo ops fl e H e1 (heapAt post Hn) := by
  induction fl generalizing e H with
  | nil =>
    cases post with
    | nil => cases h; exact ⟨_, .nil _ _⟩
    | cons u m => cases h; exact ⟨_, .nil _ _⟩
  | cons t fl ih =>
    cases h with
    | cons i o e H r H1 l en Hn ho h t =>
      obtain ⟨e1, h1⟩ := ih t
      exact ⟨e1, .cons _ _ _ _ _ _ _ _ _ ho h h1⟩

variable {tr : List Tr} {e0 : Env} {H0 : Heap} {en : Env} {Hn : Heap} {Z0 : Zone} {ι0 : Inj} {w0 : World}

/-- One that writes nothing is taken. -/
theorem DSt.float (hg : Good P S call lo ops tr e0 H0 en Hn) {pre post : List Tr} {listed : Array Bool} {Z : Zone} {ι : Inj} {a : Act} {w : World} (hd : DSt P S ops tr e0 H0 Z0 ι0 w0 Hn pre post listed Z ι a w)
    {t : Tr} (ht : t ∈ pre) (hl : listed.getD t.i false = false) (hi : t.i < listed.size)
    (hr : ∀ o e, ops[t.i]? = some o → e ∈ o.after → Region.binds .any e = true → listed.getD e.on false = true)
    {Z' : Zone} {ι' : Inj} {w' : World} {v : Value} (hI : Inv (heapAt post Hn) Z' ι' w') (hG : GlobR S.G Z') (hx : Ext H0 Z0 ι0 w0 (heapAt post Hn) Z' ι' w') (hz : ∀ b o v, Z b o = some v → Z' b o = some v)
    (hm : ∀ id L, ι id = some L → ∃ L', ι' id = some L' ∧ L.gen ≤ L'.gen ∧ (L'.gen = L.gen → L' = L)) (hv : AVR Z' ι' t.r v)
    (hp : ∀ u ∈ pre, u.i ≠ t.i → ι u.H.length = none → u.H.length < (heapAt post Hn).length → makesH u.o.op = true → wantedA ops u.e u.o = true → ι' u.H.length = none) :
    DSt P S ops tr e0 H0 Z0 ι0 w0 Hn pre post (listed.setIfInBounds t.i true) Z' ι' (a.put t.o.dst v) w' := by
  obtain ⟨l1, l2', hsplit⟩ := List.append_of_mem ht
  have hs : tr = l1 ++ t :: (l2' ++ post) := by rw [hd.split, hsplit]; simp
  have hpost : ∀ u ∈ post, u.i ≠ t.i := by
    intro u hu
    have hp := hg.pair
    rw [hs, List.pairwise_append] at hp
    have := (List.pairwise_cons.1 hp.2.1).1 u (List.mem_append_right _ hu)
    exact fun h => this.1 h.symm
  refine ⟨hd.split, by simpa using hd.size, hd.head, fun u hu => ?_, fun u hu hc => ?_, closed_set hi hd.closed hr, hI, hG, hx, by cases t.o.dst <;> exact hd.def_, ?_, fun u hu hul hmk hw => ?_⟩
  · rw [set_get hi, if_neg (hpost u hu)]; exact hd.later u hu
  · rw [set_get hi]
    split
    · rfl
    · exact hd.chain u hu hc
  · have h1 : EnvR Z' ι' (putE (foldE (fun i => listed.getD i false) tr e0) t.o.dst t.r) (a.put t.o.dst v).tmps :=
      EnvR.put (a := a) ⟨hd.env.len, fun i x y hx hy => (hd.env.at_ i x y hx hy).mono hz hm⟩ t.o.dst hv
    refine env_of h1 ?_ (env_next hg hd.closed hs hi hl)
    rw [foldE_len]
    cases t.o.dst <;> simp [putE, foldE_len]
  · rw [set_get hi] at hul
    split at hul
    · cases hul
    · rename_i hne
      obtain ⟨q1, q2, q3⟩ := hd.pend u hu hul hmk hw
      exact ⟨hp u hu hne q1 q3 hmk hw, q2, q3⟩

theorem draw_step (hE : EqOk P S.eqT) (hC : CallOk P S.G call) (hlo : lo ≤ H0.length) (hg : Good P S call lo ops tr e0 H0 en Hn) {Q : Exit → Act → World → Prop} {pre post : List Tr} {listed : Array Bool} {Z : Zone} {ι : Inj} {a : Act} {w : World}
    (hd : DSt P S ops tr e0 H0 Z0 ι0 w0 Hn pre post listed Z ι a w) {i : Nat} (hr : i ∈ Region.ready .any ops listed) {K : Act → World → Prop}
    (hk : ∀ pre post Z ι a w, DSt P S ops tr e0 H0 Z0 ι0 w0 Hn pre post (listed.setIfInBounds i true) Z ι a w → K a w) : wpOp P ops Q i K a w := by
  obtain ⟨hlt, hl, o, ho, hdeps⟩ := ready_iff hd.size hr
  obtain ⟨t, htr, hti⟩ := hg.all i hlt
  subst hti
  have hi : t.i < listed.size := by rw [hd.size]; exact hlt
  have hdeps' : ∀ o e, ops[t.i]? = some o → e ∈ o.after → Region.binds .any e = true → listed.getD e.on false = true := by
    intro o' e ho' he hb
    rw [ho] at ho'
    cases ho'
    exact hdeps e he hb
  have hanc : ∀ k, Anc ops k t.i → listed.getD k false = true := fun k hk => hk.listed (p := fun i => listed.getD i false) hd.closed (.inr hdeps')
  rw [hd.split, List.mem_append] at htr
  rcases htr with hpre | hpost
  · -- it stands ahead of the next one that writes: it writes nothing
    have hfl : chainH t.o.op = false := by
      cases hc : chainH t.o.op with
      | false => rfl
      | true => rw [hd.chain t hpre hc] at hl; cases hl
    obtain ⟨l1, l2, hsplit⟩ := List.append_of_mem hpre
    have hs : tr = l1 ++ t :: (l2 ++ post) := by rw [hd.split, hsplit]; simp
    have hch : Chain P S call lo ops (l1 ++ t :: (l2 ++ post)) e0 H0 en Hn := hs ▸ hg.chain
    obtain ⟨_, ho', hone, _⟩ := hch.split
    rw [ho] at ho'
    cases ho'
    have hlook := looks_same hg hd.closed hs hl hdeps'
    obtain ⟨hw, hev⟩ := looks_op (P := P) (S := S) (call := call) (lo := lo) (ops := ops) (o := t.o) (e := foldE (fun i => listed.getD i false) tr e0) (e' := t.e) (fun x hx => hlook x (.inl hx))
    have hst : StR S.G (foldE (fun i => listed.getD i false) tr e0) (heapAt post Hn) Z ι a w := ⟨hd.inv, hd.glob, hd.env, hd.def_⟩
    have hstable : stableAt P S call lo ops t (heapAt post Hn) = true := by
      have h1 := allStable_at (l := l1) (t := t) (m := l2 ++ post) (by rw [← hs]; exact hg.stable) hfl
      have h2 := stableAll_at (l := l2) (post := post) h1 (fun u hu hc => ?_) hd.head
      · cases post with
        | nil => exact h2
        | cons u m => exact h2
      · cases hq : isAnc (ancs ops) t.i u.i with
        | false => rfl
        | true =>
          exfalso
          have hu' : u ∈ pre := by rw [hsplit]; simp [hu]
          have := (isAnc_ok hq).listed (p := fun i => listed.getD i false) hd.closed (.inl (hd.chain u hu' hc))
          rw [this] at hl
          cases hl
    have hne : ∀ id L, ι id = some L → ∃ L', ι id = some L' ∧ L.gen ≤ L'.gen ∧ (L'.gen = L.gen → L' = L) := fun id L h => ⟨L, h, Nat.le_refl _, fun _ => rfl⟩
    by_cases hwt : wantedA ops t.e t.o = true
    · unfold evOne at hone
      rw [if_pos hwt] at hone
      have hwant : Region.wanted t.o (yielded ops a.tmps) = true := by rw [wanted_ok hd.env, hw]; exact hwt
      unfold wpOp
      rw [ho]
      simp only
      rw [if_pos hwant]
      left
      unfold stableAt at hstable
      rw [if_pos hwt] at hstable
      cases hmk : makesH t.o.op with
      | false =>
        -- quiet
        have hevT : ∃ H', evOp P S call lo t.o.op (foldE (fun i => listed.getD i false) tr e0) (heapAt post Hn) = some (t.r, H') := by
          rw [hev]
          cases hrd : readsH t.o.op with
          | true =>
            rw [hrd] at hstable
            simp only [if_true] at hstable
            split at hstable
            · rename_i r' H' hq
              rw [AV.same_eq _ _ hstable] at hq
              exact ⟨H', hq⟩
            · cases hstable
          | false => exact ⟨_, (evOp_still (H2 := heapAt post Hn) hone hmk hfl).2 hrd⟩
        obtain ⟨H', hevT⟩ := hevT
        have hH' : H' = heapAt post Hn := (evOp_still (H2 := H') hevT hmk hfl).1
        rw [hH'] at hevT
        refine op_step hE hC hst hevT (fun v w' Z' ι' g1 g2 g3 => ?_)
        refine hk pre post Z' ι' _ w' (hd.float hg hpre hl hi hdeps' g2 (hd.glob.ext g3) (hd.ext.trans g3) g3.zone g3.inj g1 (fun u hu hne hn hlt' hm hwu => ?_))
        cases hq : ι' u.H.length with
        | none => rfl
        | some L =>
          rcases g3.old _ _ hq with ⟨L0, h0⟩ | h0
          · rw [hn] at h0; cases h0
          · omega
      | true =>
        -- it makes a block
        have hrd : readsH t.o.op = false := by revert hmk; cases t.o.op <;> simp [makesH, readsH]
        rw [hrd, hmk] at hstable
        simp only [Bool.false_eq_true, if_false, if_true] at hstable
        obtain ⟨q1, q2, q3⟩ := hd.pend t hpre hl hmk hwt
        obtain ⟨k, arr, el, v, m1, m2, m3, m4, m5, m6, m7, m8⟩ := make_run (P := P) (a := a) (H2 := heapAt post Hn) (by rw [hev]; exact hone) hmk hd.inv hd.glob hd.env
        have hk1 : t.H1[t.H.length]? = some k := by rw [m1]; simp
        rw [hk1] at hstable
        split at hstable
        · rename_i k1 k2 hk1' hk2
          cases hk2
          have hkk := sameBlk_eq hstable
          subst hkk
          obtain ⟨g1, g2, g3⟩ := hd.inv.newAt hk1' q1 m2 m3 arr el m6 m5 m7
          refine wp_value m4 ?_
          refine hk pre post Z _ _ _ (hd.float hg hpre hl hi hdeps' g1 hd.glob (g3 _ _ _ _ hd.ext q2) (fun _ _ _ h => h) g2 (m8 Z _ (addI_same _ _ _)) (fun u hu hne hn hlt' hm' hwu => ?_))
          have hneq : u.H.length ≠ t.H.length := by
            have hu' : u ∈ tr := by rw [hd.split]; exact List.mem_append_left _ hu
            have ht' : t ∈ tr := by rw [hd.split]; exact List.mem_append_left _ hpre
            exact hg.chain.apart (CallOk.eff hC) hlo u hu' t ht' hne hm' hmk hwu hwt
          rw [addI_other hneq]
          exact hn
        · cases hstable
    · unfold evOne at hone
      rw [if_neg hwt] at hone
      have hrr : t.r = .undef := (Prod.mk.inj (Option.some.inj hone)).1.symm
      have hwant : ¬ Region.wanted t.o (yielded ops a.tmps) = true := by rw [wanted_ok hd.env, hw]; exact hwt
      unfold wpOp
      rw [ho]
      simp only
      rw [if_neg hwant]
      exact hk pre post Z ι _ w (hd.float hg hpre hl hi hdeps' hd.inv hd.glob hd.ext (fun _ _ _ h => h) hne (by rw [hrr]; exact .undef) (fun u hu _ hn _ _ _ => hn))
  · -- it is the next one that writes
    rcases hd.head with hnil | ⟨u, m, hpm, hu⟩
    · rw [hnil] at hpost; cases hpost
    · rw [hpm] at hpost
      have htu : t = u := by
        rcases List.mem_cons.1 hpost with h | h
        · exact h
        · exfalso
          have hp := hg.pair
          rw [hd.split, hpm, List.pairwise_append] at hp
          have h1 := ((List.pairwise_cons.1 hp.2.1).1 t h).2 (.inl hu)
          have := hanc _ h1
          rw [hd.later u (by rw [hpm]; exact List.mem_cons_self)] at this
          cases this
      subst htu
      have hs : tr = pre ++ t :: m := by rw [hd.split, hpm]
      have hch : Chain P S call lo ops (pre ++ t :: m) e0 H0 en Hn := hs ▸ hg.chain
      obtain ⟨_, ho', hone, hrest⟩ := hch.split
      rw [ho] at ho'
      cases ho'
      have hlook := looks_same hg hd.closed hs hl hdeps'
      have hev := looks_one (P := P) (S := S) (call := call) (lo := lo) (ops := ops) (o := t.o) (e := foldE (fun i => listed.getD i false) tr e0) (e' := t.e) (fun x hx => hlook x (.inl hx)) t.H
      have hHT : heapAt post Hn = t.H := by rw [hpm]; rfl
      have hinv := hd.inv
      have hext := hd.ext
      rw [hHT] at hinv hext
      have hst : StR S.G (foldE (fun i => listed.getD i false) tr e0) t.H Z ι a w := ⟨hinv, hd.glob, hd.env, hd.def_⟩
      refine one_step hE hC ho hst (hev.trans hone) (fun v w' Z' ι' g1 g2 g3 => ?_)
      obtain ⟨fl, post', hm1, hm2, hm3⟩ := takeFloats m
      rw [hm1] at hrest
      obtain ⟨e1, hfl⟩ := hrest.toHeap
      obtain ⟨⟨ext, hext1⟩, hfl2⟩ := hfl.floats hm2
      refine hk (pre ++ t :: fl) post' Z' ι' _ w' ⟨by rw [hs, hm1]; simp, by simpa using hd.size, hm3, fun v hv => ?_, fun v hv hc => ?_, closed_set hi hd.closed hdeps', by rw [hext1]; exact g2.grow ext, hd.glob.ext g3, by rw [hext1]; exact (hext.trans g3).grow ext, by cases t.o.dst <;> exact hd.def_, ?_, fun v hv hvl hmk hwv => ?_⟩
      · have hne : v.i ≠ t.i := by
          have hp := hg.pair
          rw [hs, List.pairwise_append] at hp
          exact fun h => ((List.pairwise_cons.1 hp.2.1).1 v (by rw [hm1]; simp [hv])).1 h.symm
        rw [set_get hi, if_neg hne]
        exact hd.later v (by rw [hpm, hm1]; simp [hv])
      · rw [set_get hi]
        split
        · rfl
        · rename_i hne
          rcases List.mem_append.1 hv with hv | hv
          · exact hd.chain v hv hc
          · rcases List.mem_cons.1 hv with rfl | hv
            · exact absurd rfl hne
            · rw [hm2 v hv] at hc; cases hc
      · have h1 : EnvR Z' ι' (putE (foldE (fun i => listed.getD i false) tr e0) t.o.dst t.r) (a.put t.o.dst v).tmps := EnvR.put (a := a) (hd.env.ext g3) t.o.dst g1
        refine env_of h1 ?_ (env_next hg hd.closed hs hi hl)
        rw [foldE_len]
        cases t.o.dst <;> simp [putE, foldE_len]
      · rw [set_get hi] at hvl
        split at hvl
        · cases hvl
        · rename_i hne
          have hlen : t.H1.length ≤ (heapAt post' Hn).length := by rw [hext1]; simp
          rcases List.mem_append.1 hv with hv | hv
          · obtain ⟨q1, q2, q3⟩ := hd.pend v hv hvl hmk hwv
            rw [hHT] at q3
            refine ⟨?_, q2, Nat.lt_of_lt_of_le (Nat.lt_of_lt_of_le q3 g3.hlen) hlen⟩
            cases hq : ι' v.H.length with
            | none => rfl
            | some L =>
              rcases g3.old _ _ hq with ⟨L0, h0⟩ | h0
              · rw [q1] at h0; cases h0
              · omega
          · rcases List.mem_cons.1 hv with rfl | hv
            · exact absurd rfl hne
            · obtain ⟨f1, ext', f2⟩ := hfl2 v hv
              refine ⟨?_, by have := hext.hlen; have := g3.hlen; omega, ?_⟩
              · cases hq : ι' v.H.length with
                | none => rfl
                | some L => have := g2.dom _ _ hq; omega
              · have hvs : ∃ l1 l2, fl = l1 ++ v :: l2 := List.append_of_mem hv
                obtain ⟨l1, l2, hvs⟩ := hvs
                rw [hvs] at hfl
                obtain ⟨_, _, hov, _⟩ := hfl.split
                unfold evOne at hov
                rw [if_pos hwv] at hov
                obtain ⟨k, hk⟩ := makes_new hov hmk
                rw [f2, hk]
                simp

theorem draw_any (hm : EqOk P S.eqT) (hC : CallOk P S.G call) (hlo : lo ≤ H0.length) (hg : Good P S call lo ops tr e0 H0 en Hn) {Q : Exit → Act → World → Prop}
    (hq : ∀ a w Z ι, StR S.G en Hn Z ι a w → Ext H0 Z0 ι0 w0 Hn Z ι w → Q .normal a w) : ∀ (fuel : Nat) {pre post : List Tr} {listed : Array Bool} {Z : Zone} {ι : Inj} {a : Act} {w : World},
    DSt P S ops tr e0 H0 Z0 ι0 w0 Hn pre post listed Z ι a w → (tr.filter fun t => !listed.getD t.i false).length ≤ fuel → wpAny P .any ops Q fuel listed a w := by
  have done : ∀ {pre post : List Tr} {listed : Array Bool} {Z : Zone} {ι : Inj} {a : Act} {w : World}, DSt P S ops tr e0 H0 Z0 ι0 w0 Hn pre post listed Z ι a w → Region.ready .any ops listed = [] → Q .normal a w := by
    intro pre post listed Z ι a w hd hr
    have hall : ∀ i, i < ops.size → listed.getD i false = true := by
      intro i
      induction i using Nat.strongRecOn with
      | _ i ih =>
        intro hi
        cases hl : listed.getD i false with
        | true => rfl
        | false =>
          exfalso
          have hmem : i ∈ Region.ready .any ops listed := by
            unfold Region.ready
            rw [List.mem_filter]
            refine ⟨by simpa using hi, ?_⟩
            have hli : i < listed.size := by rw [hd.size]; exact hi
            rw [Bool.and_eq_true]
            refine ⟨?_, ?_⟩
            · simp [Array.getD, hli] at hl ⊢; exact hl
            · rw [Array.getElem?_eq_getElem hi]
              simp only [Option.map_some, Option.getD_some]
              refine Array.all_eq_true_iff_forall_mem.2 (fun e he => ?_)
              cases hb : Region.binds .any e with
              | false => rfl
              | true =>
                have hlt := hg.back i _ e (Array.getElem?_eq_getElem hi) he hb
                simp only [Bool.not_true, Bool.false_or]
                exact ih _ hlt (by omega)
          rw [hr] at hmem
          cases hmem
    have htr : ∀ t ∈ tr, listed.getD t.i false = true := by
      intro t ht
      obtain ⟨l1, l2, hs⟩ := List.append_of_mem ht
      have hch : Chain P S call lo ops (l1 ++ t :: l2) e0 H0 en Hn := hs ▸ hg.chain
      obtain ⟨_, ho, _⟩ := hch.split
      exact hall _ (Array.getElem?_eq_some_iff.1 ho).1
    have hpost : post = [] := by
      cases post with
      | nil => rfl
      | cons u m =>
        have h1 := hd.later u List.mem_cons_self
        rw [htr u (by rw [hd.split]; simp)] at h1
        cases h1
    subst hpost
    refine hq a w Z ι ⟨hd.inv, hd.glob, ?_, hd.def_⟩ hd.ext
    have he : ∀ x : Nat, en[x]? = (foldE (fun i => listed.getD i false) tr e0)[x]? := by
      intro x
      rw [← hg.chain.all]
      exact foldE_get _ _ x tr e0 e0 rfl (fun t ht _ => (htr t ht).symm)
    refine env_of hd.env ?_ he
    rw [← hg.chain.all, foldE_len, foldE_len]
  intro fuel
  induction fuel with
  | zero =>
    intro pre post listed Z ι a w hd hf
    have hnone : Region.ready .any ops listed = [] := by
      cases hr : Region.ready .any ops listed with
      | nil => rfl
      | cons i l =>
        exfalso
        obtain ⟨hlt, hl, _⟩ := ready_iff (i := i) hd.size (by rw [hr]; exact List.mem_cons_self)
        obtain ⟨t, ht, rfl⟩ := hg.all i hlt
        have : t ∈ tr.filter fun t => !listed.getD t.i false := List.mem_filter.2 ⟨ht, by rw [hl]; rfl⟩
        have := List.length_pos_of_mem this
        omega
    exact ⟨hnone, done hd hnone⟩
  | succ fuel ih =>
    intro pre post listed Z ι a w hd hf
    refine ⟨fun hr => done hd hr, fun i hi => ?_⟩
    refine draw_step hm hC hlo hg hd hi (fun pre' post' Z' ι' a' w' hd' => ih hd' ?_)
    obtain ⟨hlt, hl, _⟩ := ready_iff hd.size hi
    obtain ⟨t, ht, rfl⟩ := hg.all i hlt
    have hsz : t.i < listed.size := by rw [hd.size]; exact hlt
    have := filter_lt (fun t => !listed.getD t.i false) (fun u => !(listed.setIfInBounds t.i true).getD u.i false) tr (fun u _ h => by
      simp only [set_get hsz] at h
      split at h
      · cases h
      · exact h) ⟨t, ht, by simp only [hl]; rfl, by simp [set_get hsz]⟩
    omega

theorem evDraw_good {e0 : Env} {H0 : Heap} {en : Env} {Hn : Heap} (h : evDraw P S call lo ops e0 H0 = some (en, Hn)) : lo ≤ H0.length ∧ ∃ tr, Good P S call lo ops tr e0 H0 en Hn := by
  unfold evDraw at h
  simp only at h
  split at h
  · rename_i hp
    split at h
    · rename_i ts e' H' hrun
      split at h
      · rename_i hst
        cases h
        obtain ⟨g1, g2⟩ := runPlan_ok hrun
        rw [Bool.and_eq_true] at hp
        obtain ⟨hlo, hp⟩ := hp
        unfold planOk at hp
        simp only [Bool.and_eq_true] at hp
        obtain ⟨⟨⟨p1, p2⟩, p3⟩, p4⟩ := hp
        have hops : ∀ t ∈ ts, ops[t.i]? = some t.o := by
          intro t ht
          obtain ⟨l1, l2, hs⟩ := List.append_of_mem ht
          have hch : Chain P S call lo ops (l1 ++ t :: l2) e0 H0 en Hn := hs ▸ g1
          exact hch.split.2.1
        refine ⟨of_decide_eq_true hlo, ts, g1, fun i hi => ?_, ?_, hst, ?_, fun i o e ho he hb => ?_⟩
        · have := List.all_eq_true.1 p2 i (by simpa using hi)
          have hm : i ∈ planOf ops := by simpa using this
          rw [← g2] at hm
          obtain ⟨t, ht, rfl⟩ := List.mem_map.1 hm
          exact ⟨t, ht, rfl⟩
        · have key : ∀ (l : List Tr), (∀ t ∈ l, ops[t.i]? = some t.o) → orderOk ops (ancs ops) (l.map (·.i)) = true → l.Pairwise fun t u => t.i ≠ u.i ∧ ((chainH t.o.op = true ∨ Oper.apart ops t.o u.o = false) → Anc ops t.i u.i) := by
            intro l
            induction l with
            | nil => intro _ _; exact .nil
            | cons t l ih =>
              intro ho hk
              simp only [List.map_cons, orderOk, Bool.and_eq_true] at hk
              obtain ⟨⟨k1, k2⟩, k3⟩ := hk
              refine .cons (fun u hu => ⟨fun heq => ?_, fun hc => ?_⟩) (ih (fun u hu => ho u (List.mem_cons_of_mem _ hu)) k3)
              · have : t.i ∈ l.map (·.i) := by rw [heq]; exact List.mem_map_of_mem hu
                simp [this] at k2
              · have := List.all_eq_true.1 k1 u.i (List.mem_map_of_mem hu)
                have e1 : opAt ops t.i = t.o := by unfold opAt; rw [Array.getD_eq_getD_getElem?, ho t List.mem_cons_self]; rfl
                have e2 : opAt ops u.i = u.o := by unfold opAt; rw [Array.getD_eq_getD_getElem?, ho u (List.mem_cons_of_mem _ hu)]; rfl
                unfold pairOk at this
                rw [e1, e2] at this
                refine isAnc_ok ?_
                rcases hc with hc | hc
                · simpa [hc] using this
                · simpa [hc] using this
          exact key ts hops (by rw [g2]; exact p3)
        · have h1 : (ts.map (·.i)).length = ops.size := by rw [g2]; simpa using p1
          simpa using Nat.le_of_eq h1
        · have hi := (Array.getElem?_eq_some_iff.1 ho).1
          have := List.all_eq_true.1 p4 i (by simpa using hi)
          have e1 : opAt ops i = o := by unfold opAt; rw [Array.getD_eq_getD_getElem?, ho]; rfl
          rw [e1] at this
          have := List.all_eq_true.1 this e (by simpa using he)
          simpa [hb] using this
      · cases h
    · cases h
  · cases h

theorem draw_ok (hm : P.follows .mixedOrders = true) (hE : EqOk P S.eqT) (hC : CallOk P S.G call) {e0 : Env} {H0 : Heap} {en : Env} {Hn : Heap} (h : evDraw P S call lo ops e0 H0 = some (en, Hn)) : (lo ≤ H0.length → Eff lo H0 Hn) ∧
    ∀ (id : Nat) (Z : Zone) (ι : Inj) (a : Act) (w : World) (Q : Exit → Act → World → Prop), StR S.G e0 H0 Z ι a w → (∀ a' w' Z' ι', StR S.G en Hn Z' ι' a' w' → Ext H0 Z ι w Hn Z' ι' w' → Q .normal a' w') → (Code.region id ops true).wp P Q a w := by
  obtain ⟨hlo, tr, hg⟩ := evDraw_good h
  refine ⟨fun _ => ?_, fun id Z ι a w Q hs hq => ?_⟩
  · have key : ∀ {l : List Tr} {e : Env} {H : Heap} {en : Env} {Hn : Heap}, Chain P S call lo ops l e H en Hn → lo ≤ H.length → Eff lo H Hn := by
      intro l e H en Hn h
      induction h with
      | nil => intro _; exact Eff.refl _ _
      | cons i o e H r H1 l en Hn ho h t ih =>
        intro hl
        have h1 := evOne_eff (CallOk.eff hC) hl h
        exact h1.trans (ih (Nat.le_trans hl h1.1))
    exact key hg.chain hlo
  · refine wp_region_any hm ?_
    obtain ⟨fl, post, h1, h2, h3⟩ := takeFloats tr
    have hnone : ∀ i, (Array.replicate ops.size false).getD i false = false := by
      intro i
      simp only [Array.getD_eq_getD_getElem?, Array.getElem?_replicate]
      split <;> rfl
    have hch := hg.chain
    rw [h1] at hch
    obtain ⟨e1, hfl⟩ := hch.toHeap
    obtain ⟨⟨ext, hext⟩, hfl2⟩ := hfl.floats h2
    have hw : ({ w with drawn := w.drawn + 1 } : World).heap = w.heap := rfl
    have hI := hs.inv.heap_eq hw
    have hX : Ext H0 Z ι w H0 Z ι { w with drawn := w.drawn + 1 } := Ext.heap_eq hw rfl rfl rfl
    refine draw_any (Z0 := Z) (ι0 := ι) (w0 := w) hE hC hlo hg (fun a' w' Z' ι' g1 g2 => hq a' w' Z' ι' g1 g2) ops.size (pre := fl) (post := post) (Z := Z) (ι := ι) ⟨h1, (by simp), h3, (fun t _ => hnone _), (fun t ht hc => by rw [h2 t ht] at hc; cases hc), (fun j o e _ _ _ hj => by simp only [hnone] at hj; cases hj), (by rw [hext]; exact hI.grow ext), hs.glob, (by rw [hext]; exact hX.grow ext), hs.def_, ?_, fun t ht _ hmk hwt => ?_⟩ ?_
    · refine env_of hs.env ?_ ?_
      · rw [foldE_len]
      · intro x
        rw [foldE_get _ (fun _ => false) x tr e0 e0 rfl (fun t _ _ => hnone _), foldE_none]
    · obtain ⟨f1, ext', f2⟩ := hfl2 t ht
      refine ⟨?_, f1, ?_⟩
      · cases hq : ι t.H.length with
        | none => rfl
        | some L => have := hs.inv.dom _ _ hq; omega
      · obtain ⟨l1, l2, hvs⟩ := List.append_of_mem ht
        rw [hvs] at hfl
        obtain ⟨_, _, hov, _⟩ := hfl.split
        unfold evOne at hov
        rw [if_pos hwt] at hov
        obtain ⟨k, hk⟩ := makes_new hov hmk
        rw [f2, hk]
        simp
    · refine Nat.le_trans (List.length_filter_le _ _) ?_
      exact hg.len

/-! ## 17. The whole abstract run -/
def regA (P : Program) (S : Sig) (call : CallA) (lo : Nat) : RegA := fun ops draw e H => if draw then evDraw P S call lo ops e H else evOps P S call lo ops ops.toList e H
theorem reg_ok (hm : P.follows .mixedOrders = true) (hE : EqOk P S.eqT) (hC : CallOk P S.G call) : RegOk P S lo (regA P S call lo) := by
  intro ops draw e H e' H' h
  unfold regA at h
  split at h
  · rename_i hd
    subst hd
    exact draw_ok hm hE hC h
  · rename_i hd
    have hd : draw = false := by simpa using hd
    subst hd
    refine ⟨fun hl => evOps_eff (CallOk.eff hC) hl h, fun id Z ι a w Q hs hq => wp_region ?_⟩
    have := ops_ok hE hC ops.toList 0 rfl hs h hq
    simpa [List.range_eq_range'] using this
/-- A run with a bound on its depth and its rounds. -/
def run (P : Program) (S : Sig) (W : Way) (k : Nat) : CallA := ev P S W (regA P S) k
theorem run_ok {W : Way} (hm : P.follows .mixedOrders = true) (hE : EqOk P S.eqT) (hX : ExtOk P S W) (k : Nat) : CallOk P S.G (run P S W k) := ev_ok hX (fun _ hC _ => reg_ok hm hE hC) k
end
end Go.Proofs.YtbjcghnhhgdopaaGreatDoor.Ai
