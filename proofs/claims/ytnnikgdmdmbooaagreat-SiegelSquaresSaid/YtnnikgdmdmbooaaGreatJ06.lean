/- The beginning and the end of a call; a state told in weaker words. The same operations with the arithmetic behind a name: so they are evaluated without it. The run: a function that walks through code and gathers what is to be shown. -/
import Derived.Test.YtnnikgdmdmbooaaGreatJ05
set_option linter.unusedVariables false
set_option linter.unusedSimpArgs false
namespace Go.VI

structure JobOK (J : Job) : Prop where
  own : ∀ b o r q k, J.g0 b o = .own r q k → (J.hdr r).isSome
  hdr : ∀ r, J.hdr r = (ofList J.inn r).map fun root => (root.av, J.rv0 r)
  small : ∀ r, (ofList J.inn r).isSome → r < RK 0

/-- What may be said of a value in other words. -/
def weak1 : VV → VV → Option (List Prop)
  | .int k a, .int k' b => if k = k' then some [a = b] else none
  | .bool a, .bool b => some [a = b]
  | .con (.bool a), .bool b => some [a = b]
  | .str a, .str b => some [a = b]
  | .con v, .con v' => some [v = v']
  | .nils, .nils => some []
  | .nils, .imm _ _ els => some [els = []]
  | .imm e f l, .imm e' f' l' => if e = e' ∧ (f' = true → f = true) then some [l = l'] else none
  | .agg t d, .agg t' d' => if t = t' then some [d = d'] else none
  | .iaddr t d, .iaddr t' d' => if t = t' then some [d = d'] else none
  | .top r av, .top r' av' => if r = r' ∧ av = av' then some [] else none
  | .win r av off len full, .win r' av' off' len' full' => if r = r' ∧ av = av' ∧ (full' = true → full = true) then some [off = off', len = len'] else none
  | .addr r av i q t, .addr r' av' i' q' t' => if r = r' ∧ av = av' ∧ q = q' ∧ t = t' then some [i = i'] else none
  | _, .dead => some []
  | _, _ => none

def weakL : List VV → List VV → Option (List Prop)
  | [], [] => some []
  | x :: l, y :: l' => match weak1 x y, weakL l l' with
    | some a, some b => some (a ++ b)
    | _, _ => none
  | _, _ => none

def weakV : VV → VV → Option (List Prop)
  | .fn f caps, .fn f' caps' => if f = f' then weakL caps caps' else none
  | x, y => weak1 x y

section
variable {P : Program} {T : Tab} (hT : TabOK P T) {C : Ctx} {g : Tags} {w : World} {rv : Nat → Value} {ρ : Roots} {sl : List VV} {a : Act}

theorem weak1_sr {x y : VV} {v : Value} {obs : List Prop} (h : weak1 x y = some obs) (ho : ∀ p ∈ obs, p) (hx : SR T g w rv ρ x v) (hl : Live ρ x) : SR T g w rv ρ y v ∧ Live ρ y := by
  unfold weak1 at h
  split at h
  · split at h
    · rename_i e; subst e
      simp only [Option.some.injEq] at h; subst h
      obtain ⟨rfl, _⟩ := all_cons ho
      exact ⟨hx, hl⟩
    · simp at h
  · simp only [Option.some.injEq] at h; subst h
    obtain ⟨rfl, _⟩ := all_cons ho
    exact ⟨hx, hl⟩
  · simp only [Option.some.injEq] at h; subst h
    obtain ⟨rfl, _⟩ := all_cons ho
    cases hx
    exact ⟨.bool, fun r av hn => by cases hn⟩
  · simp only [Option.some.injEq] at h; subst h
    obtain ⟨rfl, _⟩ := all_cons ho
    exact ⟨hx, hl⟩
  · simp only [Option.some.injEq] at h; subst h
    obtain ⟨rfl, _⟩ := all_cons ho
    exact ⟨hx, hl⟩
  · exact ⟨hx, hl⟩
  · simp only [Option.some.injEq] at h; subst h
    obtain ⟨rfl, _⟩ := all_cons ho
    cases hx
    refine ⟨.imm ?_ fun _ => ⟨none, rfl⟩, fun r av hn => by cases hn⟩
    exact DR.node (d := .list []) none 0 0 0 (fun _ => []) (fun h => absurd rfl h) (Mode.Cap.refl _ _) (fun i hi => absurd hi (by simp [D.els])) (fun i k v hi => absurd hi (by simp [D.els])) (fun i hi => absurd hi (by simp [D.els]))
  · split at h
    · rename_i hc
      obtain ⟨e, hf⟩ := hc
      subst e
      simp only [Option.some.injEq] at h; subst h
      obtain ⟨rfl, _⟩ := all_cons ho
      cases hx with
      | imm h1 h2 => exact ⟨.imm h1 fun h => h2 (hf h), fun r av hn => by cases hn⟩
    · simp at h
  · split at h
    · rename_i e; subst e
      simp only [Option.some.injEq] at h; subst h
      obtain ⟨rfl, _⟩ := all_cons ho
      exact ⟨hx, hl⟩
    · simp at h
  · split at h
    · rename_i e; subst e
      simp only [Option.some.injEq] at h; subst h
      obtain ⟨rfl, _⟩ := all_cons ho
      exact ⟨hx, hl⟩
    · simp at h
  · split at h
    · rename_i e
      obtain ⟨rfl, rfl⟩ := e
      exact ⟨hx, hl⟩
    · simp at h
  · split at h
    · rename_i e
      obtain ⟨rfl, rfl, hf⟩ := e
      simp only [Option.some.injEq] at h; subst h
      have e2 := (all_cons (all_cons ho).2).1
      have e1 := (all_cons ho).1
      clear ho
      subst e1 e2
      cases hx with
      | win hx =>
        refine ⟨.win fun root hr hav => ?_, fun r av hn => by cases hn; exact hl _ _ .win⟩
        obtain ⟨k1, A, c, k2, k3, k4, k5⟩ := hx root hr hav
        exact ⟨k1, A, c, k2, k3, fun h => k4 (hf h), k5⟩
    · simp at h
  · split at h
    · rename_i e
      obtain ⟨rfl, rfl, rfl, rfl⟩ := e
      simp only [Option.some.injEq] at h; subst h
      obtain ⟨rfl, _⟩ := all_cons ho
      exact ⟨hx, hl⟩
    · simp at h
  · exact ⟨.dead, fun r av hn => by cases hn⟩
  · simp at h

theorem weakL_get : ∀ {l l' : List VV} {obs : List Prop}, weakL l l' = some obs → (∀ p ∈ obs, p) → l.length = l'.length ∧ ∀ (i : Nat) x y, l[i]? = some x → l'[i]? = some y → ∃ obs', weak1 x y = some obs' ∧ ∀ p ∈ obs', p
  | [], [], obs, h, _ => ⟨rfl, fun i x y hx => by simp at hx⟩
  | x :: l, y :: l', obs, h, ho => by
    simp only [weakL] at h
    split at h
    · rename_i a b h1 h2
      simp only [Option.some.injEq] at h; subst h
      obtain ⟨e, ih⟩ := weakL_get h2 fun p hp => ho p (List.mem_append_right _ hp)
      refine ⟨by simp [e], fun i x' y' hx hy => ?_⟩
      cases i with
      | zero =>
        simp only [List.getElem?_cons_zero, Option.some.injEq] at hx hy
        subst hx; subst hy
        exact ⟨a, h1, fun p hp => ho p (List.mem_append_left _ hp)⟩
      | succ i => exact ih i x' y' (by simpa using hx) (by simpa using hy)
    · simp at h
  | [], _ :: _, obs, h, _ => by simp [weakL] at h
  | _ :: _, [], obs, h, _ => by simp [weakL] at h

theorem weakV_sr {x y : VV} {v : Value} {obs : List Prop} (h : weakV x y = some obs) (ho : ∀ p ∈ obs, p) (hx : SR T g w rv ρ x v) (hl : Live ρ x) : SR T g w rv ρ y v ∧ Live ρ y := by
  unfold weakV at h
  split at h
  · rename_i f caps f' caps'
    split at h
    · rename_i e
      subst e
      obtain ⟨hlen, hw⟩ := weakL_get h ho
      cases hx with
      | @fn _ _ cs h1 h2 =>
        have one : ∀ (i : Nat) y v, caps'[i]? = some y → cs[i]? = some v → SR T g w rv ρ y v ∧ Live ρ y := by
          intro i y v hy hv
          have hlt : i < caps.length := by
            rcases Nat.lt_or_ge i caps'.length with h' | h'
            · omega
            · rw [List.getElem?_eq_none h'] at hy; simp at hy
          obtain ⟨obs', k1, k2⟩ := hw i caps[i] y (by simp [hlt]) hy
          exact weak1_sr k1 k2 (h2 i caps[i] v (by simp [hlt]) hv) (fun r av hn => hl r av (.fn (List.getElem_mem hlt) hn))
        refine ⟨.fn (by omega) fun i y v hy hv => (one i y v hy hv).1, fun r av hn => ?_⟩
        cases hn with
        | fn hm hn =>
          obtain ⟨i, hi⟩ := List.mem_iff_getElem?.1 hm
          have hlt : i < cs.size := by
            rcases Nat.lt_or_ge i caps'.length with h' | h'
            · omega
            · rw [List.getElem?_eq_none h'] at hi; simp at hi
          exact (one i _ cs[i] hi (by simp [hlt])).2 r av hn
    · simp at h
  · exact weak1_sr h ho hx hl

theorem clean_sr {x : VV} {v : Value} {g' : Tags} {w' : World} {rv' : Nat → Value} {ρ' : Roots} (hc : clean x = true) (h : SR T g w rv ρ x v)
    (himm : ∀ b o u, g b o = .imm → cellOf w b o = some u → g' b o = .imm ∧ cellOf w' b o = some u ∧ frozenOf w' b o = frozenOf w b o) : SR T g' w' rv' ρ' x v ∧ Live ρ' x := by
  have hn := clean_names hc
  exact ⟨h.keep himm (fun r av h => absurd h (hn r av)) (fun r av h => absurd h (hn r av)), fun r av h => absurd h (hn r av)⟩

/-! ### The beginning -/

theorem Ok.intro {f : FuncId} {fn : Func} {body : Code} {args : List VV} {inn : List (Nat × Root)} {res : RV} {out : List (Nat × Root)} (hfn : P.funcs[f]? = some fn) (hname : (fn.name == "runtime.NumGoroutine") = false)
    (hbody : fn.body = some body) (hsmall : ∀ r, (ofList inn r).isSome → r < RK 0) (hkeys : ∀ r root, ofList inn r = some root → root.keys = [])
    (h : ∀ J : Job, J.f = f → J.inn = inn → J.res = res → J.out = out → JobOK J → Fin P T J [.code body] (ofList inn) (args ++ List.replicate (fn.ntmps - args.length) .dead)) : Ok P T f args inn res out := by
  refine ⟨⟨fn, hfn, hname, by rw [hbody]; rfl⟩, fun w g rv vals hr cs => ?_⟩
  let J : Job := { f, w0 := w, g0 := g, rv0 := rv, hdr := fun r => (ofList inn r).map fun root => (root.av, rv r), inn, res, out }
  have hJ : JobOK J := by
    refine ⟨fun b o r q k hg => ?_, fun r => rfl, hsmall⟩
    have := hr.live b o r q k hg
    simp only [J, Option.isSome_map]; exact this
  have hfin := h J rfl rfl rfl rfl hJ
  have he : Frame.enter P f vals .normal = ({ fn := f, tmps := #[], todo := [], defers := [], mode := .run, kind := .normal } : Frame).at { tmps := vals ++ Array.replicate (fn.ntmps - vals.size) undef, defers := [] } [.code body] := by
    simp [Frame.enter, Frame.at, hfn, hbody]
  have hRe : R T J.C g w rv (ofList inn) (args ++ List.replicate (fn.ntmps - args.length) .dead) { tmps := vals ++ Array.replicate (fn.ntmps - vals.size) undef, defers := [] } := by
    refine ⟨Ev.refl w g, rfl, by simp [hr.len], fun i x v hx hv => ?_, fun i x hx => ?_, hr.roots, hr.live, fun r root hr' K hK => ?_, fun r av v hh => ?_⟩
    · rcases Nat.lt_or_ge i args.length with hi | hi
      · rw [List.getElem?_append_left hi] at hx
        rw [Array.getElem?_append_left (by rw [← hr.len]; exact hi)] at hv
        exact hr.reads i x v hx hv
      · rw [List.getElem?_append_right hi, List.getElem?_replicate] at hx
        split at hx
        · simp only [Option.some.injEq] at hx; subst hx; exact .dead
        · simp at hx
    · rcases Nat.lt_or_ge i args.length with hi | hi
      · rw [List.getElem?_append_left hi] at hx
        exact hr.names x (List.mem_of_getElem? hx)
      · rw [List.getElem?_append_right hi, List.getElem?_replicate] at hx
        split at hx
        · simp only [Option.some.injEq] at hx; subst hx; intro r av hn; cases hn
        · simp at hx
    · rw [hkeys r root hr'] at hK; simp at hK
    · simp only [Job.C, J, Option.map_eq_some_iff, Prod.mk.injEq] at hh
      obtain ⟨root, h1, rfl, rfl⟩ := hh
      exact ⟨root, h1, Nat.le_refl _, fun _ => rfl⟩
  obtain ⟨v, w', g', rv', fr, h1, h2, h3, h4⟩ := hfin g w rv _ hRe { fn := f, tmps := #[], todo := [], defers := [], mode := .run, kind := .normal } cs rfl rfl
  rw [← he] at h2
  exact ⟨.returned v, w', fr, ⟨v, g', rv', rfl, h1⟩, h2, h3, h4⟩

/-! ### The end -/

def resVV (T : Tab) (ρ : Roots) (sl : List VV) : ResultVar → Option VV
  | .tmp t => some (sl.getD t .dead)
  | .cell c t => match loadV T t (sl.getD c .dead) ρ .no with
    | some (x, []) => some x
    | _ => none

/-- A root fits what is told of it. -/
def fitR (x y : Root) : Option (List Prop) :=
  if x.e = y.e ∧ x.dep = y.dep ∧ (y.full = true → x.full = true) ∧ x.av = y.av ∧ x.held = y.held ∧ x.keys = y.keys then some [x.els = y.els] else none

def endV (ρ : Roots) (j : Nat) (x : VV) : RV → Option (List Prop)
  | .v y => if clean y then weakV x y else none
  | .own root => match x with
    | .top r av => if r = RK j then (match cur ρ r av with
      | some rt => if root.keys.isEmpty && !root.held then fitR rt root else none
      | none => none) else none
    | _ => none
  | .tup _ => none

def endL (ρ : Roots) : Nat → List VV → List RV → Option (List Prop)
  | _, [], [] => some []
  | j, x :: l, r :: rs => match endV ρ j x r, endL ρ (j + 1) l rs with
    | some a, some b => some (a ++ b)
    | _, _ => none
  | _, _, _ => none

def outL (ρ : Roots) : List (Nat × Root) → List (Nat × Root) → Option (List Prop)
  | [], [] => some []
  | (k, r0) :: l, (k', y) :: l' => match ρ k, outL ρ l l' with
    | some x, some b => if k = k' ∧ x.av = r0.av then (fitR x y).map (· ++ b) else none
    | _, _ => none
  | _, _ => none

theorem RootR.fit {r : Nat} {x y : Root} {obs : List Prop} (h : RootR T g w rv r x) (hf : fitR x y = some obs) (ho : ∀ p ∈ obs, p) : RootR T g w rv r y ∧ y.av = x.av ∧ y.keys = x.keys ∧ y.held = x.held ∧ y.els.length = x.els.length ∧ y.e = x.e := by
  unfold fitR at hf
  split at hf
  · rename_i hc
    obtain ⟨h1, h2, h3, h4, h5, h6⟩ := hc
    simp only [Option.some.injEq] at hf; subst hf
    obtain ⟨h7, _⟩ := all_cons ho
    exact ⟨⟨by rw [← h2]; exact h.dep, by rw [← h1, ← h2, ← h6, ← h7]; exact h.dr, fun hy => by rw [← h7]; exact h.full (h3 hy), by rw [← h1, ← h7]; exact h.spare, by rw [← h7]; exact h.form⟩,
      h4.symm, h6.symm, h5.symm, by rw [h7], h1.symm⟩
  · simp at hf

theorem endL_get : ∀ {l : List VV} {rs : List RV} {j0 : Nat} {obs : List Prop}, endL ρ j0 l rs = some obs → (∀ p ∈ obs, p) → l.length = rs.length ∧
    ∀ (i : Nat) x r, l[i]? = some x → rs[i]? = some r → ∃ obs', endV ρ (j0 + i) x r = some obs' ∧ ∀ p ∈ obs', p
  | [], [], j0, obs, h, _ => ⟨rfl, fun i x y hx => by simp at hx⟩
  | x :: l, r :: rs, j0, obs, h, ho => by
    simp only [endL] at h
    split at h
    · rename_i a b h1 h2
      simp only [Option.some.injEq] at h; subst h
      obtain ⟨e, ih⟩ := endL_get h2 fun p hp => ho p (List.mem_append_right _ hp)
      refine ⟨by simp [e], fun i x' y' hx hy => ?_⟩
      cases i with
      | zero =>
        simp only [List.getElem?_cons_zero, Option.some.injEq] at hx hy
        subst hx; subst hy
        exact ⟨a, h1, fun p hp => ho p (List.mem_append_left _ hp)⟩
      | succ i =>
        have := ih i x' y' (by simpa using hx) (by simpa using hy)
        rw [show j0 + 1 + i = j0 + (i + 1) from by omega] at this
        exact this
    · simp at h
  | [], _ :: _, j0, obs, h, _ => by simp [endL] at h
  | _ :: _, [], j0, obs, h, _ => by simp [endL] at h

theorem outL_get : ∀ {l l' : List (Nat × Root)} {obs : List Prop}, outL ρ l l' = some obs → (∀ p ∈ obs, p) →
    (∀ k y, ofList l' k = some y → ∃ x r0 obs', ρ k = some x ∧ ofList l k = some r0 ∧ x.av = r0.av ∧ fitR x y = some obs' ∧ ∀ p ∈ obs', p) ∧ ∀ k, (ofList l k).isSome → (ofList l' k).isSome ∧ ∃ x r0, ρ k = some x ∧ ofList l k = some r0 ∧ x.av = r0.av
  | [], [], obs, h, _ => ⟨fun k y hy => by simp [ofList, ups, noRoots] at hy, fun k hk => by simp [ofList, ups, noRoots] at hk⟩
  | (k, r0) :: l, (k', y) :: l', obs, h, ho => by
    simp only [outL] at h
    split at h
    · rename_i x b h1 h2
      split at h
      · rename_i hc
        obtain ⟨rfl, hav⟩ := hc
        cases hf : fitR x y with
        | none => rw [hf] at h; simp at h
        | some a =>
          rw [hf] at h
          simp only [Option.map_some, Option.some.injEq] at h; subst h
          obtain ⟨i1, i2⟩ := outL_get h2 fun p hp => ho p (List.mem_append_right _ hp)
          refine ⟨fun j z hz => ?_, fun j hj => ?_⟩
          · rw [ofList_cons] at hz
            split at hz
            · rename_i z' hz'
              simp only [Option.some.injEq] at hz; subst hz
              obtain ⟨x', r0', obs', m1, m2, m3, m4, m5⟩ := i1 j _ hz'
              exact ⟨x', r0', obs', m1, by rw [ofList_cons, m2], m3, m4, m5⟩
            · rename_i hn
              split at hz
              · rename_i e
                subst e
                simp only [Option.some.injEq] at hz; subst hz
                cases hl : ofList l j with
                | some r1 =>
                  have := (i2 j (by rw [hl]; rfl)).1
                  rw [hn] at this; simp at this
                | none => exact ⟨x, r0, a, h1, by rw [ofList_cons, hl]; simp, hav, hf, fun p hp => ho p (List.mem_append_left _ hp)⟩
              · simp at hz
          · rw [ofList_cons] at hj ⊢
            cases hl : ofList l j with
            | some r1 =>
              obtain ⟨m1, x', r0', m2, m3, m4⟩ := i2 j (by rw [hl]; rfl)
              obtain ⟨z, hz⟩ := Option.isSome_iff_exists.1 m1
              rw [hz]
              rw [hl] at m3
              exact ⟨rfl, x', r0', m2, by rw [ofList_cons, hl]; exact m3, m4⟩
            | none =>
              rw [hl] at hj
              by_cases e : j = k
              · subst e
                cases hl' : ofList l' j with
                | some z =>
                  obtain ⟨x', r0', obs', m1, m2, _⟩ := i1 j z hl'
                  rw [hl] at m2; simp at m2
                | none => exact ⟨by simp, x, r0, h1, by rw [ofList_cons, hl]; simp, hav⟩
              · simp [e] at hj
      · simp at h
    · simp at h
  | [], _ :: _, obs, h, _ => by simp [outL] at h
  | _ :: _, [], obs, h, _ => by simp [outL] at h

def getRV (tmps : Array Value) : ResultVar → Sem Value
  | .tmp t => pure (tmps.getD t undef)
  | .cell c t => do loadVar t (← asAddr (tmps.getD c undef))

def resAll (T : Tab) (ρ : Roots) (sl : List VV) : List ResultVar → Option (List VV)
  | [] => some []
  | r :: l => match resVV T ρ sl r, resAll T ρ sl l with
    | some x, some xs => some (x :: xs)
    | _, _ => none

include hT in
theorem resVV_sound (h : R T C g w rv ρ sl a) {r : ResultVar} {x : VV} (hx : resVV T ρ sl r = some x) :
    ∃ v, (getRV a.tmps r).run P w = .ok v w ∧ SR T g w rv ρ x v ∧ Live ρ x := by
  cases r with
  | tmp t =>
    simp only [resVV, Option.some.injEq] at hx; subst hx
    exact ⟨_, rfl, h.eval (.tmp t)⟩
  | cell c t =>
    simp only [resVV] at hx
    split at hx
    · rename_i x' hl
      simp only [Option.some.injEq] at hx; subst hx
      obtain ⟨v, h1, h2, h3⟩ := loadV_sound hT h.roots (h.eval (.tmp c)).1 hl (fun p hp => by simp at hp)
      refine ⟨v, ?_, h2, h3⟩
      simp only [Instr.loadAt, Act.eval] at h1
      simp only [getRV]
      revert h1
      generalize a.tmps.getD c undef = u
      intro h1
      cases u with
      | pointer p => cases p with
        | some p => simpa [Instr.sureAddr, asAddr] using h1
        | none => simp [Instr.sureAddr] at h1
      | _ => simp [Instr.sureAddr, asAddr] at h1 ⊢
    · simp at hx

include hT in
theorem resAll_sound (h : R T C g w rv ρ sl a) : ∀ {rs : List ResultVar} {xs : List VV}, resAll T ρ sl rs = some xs →
    ∃ vs : List Value, (rs.mapM (getRV a.tmps)).run P w = .ok vs w ∧ xs.length = vs.length ∧
      ∀ (i : Nat) x v, xs[i]? = some x → vs[i]? = some v → SR T g w rv ρ x v ∧ Live ρ x
  | [], xs, hx => by
    simp only [resAll, Option.some.injEq] at hx; subst hx
    exact ⟨[], by simp, rfl, fun i x v hx => by simp at hx⟩
  | r :: l, xs, hx => by
    simp only [resAll] at hx
    split at hx
    · rename_i y ys h1 h2
      simp only [Option.some.injEq] at hx; subst hx
      obtain ⟨v, k1, k2⟩ := resVV_sound hT h h1
      obtain ⟨vs, m1, m2, m3⟩ := resAll_sound h h2
      refine ⟨v :: vs, ?_, by simp [m2], fun i x u hx hu => ?_⟩
      · rw [List.mapM_cons, Sem.run_bind, k1, Result.andThen_ok, Sem.run_bind, m1, Result.andThen_ok, Sem.run_pure]
      · cases i with
        | zero =>
          simp only [List.getElem?_cons_zero, Option.some.injEq] at hx hu
          subst hx; subst hu; exact k2
        | succ i => exact m3 i x u (by simpa using hx) (by simpa using hu)
    · simp at hx

/-- The marks as the caller sees them. -/
def endTags (g : Tags) (keep : Nat → Bool) : Tags := fun b o => match g b o with
  | .own r q k => if keep r then .own r q k else .hid
  | t => t

def shapeOK (n : Nat) : RV → Bool
  | .tup l => n != 1 && l.length == n
  | _ => n == 1

include hT in
theorem Fin.ret {J : Job} (hJ : JobOK J) {fn : Func} (hfn : P.funcs[J.f]? = some fn) {k : List Item} {xs : List VV} {o1 o2 : List Prop} (hx : resAll T ρ sl fn.results.toList = some xs) (hs : shapeOK xs.length J.res = true)
    (h1 : endL ρ 0 xs J.res.parts = some o1) (h2 : outL ρ J.inn J.out = some o2) (ho1 : ∀ p ∈ o1, p) (ho2 : ∀ p ∈ o2, p) :
    (Fin P T J (.code .ret :: k) ρ sl) ∧ Fin P T J [] ρ sl := by
  have key : ∀ g w rv a, R T J.C g w rv ρ sl a → ∃ v g' rv', Left T J.g0 J.w0 J.rv0 g' w rv' J.inn J.out J.res v ∧ (results fn a.tmps).run P w = .ok v w := by
    intro g w rv a hR
    obtain ⟨vs, m1, m2, m3⟩ := resAll_sound hT hR hx
    obtain ⟨e1, e2⟩ := endL_get h1 ho1
    obtain ⟨q1, q2⟩ := outL_get h2 ho2
    have hrun : (results fn a.tmps).run P w = .ok (if h : vs.toArray.size = 1 then vs.toArray[0] else .tuple vs.toArray) w := by
      have hm : (fn.results.mapM (getRV a.tmps)).run P w = .ok vs.toArray w := by
        rw [Array.mapM_eq_mapM_toList, Sem.run_map, m1]; rfl
      have hres : results fn a.tmps = (do
          let vs ← fn.results.mapM (getRV a.tmps)
          pure (if h : vs.size = 1 then vs[0] else .tuple vs)) := by
        unfold results
        congr 1
      rw [hres, Sem.run_bind, hm, Result.andThen_ok, Sem.run_pure]
    let keep : Nat → Bool := fun r => (ofList J.out r).isSome || (List.range J.res.parts.length).any fun j => r == RK j && (match J.res.parts[j]? with | some (.own _) => true | _ => false)
    have immk : ∀ b o, g b o = .imm → endTags g keep b o = .imm := fun b o h => by simp [endTags, h]
    have ownk : ∀ b o r q k, g b o = .own r q k → keep r = true → endTags g keep b o = .own r q k := fun b o r q k h h' => by simp only [endTags, h, h', if_true]
    have keepR : ∀ r root, keep r = true → RootR T g w rv r root → root.keys = [] → RootR T (endTags g keep) w rv r root := by
      intro r root hkp hRr hks
      refine ⟨hRr.dep, hRr.dr.agree (fun b o v hc hv => ⟨?_, hv, rfl⟩) (fun K hK => by rw [hks] at hK; simp at hK), hRr.full, fun b o c h3 j h4 h5 => ?_, hRr.form⟩
      · cases hg : g b o with
        | imm => exact immk b o hg
        | hid => rw [hg] at hc; simp [Cov] at hc
        | own r' q j =>
          rw [hg] at hc
          have : r' = r := hc.1
          subst this
          exact ownk b o r' q j hg hkp
      · obtain ⟨n1, n2, n3⟩ := hRr.spare b o c h3 j h4 h5
        exact ⟨n1, ownk _ _ _ _ _ n2 hkp, n3⟩
    have part : ∀ (j : Nat) x v r, xs[j]? = some x → vs[j]? = some v → J.res.parts[j]? = some r → ResR T (endTags g keep) w rv j r v := by
      intro j x v r hxj hvj hrj
      obtain ⟨obs', n1, n2⟩ := e2 j x r hxj hrj
      rw [Nat.zero_add] at n1
      obtain ⟨hsr, hlv⟩ := m3 j x v hxj hvj
      cases r with
      | v y =>
        simp only [endV] at n1
        split at n1
        · rename_i hc
          obtain ⟨s1, s2⟩ := weakV_sr n1 n2 hsr hlv
          obtain ⟨s3, s4⟩ := clean_sr (g' := endTags g keep) (w' := w) (rv' := rv) (ρ' := noRoots) hc s1 (fun b o u hi hu => ⟨immk b o hi, hu, rfl⟩)
          exact .v s3 s4
        · simp at n1
      | own root =>
        simp only [endV] at n1
        split at n1
        · rename_i r av
          split at n1
          · rename_i e
            subst e
            split at n1
            · rename_i rt hcu
              obtain ⟨c1, c2⟩ := cur_some hcu
              split at n1
              · rename_i hck
                simp only [Bool.and_eq_true, List.isEmpty_iff, Bool.not_eq_true'] at hck
                obtain ⟨f1, f2, f3, f4, f5, f6⟩ := (hR.roots _ rt c1).fit n1 n2
                cases hsr with
                | top hsr =>
                  have hv := hsr rt c1 c2
                  subst hv
                  refine .own (keepR _ root ?_ f1 hck.1) hck.1 hck.2
                  simp only [keep, Bool.or_eq_true, List.any_eq_true, List.mem_range]
                  refine .inr ⟨j, ?_, by simp [hrj]⟩
                  rcases Nat.lt_or_ge j J.res.parts.length with h' | h'
                  · exact h'
                  · rw [List.getElem?_eq_none h'] at hrj; simp at hrj
              · simp at n1
            · simp at n1
          · simp at n1
        · simp at n1
      | tup l => simp [endV] at n1
    refine ⟨_, endTags g keep, rv, ⟨?_, ?_, fun r root hro => ?_, fun r hri => ?_, fun b o r q k hg => ?_⟩, hrun⟩
    · refine ⟨hR.ev.os, hR.ev.tape, hR.ev.output, hR.ev.size, hR.ev.blk, hR.ev.cell, hR.ev.froz, hR.ev.has, fun b o hb => ?_⟩
      have ht : g b o = J.g0 b o := hR.ev.tags b o hb
      rw [show J.g0 b o = g b o from ht.symm]
      cases hg : g b o with
      | imm => exact immk b o hg
      | hid => simp [endTags, hg]
      | own r q k =>
        have h0 : J.g0 b o = .own r q k := by rw [← hg]; exact (hR.ev.tags b o hb).symm
        have h3 := hJ.own b o r q k h0
        rw [hJ.hdr, Option.isSome_map] at h3
        exact ownk b o r q k hg (by simp only [keep, (q2 r h3).1, Bool.true_or])
    · cases hres : J.res with
      | v y =>
        rw [hres] at hs
        simp only [shapeOK, beq_iff_eq] at hs
        have hvs : vs.toArray.size = 1 := by simp; omega
        rw [dif_pos hvs]
        simp only [ResAll]
        have := part 0 xs[0] vs[0] (.v y) (by simp [hs]) (by simp) (by rw [hres]; rfl)
        simpa using this
      | own root =>
        rw [hres] at hs
        simp only [shapeOK, beq_iff_eq] at hs
        have hvs : vs.toArray.size = 1 := by simp; omega
        rw [dif_pos hvs]
        simp only [ResAll]
        have := part 0 xs[0] vs[0] (.own root) (by simp [hs]) (by simp) (by rw [hres]; rfl)
        simpa using this
      | tup l =>
        rw [hres] at hs
        simp only [shapeOK, Bool.and_eq_true, bne_iff_ne, beq_iff_eq] at hs
        have hvs : ¬ vs.toArray.size = 1 := by simp; omega
        rw [dif_neg hvs]
        refine ⟨vs.toArray, rfl, by simp; omega, fun j x c hx hc => ?_⟩
        have hlt : j < xs.length := by
          rcases Nat.lt_or_ge j l.length with h' | h'
          · omega
          · rw [List.getElem?_eq_none h'] at hx; simp at hx
        exact part j xs[j] c x (by simp [hlt]) (by simpa using hc) (by rw [hres]; exact hx)
    · obtain ⟨x, r0, obs', n1, n2, n3, n4, n5⟩ := q1 r root hro
      obtain ⟨f1, f2, f3, f4, f5, f6⟩ := (hR.roots r x n1).fit n4 n5
      have hxk : x.keys = [] ∨ x.keys ≠ [] := Classical.em _
      have hkp : keep r = true := by simp only [keep, hro, Option.isSome_some, Bool.true_or]
      refine ⟨f1.dep, f1.dr.agree (fun b o v hc hv => ⟨?_, hv, rfl⟩) (fun K hK => ⟨hK, rfl⟩), f1.full, fun b o c h3 j h4 h5 => ?_, f1.form⟩
      · cases hg : g b o with
        | imm => exact immk b o hg
        | hid => rw [hg] at hc; simp [Cov] at hc
        | own r' q j =>
          rw [hg] at hc
          have : r' = r := hc.1
          subst this
          exact ownk b o r' q j hg hkp
      · obtain ⟨n1, n2, n3⟩ := f1.spare b o c h3 j h4 h5
        exact ⟨n1, ownk _ _ _ _ _ n2 hkp, n3⟩
    · obtain ⟨_, x, r0, n1, n2, n3⟩ := q2 r hri
      obtain ⟨root, k1, k2, k3⟩ := hR.hdr r r0.av (J.rv0 r) (by rw [show J.C.hdr r = J.hdr r from rfl, hJ.hdr, n2]; rfl)
      rw [n1] at k1
      simp only [Option.some.injEq] at k1; subst k1
      exact k3 n3
    · cases hg' : g b o with
      | imm => rw [immk b o hg'] at hg; simp at hg
      | hid => simp [endTags, hg'] at hg
      | own r' q' k' =>
        simp only [endTags, hg'] at hg
        split at hg
        · rename_i hkp
          simp only [Tag.own.injEq] at hg
          obtain ⟨rfl, -, -⟩ := hg
          simp only [keep, Bool.or_eq_true, List.any_eq_true, List.mem_range, Bool.and_eq_true, beq_iff_eq] at hkp
          rcases hkp with hkp | ⟨j, hj, rfl, hm⟩
          · exact .inl hkp
          · split at hm
            · rename_i root hr'
              exact .inr ⟨j, root, hr', rfl⟩
            · simp at hm
        · simp at hg
  constructor
  · intro g w rv a hR b cs hb hk
    obtain ⟨v, g', rv', hl, hrun⟩ := key g w rv a hR
    exact ⟨v, w, g', rv', _, hl, .one step_ret, hb, rfl, hR.defers, hk, fn, by rw [show ({ b.at a (.code .ret :: k) with mode := .returning } : Frame).fn = J.f from hb]; exact hfn, hrun⟩
  · intro g w rv a hR b cs hb hk
    obtain ⟨v, g', rv', hl, hrun⟩ := key g w rv a hR
    exact ⟨v, w, g', rv', _, hl, .one step_end, hb, rfl, hR.defers, hk, fn, by rw [show ({ b.at a [] with mode := .returning } : Frame).fn = J.f from hb]; exact hfn, hrun⟩

end
end Go.VI

namespace Go.VI

structure Leaf where
  bin : BinOp → IntKind → Int → Int → Int
  cmp : BinOp → Int → Int → Bool
  neg : IntKind → Int → Int
  xnt : IntKind → Int → Int
  bnot : Bool → Bool
  beq : Bool → Bool → Bool
  seq : ByteArray → ByteArray → Bool
  sadd : ByteArray → ByteArray → ByteArray
  ssub : ByteArray → Int → Int → ByteArray
  slen : ByteArray → Int
  sget : ByteArray → Int → Int
  sbytes : List D → ByteArray
  most : Bool → Int → Int → Int
  wrap : IntKind → Int → Int
  toInt : D → Int
  toBool : D → Bool
  toStr : D → ByteArray
  els : D → List D
  kid : D → Nat → D
  at_ : D → List Nat → D
  put : D → List Nat → D → D
  get : List D → Nat → D
  set : List D → Nat → D → List D
  len : List D → Int
  sub : List D → Nat → Nat → List D
  app : List D → List D → List D
  rep : Int → D → List D
  laid : List D → Nat → Nat → List D → List D
  least : List D → Nat → Nat
  nlen : List D → Nat
  nat : Int → Nat
  int : Nat → Int
  nadd : Nat → Int → Nat
  isub : Int → Int → Nat
  ge0 : Int → Prop
  lt : Int → Int → Prop
  le : Int → Int → Prop
  ne0 : Int → Prop
  putOk : D → List Nat → Prop
  sroom : ByteArray → ByteArray → Prop
  room : Nat → Int → Prop
  small : Int → Prop
  aroom : Nat → List D → List D → Prop
  asmall : List D → List D → Prop
  nonnil : List D → Prop
  same : List D → List D → Prop
  isKey : D → Nat → Prop

def std : Leaf where
  bin op k a b := match op with
    | .shl => k.wrap (a * 2 ^ min b.toNat k.bits)
    | .shr => a.fdiv (2 ^ min b.toNat k.bits)
    | .add => k.wrap (a + b)
    | .sub => k.wrap (a - b)
    | .mul => k.wrap (a * b)
    | .quo => k.wrap (a.tdiv b)
    | .rem => a.tmod b
    | .and => bitsV .and k a b
    | .or => bitsV .or k a b
    | .xor => bitsV .xor k a b
    | .andNot => bitsV .andNot k a b
    | _ => 0
  cmp op a b := match op with
    | .eql => a == b
    | .neq => a != b
    | .lss => decide (a < b)
    | .leq => decide (a ≤ b)
    | .gtr => decide (a > b)
    | .geq => decide (a ≥ b)
    | _ => false
  neg k n := k.wrap (0 - n)
  xnt k n := bitsV .xor k (if k.signed then -1 else k.max) n
  bnot b := !b
  beq a b := a == b
  seq a b := a.toList == b.toList
  sadd a b := a ++ b
  ssub s l h := s.extract l.toNat h.toNat
  slen s := s.size
  sget s n := sgetD s n
  sbytes l := bytesD l
  most mx a b := match mx with
    | true => if b > a then b else a
    | false => if b < a then b else a
  wrap k n := k.wrap n
  toInt d := d.toInt
  toBool d := d.toBool
  toStr d := d.toStr
  els d := d.els
  kid d i := d.kid i
  at_ d q := d.at q
  put d q x := d.put q x
  get l i := l.getD i .nil
  set l i d := l.set i d
  len l := l.length
  sub l a b := (l.drop a).take b
  app a b := a ++ b
  rep n d := List.replicate n.toNat d
  laid l a b ys := Go.VI.laid l a b ys
  least ys n := min ys.length n
  nlen l := l.length
  nat n := n.toNat
  int n := n
  nadd a n := a + n.toNat
  isub h l := (h - l).toNat
  ge0 n := 0 ≤ n
  lt n m := n < m
  le n m := n ≤ m
  ne0 n := n ≠ 0
  putOk d q := d.PutOk q
  sroom a b := ((a.size + b.size : Nat) : Int) ≤ IntKind.i64.max
  room c n := n * c ≤ 140737488355328
  small n := n ≤ 140737488355328
  aroom c a b := (2 * (a.length + b.length) + 192) * c ≤ 281474976710656
  asmall a b := a.length + b.length ≤ 140737488355328
  nonnil l := l ≠ []
  same a b := a = b
  isKey d K := d = .key K

/-! ### The state -/

abbrev RL := List (Nat × Root)
abbrev SL := List (Nat × VV)

def getR : RL → Nat → Option Root
  | [], _ => none
  | (k, r) :: l, i => bif eqb k i then some r else getR l i

def setR : RL → Nat → Root → RL
  | [], i, x => [(i, x)]
  | (k, r) :: l, i, x => bif eqb k i then (k, x) :: l else (k, r) :: setR l i x

def delR : RL → Nat → RL
  | [], _ => []
  | (k, r) :: l, i => bif eqb k i then delR l i else (k, r) :: delR l i

def getS : SL → Nat → VV
  | [], _ => .dead
  | (k, r) :: l, i => bif eqb k i then r else getS l i

def setS : SL → Nat → VV → SL
  | [], i, x => [(i, x)]
  | (k, r) :: l, i, x => bif eqb k i then (k, x) :: l else (k, r) :: setS l i x

def toRoots (rl : RL) : Roots := fun k => getR rl k
def slots (n : Nat) (sl : SL) : List VV := (List.range n).map (getS sl)

def putS (n : Nat) (sl : SL) : Option Nat → VV → SL
  | some d, x => bif ltb d n then setS sl d x else sl
  | none, _ => sl

def evL (n : Nat) (sl : SL) : Operand → VV
  | .tmp t => bif ltb t n then getS sl t else .dead
  | .const v => constV v
  | .func f => .fn f []
  | .global _ => .dead

def upsR (rl : RL) : List (Nat × Root) → RL
  | [] => rl
  | (k, r) :: l => upsR (setR rl k r) l

theorem nbeq {a b : Nat} : eqb a b = false ↔ a ≠ b := by
  constructor
  · intro h e
    subst e
    rw [eqb_refl] at h
    simp at h
  · intro h
    cases hb : eqb a b with
    | false => rfl
    | true => exact absurd (eq_of_eqb hb) h

theorem getR_set (rl : RL) (i : Nat) (x : Root) (k : Nat) : getR (setR rl i x) k = if k = i then some x else getR rl k := by
  induction rl with
  | nil =>
    simp only [setR, getR]
    by_cases h : k = i
    · subst h; simp [eqb_refl]
    · have : eqb i k = false := by rw [nbeq]; exact fun e => h e.symm
      simp [this, h]
  | cons y l ih =>
    obtain ⟨j, r⟩ := y
    simp only [setR]
    cases hj : eqb j i with
    | true =>
      have : j = i := eq_of_eqb hj
      subst this
      simp only [cond_true, getR]
      by_cases h : k = j
      · subst h; simp [eqb_refl]
      · have : eqb j k = false := by rw [nbeq]; exact fun e => h e.symm
        simp [this, h]
    | false =>
      simp only [cond_false, getR]
      cases hk : eqb j k with
      | true =>
        have : j = k := eq_of_eqb hk
        subst this
        have : j ≠ i := nbeq.1 hj
        simp [this]
      | false => simp only [cond_false]; exact ih

theorem toRoots_set (rl : RL) (i : Nat) (x : Root) : toRoots (setR rl i x) = (toRoots rl).set i x := by
  funext k; simp only [toRoots, Roots.set, getR_set]

theorem toRoots_ups : ∀ (l : List (Nat × Root)) (rl : RL), toRoots (upsR rl l) = ups (toRoots rl) l
  | [], rl => rfl
  | (k, r) :: l, rl => by simp only [upsR, ups]; rw [toRoots_ups l, toRoots_set]

theorem getS_set (sl : SL) (i : Nat) (x : VV) (k : Nat) : getS (setS sl i x) k = if k = i then x else getS sl k := by
  induction sl with
  | nil =>
    simp only [setS, getS]
    by_cases h : k = i
    · subst h; simp [eqb_refl]
    · have : eqb i k = false := by rw [nbeq]; exact fun e => h e.symm
      simp [this, h]
  | cons y l ih =>
    obtain ⟨j, r⟩ := y
    simp only [setS]
    cases hj : eqb j i with
    | true =>
      have : j = i := eq_of_eqb hj
      subst this
      simp only [cond_true, getS]
      by_cases h : k = j
      · subst h; simp [eqb_refl]
      · have : eqb j k = false := by rw [nbeq]; exact fun e => h e.symm
        simp [this, h]
    | false =>
      simp only [cond_false, getS]
      cases hk : eqb j k with
      | true =>
        have : j = k := eq_of_eqb hk
        subst this
        have : j ≠ i := nbeq.1 hj
        simp [this]
      | false => simp only [cond_false]; exact ih

theorem slots_length (n : Nat) (sl : SL) : (slots n sl).length = n := by simp [slots]

theorem slots_get (n : Nat) (sl : SL) (i : Nat) : (slots n sl).getD i .dead = if i < n then getS sl i else .dead := by
  simp only [slots, List.getD_eq_getElem?_getD, List.getElem?_map]
  by_cases h : i < n
  · simp [h]
  · simp [h]

theorem sval_ev (n : Nat) (sl : SL) : sval (slots n sl) = evL n sl := by
  funext o
  cases o <;> try rfl
  rename_i t
  simp only [sval, evL, slots_get]
  by_cases h : t < n
  · have : ltb t n = true := by rw [ltb_eq]; exact h
    simp [h, this]
  · have : ltb t n = false := by
      cases hb : ltb t n with
      | false => rfl
      | true => rw [ltb_eq] at hb; exact absurd hb h
    simp [h, this]

theorem slots_set (n : Nat) (sl : SL) (d : Nat) (x : VV) : (slots n sl).set d x = slots n (setS sl d x) := by
  apply List.ext_getElem
  · simp [slots]
  · intro i h1 h2
    simp only [slots, List.getElem_set, List.getElem_map, List.getElem_range, getS_set]
    by_cases h : d = i
    · subst h; simp
    · rw [if_neg h, if_neg fun e : i = d => h e.symm]

theorem slots_put (n : Nat) (sl : SL) (dst : Option Nat) (x : VV) : setSlot (slots n sl) dst x = slots n (putS n sl dst x) := by
  cases dst with
  | none => rfl
  | some d =>
    simp only [setSlot, putS]
    by_cases h : d < n
    · have : ltb d n = true := by rw [ltb_eq]; exact h
      simp only [this, cond_true]
      exact slots_set n sl d x
    · have : ltb d n = false := by
        cases hb : ltb d n with
        | false => rfl
        | true => rw [ltb_eq] at hb; exact absurd hb h
      simp only [this, cond_false]
      rw [List.set_eq_of_length_le]
      simp [slots]; omega

/-! ### The operations -/

section
variable (L : Leaf) (T : Tab)

def expDL : Nat → TypeId → D → D
  | 0, _, d => d
  | n + 1, t, d => match T.ty t with
    | some (.int _) => .int (L.toInt d)
    | some .bool => .bool (L.toBool d)
    | some .str => .str (L.toStr d)
    | some (.slice _) => .list (L.els d)
    | some (.struct fs) => .agg ((List.range fs.length).map fun j => expDL n (fs.getD j 0) (L.kid d j))
    | _ => d

def fromL (t : TypeId) (d : D) : Option VV :=
  match T.ty t with
  | some (.int k) => some (.int k (L.toInt d))
  | some .bool => some (.bool (L.toBool d))
  | some .str => some (.str (L.toStr d))
  | some (.slice e) => some (.imm e false (L.els d))
  | some (.struct _) => some (.agg t (expDL L T 8 t d))
  | some .plain => match d with
    | .con v => some (.con v)
    | _ => none
  | none => none

def fromE (t : TypeId) (d : D) : Option VV := (fromD T t d).map (expV T)

def binL (op : BinOp) (t : TypeId) (x y : VV) : Option (VV × List Prop) :=
  match x, y with
  | .int k a, .int k' b =>
    match op with
    | .shl => some (.int k (L.bin .shl k a b), [L.ge0 b])
    | .shr => some (.int k (L.bin .shr k a b), [L.ge0 b])
    | _ =>
      if k = k' then
        match op with
        | .add => some (.int k (L.bin .add k a b), [])
        | .sub => some (.int k (L.bin .sub k a b), [])
        | .mul => some (.int k (L.bin .mul k a b), [])
        | .quo => some (.int k (L.bin .quo k a b), [L.ne0 b])
        | .rem => some (.int k (L.bin .rem k a b), [L.ne0 b])
        | .and => some (.int k (L.bin .and k a b), [])
        | .or => some (.int k (L.bin .or k a b), [])
        | .xor => some (.int k (L.bin .xor k a b), [])
        | .andNot => some (.int k (L.bin .andNot k a b), [])
        | .eql => some (.bool (L.cmp .eql a b), [])
        | .neq => some (.bool (L.cmp .neq a b), [])
        | .lss => some (.bool (L.cmp .lss a b), [])
        | .leq => some (.bool (L.cmp .leq a b), [])
        | .gtr => some (.bool (L.cmp .gtr a b), [])
        | .geq => some (.bool (L.cmp .geq a b), [])
        | _ => none
      else none
  | .bool a, .bool b =>
    match T.ty t, op with
    | some .bool, .eql => some (.bool (L.beq a b), [])
    | some .bool, .neq => some (.bool (L.bnot (L.beq a b)), [])
    | _, _ => none
  | .str a, .str b =>
    match op with
    | .eql => some (.bool (L.seq a b), [])
    | .neq => some (.bool (L.bnot (L.seq a b)), [])
    | .add => some (.str (L.sadd a b), [L.sroom a b])
    | _ => none
  | _, _ => none

def unL (op : UnOp) (x : VV) : Option VV :=
  match op, x with
  | .neg, .int k n => some (.int k (L.neg k n))
  | .xor, .int k n => some (.int k (L.xnt k n))
  | .not, .bool b => some (.bool (L.bnot b))
  | _, _ => none

def elR (root : Root) (i : Nat) : D := bif root.one then root.els.getD i .nil else L.get root.els i
def atR (root : Root) (i : Nat) (q : List Nat) : D := bif root.one then (root.els.getD i .nil).at q else L.at_ (L.get root.els i) q
def putR (root : Root) (i : Nat) (q : List Nat) (d : D) : List D := bif root.one then root.els.set i ((root.els.getD i .nil).put q d) else L.set root.els i (L.put (L.get root.els i) q d)
def okR (root : Root) (i : Nat) (q : List Nat) : Prop := bif root.one then (root.els.getD i .nil).PutOk q else L.putOk (L.get root.els i) q

def loadL (t : TypeId) (x : VV) (rl : RL) (sup : Sup) : Option (VV × List Prop) :=
  match x with
  | .iaddr t' d => if t' = t then (fromL L T t d).map fun x => (x, []) else none
  | .addr r av i q t' =>
    match getR rl r with
    | none => none
    | some root =>
      if t' = t ∧ av = root.av then
        match sup with
        | .key K => if 1 < root.dep then match T.ty t, getR rl K with
          | some (.slice _), some rk => some (.top K rk.av, [L.isKey (atR L root i q) K])
          | _, _ => none
          else none
        | _ => if root.dep = 1 then (bif root.one then fromE T t ((root.els.getD i .nil).at q) else fromL L T t (L.at_ (L.get root.els i) q)).map fun x => (x, [])
          else if scalar T t then (bif root.one then fromE T t ((root.els.getD i .nil).at q) else fromL L T t (L.at_ (L.get root.els i) q)).map fun x => (x, []) else none
      else none
  | _ => none

def fieldAddrL (s : TypeId) (x : VV) (f : Nat) (rl : RL) : Option VV :=
  match T.ty s with
  | some (.struct fs) =>
    if f < fs.length then
      match x with
      | .addr r av i q t => if t = s then (cur (toRoots rl) r av).map fun _ => .addr r av i (q ++ [f]) (fs.getD f 0) else none
      | .iaddr t d => if t = s then some (.iaddr (fs.getD f 0) (L.kid d f)) else none
      | _ => none
    else none
  | _ => none

def indexAddrL (t : TypeId) (x i : VV) (rl : RL) : Option (VV × List Prop) :=
  match T.ty t, x, i with
  | some (.slice e), .imm e' _ els, .int _ n => if e = e' then some (.iaddr e (L.get els (L.nat n)), [L.ge0 n, L.lt n (L.len els)]) else none
  | some (.slice e), .top r av, .int _ n => match cur (toRoots rl) r av with
    | some root => if e = root.e then some (.addr r av (L.nat n) [] e, [L.ge0 n, L.lt n (L.len root.els)]) else none
    | none => none
  | some (.slice e), .win r av off len _, .int _ n => match cur (toRoots rl) r av with
    | some root => if e = root.e then some (.addr r av (L.nadd off n) [] e, [L.ge0 n, L.lt n (L.int len)]) else none
    | none => none
  | _, _, _ => none

def sliceGoL (lo hi mx : Option VV) (len : Int) (k : Int → Int → VV) : Option (VV × List Prop) :=
  match intArg lo 0, intArg hi len with
  | some l, some h =>
    match mx with
    | none => some (k l h, [L.ge0 l, L.le l h, L.le h len])
    | some (.int _ m) => if hi.isSome then some (k l h, [L.ge0 l, L.le l h, L.le h len, m = h]) else none
    | _ => none
  | _, _ => none

def sliceL (t : TypeId) (x : VV) (lo hi mx : Option VV) (rl : RL) : Option (VV × List Prop) :=
  match T.ty t, x with
  | some (.slice e), .imm e' full els => if e = e' then sliceGoL L lo hi mx (L.len els) fun l h => .imm e (sliceFull full hi mx) (L.sub els (L.nat l) (L.isub h l)) else none
  | some (.slice e), .top r av => match cur (toRoots rl) r av with
    | some root => if e = root.e then sliceGoL L lo hi mx (L.len root.els) fun l h => .win r av (L.nat l) (L.isub h l) (sliceFull false hi mx) else none
    | none => none
  | some (.slice e), .win r av off len full => match cur (toRoots rl) r av with
    | some root => if e = root.e then sliceGoL L lo hi mx (L.int len) fun l h => .win r av (L.nadd off l) (L.isub h l) (sliceFull full hi mx) else none
    | none => none
  | some (.slice _), .nils => sliceGoL L lo hi mx (L.int 0) fun _ _ => .nils
  | some .str, .str s => match mx with
    | none => sliceGoL L lo hi mx (L.slen s) fun l h => .str (L.ssub s l h)
    | some _ => none
  | _, _ => none

def lenL (t : TypeId) (x : VV) (rl : RL) : Option VV :=
  match T.ty t, x with
  | some .str, .str s => some (.int .i64 (L.slen s))
  | some (.slice _), .imm _ _ els => some (.int .i64 (L.len els))
  | some (.slice _), .nils => some (.int .i64 0)
  | some (.slice _), .top r av => (cur (toRoots rl) r av).map fun root => .int .i64 (L.len root.els)
  | some (.slice _), .win r av _ len _ => (cur (toRoots rl) r av).map fun _ => .int .i64 (L.int len)
  | _, _ => none

def mostL (mx : Bool) (x y : VV) : Option VV :=
  match x, y with
  | .int k a, .int _ b => some (.int k (L.most mx a b))
  | _, _ => none

def convL (src dst : TypeId) (x : VV) : Option VV :=
  match T.ty src, T.ty dst, x with
  | some (.int _), some (.int k), .int _ n => some (.int k (L.wrap k n))
  | some .str, some .str, .str s => some (.str s)
  | some (.slice e), some .str, .imm e' _ els => match T.ty e with
    | some (.int .u8) => if e = e' then some (.str (L.sbytes els)) else none
    | _ => none
  | _, _, _ => none

def indexL (t : TypeId) (x i : VV) : Option (VV × List Prop) :=
  match T.ty t, x, i with
  | some .str, .str s, .int _ n => some (.int .u8 (L.sget s n), [L.ge0 n, L.lt n (L.slen s)])
  | _, _, _ => none

def makeL (t : TypeId) (l c : VV) (K dep : Nat) (rl : RL) : Option Res :=
  match T.ty t, l, c, getR rl K, dep with
  | some (.slice e), .int _ n, .int _ m, none, dep + 1 =>
    some { x := .top K 0, ups := [(K, { e := e, els := L.rep n (T.zero e), dep := dep + 1, full := true, av := 0, held := false, keys := [] })],
           obs := [m = n, L.ge0 n, L.room (T.bytes e) n, L.small n] }
  | _, _, _, _, _ => none

def storeL (t : TypeId) (x y : VV) (rl : RL) : Option Res :=
  match x with
  | .addr r av i q t' =>
    match cur (toRoots rl) r av with
    | none => none
    | some root =>
      if t' = t then
        match toD T t y with
        | some d =>
          if root.dep = 1 then some { x := .dead, ups := [(r, { root with els := putR L root i q d })], obs := [okR L root i q] }
          else if scalar T t then some { x := .dead, ups := [(r, { root with els := putR L root i q d })], obs := [okR L root i q] }
          else none
        | none =>
          match y, T.ty t with
          | .top K kav, some (.slice _) =>
            match cur (toRoots rl) K kav with
            | some rk =>
              if K = r then none
              else if 1 < root.dep then
                some { x := .dead, ups := [(K, { rk with held := true }), (r, { root with els := putR L root i q (.key K), keys := K :: root.keys })],
                       obs := [okR L root i q] }
              else none
            | none => none
          | _, _ => none
      else none
  | _ => none

def srcL (e : TypeId) (y : VV) (rl : RL) : Option (List D) :=
  match y with
  | .imm e' _ els => if e' = e then some els else none
  | .nils => some []
  | .top r av => match cur (toRoots rl) r av with
    | some root => if root.e = e then if root.dep = 1 then some root.els else none else none
    | none => none
  | .win r av off len _ => match cur (toRoots rl) r av with
    | some root => if root.e = e then if root.dep = 1 then some (L.sub root.els off len) else none else none
    | none => none
  | _ => none

def appendL (t t2 : TypeId) (x y : VV) (K : Nat) (rl : RL) : Option Res :=
  match T.ty t, T.ty t2 with
  | some (.slice e), some (.slice _) =>
    match srcL L e y rl with
    | none => none
    | some ys =>
      match x with
      | .nils => match getR rl K with
        | none => some ⟨.top K 0, [(K, rowOf e ys 0)], [L.aroom (T.bytes e) [] ys, L.asmall [] ys]⟩
        | some _ => none
      | .imm e' full els0 => match getR rl K with
        | none => if e' = e then
            if full = true then some ⟨.top K 0, [(K, rowOf e (L.app els0 ys) 0)], [L.nonnil ys, L.aroom (T.bytes e) els0 ys, L.asmall els0 ys]⟩ else none
          else none
        | some _ => none
      | .top r av => match cur (toRoots rl) r av with
        | some root =>
          if root.e = e ∧ root.dep = 1 ∧ root.held = false ∧ apart r y = true then
            some ⟨.top r (av + 1), [(r, rowOf e (L.app root.els ys) (av + 1))], [L.aroom (T.bytes e) root.els ys, L.asmall root.els ys]⟩
          else none
        | none => none
      | _ => none
  | _, _ => none

def copyL (t t2 : TypeId) (x y : VV) (rl : RL) : Option Res :=
  match T.ty t, T.ty t2 with
  | some (.slice e), some (.slice _) =>
    match srcL L e y rl with
    | none => none
    | some ys =>
      match x with
      | .top r av => match cur (toRoots rl) r av with
        | some root => if root.e = e ∧ root.dep = 1 then
            some ⟨.int .i64 (L.int (L.least ys (L.nlen root.els))), [(r, put1 root (L.laid root.els 0 (L.least ys (L.nlen root.els)) ys))], []⟩ else none
        | none => none
      | .win r av off len _ => match cur (toRoots rl) r av with
        | some root => if root.e = e ∧ root.dep = 1 then
            some ⟨.int .i64 (L.int (L.least ys len)), [(r, put1 root (L.laid root.els off (L.least ys len) ys))], []⟩ else none
        | none => none
      | _ => none
  | _, _ => none

def argL (t : TypeId) (inn : List Nat) (x : VV) (rl : RL) : Option (VV × List Nat) :=
  match x with
  | .imm e _ els => some (.imm e false els, [])
  | .nils => match T.ty t with
    | some (.slice e) => some (.imm e false [], [])
    | _ => none
  | .top r av => if inn.contains r then (cur (toRoots rl) r av).map fun _ => (.top r av, []) else
      match T.ty t with
      | some (.slice e) => (srcL L e (.top r av) rl).map fun els => (.imm e false els, [r])
      | _ => none
  | .win r av off len full => if inn.contains r then (cur (toRoots rl) r av).map fun _ => (.win r av off len full, []) else
      match T.ty t with
      | some (.slice e) => (srcL L e (.win r av off len full) rl).map fun els => (.imm e false els, [r])
      | _ => none
  | .addr r av i q t' => if inn.contains r then (cur (toRoots rl) r av).map fun _ => (.addr r av i q t', []) else none
  | .fn f caps => if caps.all clean then some (.fn f caps, []) else none
  | .tup _ => none
  | .dead => none
  | .int k n => some (.int k n, [])
  | .bool b => some (.bool b, [])
  | .str s => some (.str s, [])
  | .con v => some (.con v, [])
  | .agg t d => some (.agg t d, [])
  | .iaddr t d => some (.iaddr t d, [])

def argsL (inn : List Nat) (rl : RL) : List TypeId → List VV → Option (List VV × List Nat)
  | _, [] => some ([], [])
  | ts, x :: xs => match argL L T (ts.headD 0) inn x rl, argsL inn rl ts.tail xs with
    | some (y, b), some (ys, bs) => some (y :: ys, b ++ bs)
    | _, _ => none

end

section
variable {T : Tab}

theorem expDL_std : ∀ (n : Nat) (t : TypeId) (d : D), expDL std T n t d = expD T n t d
  | 0, t, d => rfl
  | n + 1, t, d => by
    simp only [expDL, expD]
    generalize T.ty t = ty
    rcases ty with _ | d'
    · rfl
    · cases d' <;> try rfl
      rename_i fs
      simp only [show ∀ j, expDL std T n (fs.getD j 0) (std.kid d j) = expD T n (fs.getD j 0) (d.kid j) from fun j => expDL_std n _ _]

theorem fromL_std (t : TypeId) (d : D) : fromL std T t d = (fromD T t d).map (expV T) := by
  unfold fromL fromD
  rw [expDL_std]
  generalize T.ty t = ty
  rcases ty with _ | d'
  · rfl
  · cases d' <;> try rfl
    cases d <;> rfl

theorem binL_std (op : BinOp) (t : TypeId) (x y : VV) : binL std T op t x y = binV T op t x y := by
  unfold binL binV
  cases x <;> cases y <;> cases op <;> rfl

theorem unL_std (op : UnOp) (x : VV) : unL std op x = unV op x := by cases op <;> cases x <;> rfl

theorem atR_std (root : Root) (i : Nat) (q : List Nat) : atR std root i q = (root.els.getD i .nil).at q := by unfold atR; cases root.one <;> rfl
theorem putR_std (root : Root) (i : Nat) (q : List Nat) (d : D) : putR std root i q d = root.els.set i ((root.els.getD i .nil).put q d) := by unfold putR; cases root.one <;> rfl
theorem okR_std (root : Root) (i : Nat) (q : List Nat) : okR std root i q = (root.els.getD i .nil).PutOk q := by unfold okR; cases root.one <;> rfl

theorem loadL_std (t : TypeId) (x : VV) (rl : RL) (sup : Sup) : loadL std T t x rl sup = (loadV T t x (toRoots rl) sup).map fun r => (expV T r.1, r.2) := by
  unfold loadL loadV
  cases x <;> try rfl
  · rename_i r av i q t'
    simp only [toRoots]
    cases getR rl r with
    | none => rfl
    | some root =>
      simp only [atR_std, fromL_std, fromE]
      have e : (bif root.one then (fromD T t ((root.els.getD i .nil).at q)).map (expV T) else (fromD T t (std.at_ (std.get root.els i) q)).map (expV T)) = (fromD T t ((root.els.getD i .nil).at q)).map (expV T) := by
        cases root.one <;> rfl
      rw [e]
      split
      · cases sup with
        | key K =>
          simp only
          split
          · cases T.ty t with
            | none => rfl
            | some d => cases d <;> cases getR rl K <;> rfl
          · rfl
        | _ =>
          simp only
          split
          · cases fromD T t ((root.els.getD i .nil).at q) <;> rfl
          · split
            · cases fromD T t ((root.els.getD i .nil).at q) <;> rfl
            · rfl
      · rfl
  · rename_i t' d
    simp only [fromL_std]
    split
    · cases fromD T t d <;> rfl
    · rfl

theorem fieldAddrL_std (s : TypeId) (x : VV) (f : Nat) (rl : RL) : fieldAddrL std T s x f rl = fieldAddrV T s x f (toRoots rl) := rfl
theorem indexAddrL_std (t : TypeId) (x i : VV) (rl : RL) : indexAddrL std T t x i rl = indexAddrV T t x i (toRoots rl) := rfl
theorem sliceL_std (t : TypeId) (x : VV) (lo hi mx : Option VV) (rl : RL) : sliceL std T t x lo hi mx rl = sliceV T t x lo hi mx (toRoots rl) := rfl
theorem lenL_std (t : TypeId) (x : VV) (rl : RL) : lenL std T t x rl = lenV T t x (toRoots rl) := rfl
theorem mostL_std (mx : Bool) (x y : VV) : mostL std mx x y = mostV mx x y := by cases mx <;> rfl
theorem convL_std (s d : TypeId) (x : VV) : convL std T s d x = convV T s d x := rfl
theorem makeL_std (t : TypeId) (l c : VV) (K dep : Nat) (rl : RL) : makeL std T t l c K dep rl = makeV T t l c K dep (toRoots rl) := rfl
theorem srcL_std (e : TypeId) (y : VV) (rl : RL) : srcL std e y rl = srcV e y (toRoots rl) := rfl
theorem storeL_std (t : TypeId) (x y : VV) (rl : RL) : storeL std T t x y rl = storeV T t x y (toRoots rl) := by
  unfold storeL storeV
  simp only [putR_std, okR_std]
  rfl
theorem argL_std (t : TypeId) (inn : List Nat) (x : VV) (rl : RL) : argL std T t inn x rl = argV T t inn x (toRoots rl) := rfl
theorem argsL_std (inn : List Nat) (rl : RL) : ∀ (xs : List VV) (ts : List TypeId), argsL std T inn rl ts xs = argsV T inn (toRoots rl) ts xs
  | [], ts => rfl
  | x :: xs, ts => by
    simp only [argsL, argsV, argL_std, argsL_std inn rl xs]
    rfl
theorem appendL_std (t t2 : TypeId) (x y : VV) (K : Nat) (rl : RL) : appendL std T t t2 x y K rl = appendV T t t2 x y K (toRoots rl) := by
  unfold appendL appendV
  simp only [srcL_std]
  have e0 : ∀ e (ys : List D), [std.aroom (T.bytes e) [] ys, std.asmall [] ys] = appendObs T e ys.length := by
    intro e ys
    simp [std, appendObs]
  have e1 : ∀ e (xs ys : List D), [std.aroom (T.bytes e) xs ys, std.asmall xs ys] = appendObs T e (xs.length + ys.length) := fun e xs ys => rfl
  have e2 : ∀ e (xs ys : List D), [std.nonnil ys, std.aroom (T.bytes e) xs ys, std.asmall xs ys] = (ys ≠ []) :: appendObs T e (xs.length + ys.length) := fun e xs ys => rfl
  simp only [e0, e1, e2]
  rfl
theorem copyL_std (t t2 : TypeId) (x y : VV) (rl : RL) : copyL std T t t2 x y rl = copyV T t t2 x y (toRoots rl) := rfl

end
end Go.VI

namespace Go.VI

inductive Pos where
  | fin (todo : List Item)
  | ops (ops : Array Oper) (l : List Nat) (k : List Item)
  | arun (ops : Array Oper) (rest : List Oper) (recs : List Rec) (k : List Item)

inductive Cmd where
  | call (res : RV) (inn : List Nat) (out : List (Nat × Root))
  | both
  | fork (l r : List Cmd)
  | halt
  | upto (k : Nat)
  | tk (b : Bool)
  | tell (how : How) (r : Nat)
  | before (d : Nat) (how : How) (r : Nat)

structure Deep where
  ok : FuncId → List VV → List (Nat × Root) → RV → List (Nat × Root) → Prop
  and : Prop → Prop → Prop
  br : Bool → Prop → Prop → Prop
  pos : Pos → RL → SL → Prop
  bad : Nat → Prop

structure Cfg where
  n : Nat
  hint : List (Nat × Sup)
  results : List ResultVar
  res : RV
  inn : List (Nat × Root)
  out : List (Nat × Root)

inductive Nx where
  | haltAt (p : Pos) (rl : RL) (sl : SL)
  | go (obs : List Prop) (p : Pos) (rl : RL) (sl : SL) (cs : List Cmd)
  | split (b : Bool) (p : Pos) (rl : RL) (sl1 sl2 : SL) (cs : List Cmd)
  | splitO (obs : List Prop) (b : Bool) (p : Pos) (rl : RL) (sl1 sl2 : SL) (cs : List Cmd)
  | splitP (b : Bool) (p1 p2 : Pos) (rl : RL) (sl : SL) (cs1 cs2 : List Cmd)
  | stop
  | bad (i : Nat)
  | done (obs : List Prop)

section
variable (L : Leaf) (ok : FuncId → List VV → List (Nat × Root) → RV → List (Nat × Root) → Prop) (T : Tab)

def opL (o : Oper) (ev : Operand → VV) (rl : RL) (sup : Sup) : Option Res :=
  match o.op with
  | .move x => some { x := ev x }
  | .assign x => some { x := ev x }
  | .pick c x y => match ev c with
    | .con (.bool b) => some { x := if b then ev x else ev y }
    | _ => none
  | .alloc t => match sup with
    | .mem K dep => allocV T t K dep (toRoots rl)
    | _ => none
  | .box t x => match sup with
    | .mem K _ => boxV T t (unb (ev x)) K (toRoots rl)
    | _ => none
  | .build t ps => (buildV T t (ps.toList.map fun p => (p.1, unb (ev p.2)))).map fun x => { x }
  | .buildSlice t n ps => (buildSliceV T t n (ps.toList.map fun p => (p.1, unb (ev p.2)))).map fun x => { x }
  | .load t x => (loadL L T t (ev x) rl sup).map fun r => { x := r.1, obs := r.2 }
  | .store t x y => storeL L T t (ev x) (unb (ev y)) rl
  | .binOp op t x y _ => (binL L T op t (unb (ev x)) (unb (ev y))).map fun r => { x := r.1, obs := r.2 }
  | .unOp op _ x => (unL L op (unb (ev x))).map fun x => { x }
  | .convert s d x => (convL L T s d (ev x)).map fun x => { x }
  | .makeFunc (.func f) first caps => if first.size = 0 then some { x := .fn f (caps.toList.map ev) } else none
  | .makeSlice t l c => match sup with
    | .mem K dep => makeL L T t (ev l) (ev c) K dep rl
    | _ => none
  | .slice t x lo hi mx => (sliceL L T t (ev x) (lo.map ev) (hi.map ev) (mx.map ev) rl).map fun r => { x := r.1, obs := r.2 }
  | .fieldAddr s x f => (fieldAddrL L T s (ev x) f rl).map fun x => { x }
  | .field s x f => (fieldV T s (ev x) f).map fun x => { x }
  | .indexAddr t x i => (indexAddrL L T t (ev x) (ev i) rl).map fun r => { x := r.1, obs := r.2 }
  | .index t x i => (indexL L T t (ev x) (ev i)).map fun r => { x := r.1, obs := r.2 }
  | .extract x i => (extractV (ev x) i).map fun x => { x }
  | .call c => match c.callee with
    | .builtin .len => match c.argTypes.toList, c.args.toList with
      | [t], [x] => (lenL L T t (ev x) rl).map fun x => { x }
      | _, _ => none
    | .builtin .max => match c.args.toList with
      | [x, y] => (mostL L true (ev x) (ev y)).map fun x => { x }
      | _ => none
    | .builtin .min => match c.args.toList with
      | [x, y] => (mostL L false (ev x) (ev y)).map fun x => { x }
      | _ => none
    | .builtin .append => match c.argTypes.toList, c.args.toList with
      | [t, t2], [x, y] => match sup with
        | .mem K _ => appendL L T t t2 (ev x) (ev y) K rl
        | _ => none
      | _, _ => none
    | .builtin .copy => match c.argTypes.toList, c.args.toList with
      | [t, t2], [x, y] => copyL L T t t2 (ev x) (ev y) rl
      | _, _ => none
    | _ => none
  | _ => none

def outVL : List (Nat × Root) → List (Nat × Root) → Option (List Prop)
  | [], [] => some []
  | (k, x) :: l, (k', y) :: l' =>
    if k = k' ∧ y.e = x.e ∧ y.av = x.av ∧ y.held = x.held ∧ x.keys.isEmpty = true ∧ y.keys.isEmpty = true then (outVL l l').map ((L.nlen y.els = L.nlen x.els) :: ·) else none
  | _, _ => none

def callL (c : Call) (ev : Operand → VV) (rl : RL) (sup : Sup) : Option Res :=
  match c.callee, sup with
  | .value fo, .call K res inn out =>
    match ev fo with
    | .fn f caps =>
      match argsL L T inn rl c.argTypes.toList ((c.args.toList.map fun x => unb (ev x)) ++ caps), innRoots (toRoots rl) inn with
      | some (ys, bor), some rin =>
        match outVL L rin out with
        | some obs =>
          if (inn.all fun r => r < RK 0) && (bor.isEmpty || (inn.isEmpty && safe T res)) && ((List.range res.parts.length).all fun j => (getR rl (K + j)).isNone) then
            some { x := vvAll K res, ups := out ++ newUps K 0 res.parts, obs := ok f ys rin res out :: obs }
          else none
        | none => none
      | _, _ => none
    | _ => none
  | _, _ => none

def tell1L (how : How) (r : Nat) (root : Root) : VV → VV
  | .top r' av => if r' = r then (if av = root.av then (match how with
      | .frz => .imm root.e root.full root.els
      | .hid => .dead
      | .mv s => .top s 0) else .dead) else .top r' av
  | .win r' av off len full => if r' = r then (if av = root.av then (match how with
      | .frz => .imm root.e full (L.sub root.els off len)
      | .hid => .dead
      | .mv s => .win s 0 off len full) else .dead) else .win r' av off len full
  | .addr r' av i q t => if r' = r then (if av = root.av then (match how with
      | .frz => .iaddr t (atR L root i q)
      | .hid => .dead
      | .mv s => .addr s 0 i q t) else .dead) else .addr r' av i q t
  | .fn f caps => if (keysOfL caps).contains r then .dead else .fn f caps
  | .tup vs => if (keysOfL vs).contains r then .dead else .tup vs
  | x => x

def tellL (how : How) (r : Nat) (root : Root) : VV → VV
  | .fn f caps => .fn f (caps.map (tell1L L how r root))
  | x => tell1L L how r root x

end

def tellS (L : Leaf) (how : How) (r : Nat) (root : Root) : SL → SL
  | [] => []
  | (i, x) :: l => (i, tellL L how r root x) :: tellS L how r root l

def How.rootsL (how : How) (rl : RL) (r : Nat) (root : Root) : RL :=
  match how with
  | .mv s => setR (delR rl r) s { root with av := 0 }
  | _ => delR rl r

def freshHow (how : How) (rl : RL) (r : Nat) : Bool :=
  match how with
  | .mv s => eqb s r || (getR rl s).isNone
  | _ => true

/-- Is the run to halt behind a loop? -/
def hasHalt : List Cmd → Bool
  | [] => false
  | .halt :: _ => true
  | _ :: l => hasHalt l

/-- Is the run to halt where so much is left to do? -/
def uptoOf : List Cmd → Option Nat
  | [] => none
  | .upto k :: _ => some k
  | _ :: l => uptoOf l

def supOf : List (Nat × Sup) → Nat → Sup
  | [], d => .mem d 1
  | (k, s) :: l, d => bif eqb k d then s else supOf l d

def supFor (h : List (Nat × Sup)) (o : Oper) : Sup := match o.dst with | some d => supOf h d | none => .no

def keyCall (o : Oper) : Nat := match o.dst with | some d => 1000 + 16 * d | none => 900

section
variable (L : Leaf) (ok : FuncId → List VV → List (Nat × Root) → RV → List (Nat × Root) → Prop) (T : Tab) (X : Cfg)

/-- A result that is to be turned before the call ends. -/
def pending (rl : RL) (sl : SL) : Nat → List ResultVar → List RV → Option (How × Nat)
  | j, .tmp t :: l, r :: rs => match getS sl t, r with
    | .top k _, .own _ => bif eqb k (RK j) then pending rl sl (j + 1) l rs else some (.mv (RK j), k)
    | .top k _, .v _ => some (.frz, k)
    | .win k _ _ _ _, .v _ => some (.frz, k)
    | _, _ => pending rl sl (j + 1) l rs
  | j, .cell _ _ :: l, _ :: rs => pending rl sl (j + 1) l rs
  | _, _, _ => none

def nextRet (p : Pos) (rl : RL) (sl : SL) (cs : List Cmd) : Nx :=
  match pending rl sl 0 X.results X.res.parts with
  | some (how, r) => .go [] p rl sl (.tell how r :: cs)
  | none => match resAll T (toRoots rl) (slots X.n sl) X.results with
    | some xs => match endL (toRoots rl) 0 xs X.res.parts, outL (toRoots rl) X.inn X.out with
      | some o1, some o2 => if shapeOK xs.length X.res then .done (o1 ++ o2) else .bad 100001
      | _, _ => .bad 100002
    | none => .bad 100003

def nextFin (todo : List Item) (rl : RL) (sl : SL) (cs : List Cmd) : Nx :=
  match todo with
  | [] => nextRet T X (.fin []) rl sl cs
  | .inBlock _ :: k => .go [] (.fin k) rl sl cs
  | .inScope _ :: k => .go [] (.fin k) rl sl cs
  | .code c :: k => match c with
    | .scope c => .go [] (.fin (.code c :: .inScope c :: k)) rl sl cs
    | .goto l => match gotoIn l k with
      | some k' => .go [] (.fin k') rl sl cs
      | none => .bad 100014
    | .skip => .go [] (.fin k) rl sl cs
    | .label _ => .go [] (.fin k) rl sl cs
    | .seq a b => .go [] (.fin (.code a :: .code b :: k)) rl sl cs
    | .block i c => .go [] (.fin (.code c :: .inBlock i :: k)) rl sl cs
    | .exit i => match exitTo i k with
      | some k' => if hasHalt cs then .haltAt (.fin k') rl sl else .go [] (.fin k') rl sl cs
      | none => .bad 100004
    | .cond c x y => match evL X.n sl c with
      | .con (.bool b) => if b then .go [] (.fin (.code x :: k)) rl sl cs else .go [] (.fin (.code y :: k)) rl sl cs
      | .bool b => match cs with
        | .both :: cs => .splitP b (.fin (.code x :: k)) (.fin (.code y :: k)) rl sl cs cs
        | .fork l r :: cs => .splitP b (.fin (.code x :: k)) (.fin (.code y :: k)) rl sl (l ++ cs) (r ++ cs)
        | .tk true :: cs => .go [b = true] (.fin (.code x :: k)) rl sl cs
        | .tk false :: cs => .go [b = false] (.fin (.code y :: k)) rl sl cs
        | _ => .stop
      | _ => .bad 100005
    | .region _ ops false => .go [] (.ops ops (List.range ops.size) k) rl sl cs
    | .region _ ops true => .go [] (.arun ops ops.toList [] k) rl sl cs
    | .ret => nextRet T X (.fin (.code .ret :: k)) rl sl cs
    | _ => .stop
  | _ => .stop

inductive Want where
  | run
  | skip
  | split (d : Nat) (b : Bool)
  | bad

def wantOf (ops : Array Oper) (o : Oper) (sl : SL) : Want :=
  match o.guard with
  | none => .run
  | some (j, want) => match (ops[j]?).bind (·.dst) with
    | some d => match evL X.n sl (.tmp d) with
      | .con (.bool b) => if b = want then .run else .skip
      | .bool b => .split d b
      | _ => .bad
    | none => .bad

/-- A choice whose truth is not laid open. -/
def pickOf (o : Oper) (sl : SL) : Option (Nat × Bool) :=
  match o.op with
  | .pick (.tmp d) _ _ => match evL X.n sl (.tmp d) with
    | .bool b => some (d, b)
    | _ => none
  | _ => none

def callOf (o : Oper) : Option Call :=
  match o.op with
  | .call c => match c.callee with
    | .value _ => some c
    | _ => none
  | _ => none

def beforeOf (cs : List Cmd) (dst : Option Nat) : Option (How × Nat × List Cmd) :=
  match cs, dst with
  | .before d how r :: cs, some d' => if d = d' then some (how, r, cs) else none
  | _, _ => none

def nextRun (ops : Array Oper) (l : List Nat) (i : Nat) (o : Oper) (rest : List Nat) (k : List Item) (rl : RL) (sl : SL) (cs : List Cmd) : Nx :=
  match pickOf X o sl with
  | some (d, b) => .split b (.ops ops l k) rl (setS sl d (.con (.bool true))) (setS sl d (.con (.bool false))) cs
  | none => match beforeOf cs o.dst with
    | some (how, r, cs) => .go [] (.ops ops l k) rl sl (.tell how r :: cs)
    | none => match callOf o with
      | some c => match cs with
        | .call res inn out :: cs => match callL L ok T c (evL X.n sl) rl (.call (keyCall o) res inn out) with
          | some r => .go r.obs (.ops ops rest k) (upsR rl r.ups) (putS X.n sl o.dst r.x) cs
          | none => .bad i
        | _ => .stop
      | none => match opL L T o (evL X.n sl) rl (supFor X.hint o) with
        | some r => .go r.obs (.ops ops rest k) (upsR rl r.ups) (putS X.n sl o.dst r.x) cs
        | none => .bad i

def nextOps (ops : Array Oper) (l : List Nat) (k : List Item) (rl : RL) (sl : SL) (cs : List Cmd) : Nx :=
  match l with
  | [] => .go [] (.fin k) rl sl cs
  | i :: rest => match ops[i]? with
    | none => .bad 100006
    | some o => match wantOf X ops o sl with
      | .bad => .bad 100007
      | .skip => .go [] (.ops ops rest k) rl (putS X.n sl o.dst .dead) cs
      | .split d b => .split b (.ops ops l k) rl (setS sl d (.con (.bool true))) (setS sl d (.con (.bool false))) cs
      | .run => nextRun L ok T X ops l i o rest k rl sl cs

def guardL (ops : Array Oper) (o : Oper) (sl : SL) : Option Bool :=
  match o.guard with
  | none => some true
  | some (j, want) => match (ops[j]?).bind (·.dst) with
    | some d => match getS sl d with
      | .con (.bool b) => bif ltb d X.n then some (match b, want with
        | true, true => true
        | false, false => true
        | _, _ => false) else none
      | _ => none
    | none => none

def asB : VV → Option Bool
  | .bool b => some b
  | _ => none

def nextA (ops : Array Oper) (l : List Oper) (recs : List Rec) (k : List Item) (rl : RL) (sl : SL) (cs : List Cmd) : Nx :=
  match l with
  | [] => if checkB ops recs then .go [] (.fin k) rl sl cs else .bad 100008
  | o :: rest => match guardL X ops o sl with
    | none => .bad 100009
    | some false => .go [] (.arun ops rest (recs ++ [recOf ops o (evL X.n sl) .no { x := .dead }]) k) rl (putS X.n sl o.dst .dead) cs
    | some true => match callOf o with
      | some c => if condD ops o.dst then .bad 100013 else match cs with
        | .call res inn out :: cs => match callL L ok T c (evL X.n sl) rl (.call (keyCall o) res inn out) with
          | some r => .go r.obs (.arun ops rest (recs ++ [recOf ops o (evL X.n sl) (.call (keyCall o) res inn out) r]) k) (upsR rl r.ups) (putS X.n sl o.dst r.x) cs
          | none => .bad recs.length
        | _ => .stop
      | none => match opL L T o (evL X.n sl) rl (supFor X.hint o) with
        | some r => match condD ops o.dst, asB r.x with
          | true, some b => .splitO r.obs b (.arun ops rest (recs ++ [recOf ops o (evL X.n sl) (supFor X.hint o) r]) k) (upsR rl r.ups) (putS X.n sl o.dst (.con (.bool true))) (putS X.n sl o.dst (.con (.bool false))) cs
          | _, _ => .go r.obs (.arun ops rest (recs ++ [recOf ops o (evL X.n sl) (supFor X.hint o) r]) k) (upsR rl r.ups) (putS X.n sl o.dst r.x) cs
        | none => .bad recs.length

def nextTell (p : Pos) (how : How) (r : Nat) (rl : RL) (sl : SL) (cs : List Cmd) : Nx :=
  match getR rl r with
  | some root => if root.keys.isEmpty && !root.held && !((X.inn.map (·.1)).contains r) && freshHow how rl r then .go [] p (how.rootsL rl r root) (tellS L how r root sl) cs else .bad 100011
  | none => .bad 100012

def nextPos (p : Pos) (rl : RL) (sl : SL) (cs : List Cmd) : Nx :=
  match p with
  | .fin todo => nextFin T X todo rl sl cs
  | .ops ops l k => nextOps L ok T X ops l k rl sl cs
  | .arun ops l recs k => nextA L ok T X ops l recs k rl sl cs

def isArun : Pos → Bool
  | .arun .. => true
  | _ => false

def next (p : Pos) (rl : RL) (sl : SL) (cs : List Cmd) : Nx :=
  match cs with
  | .tell how r :: cs => if isArun p then .bad 100010 else nextTell L X p how r rl sl cs
  | cs => match p, uptoOf cs with
    | .fin todo, some k => if todo.length = k then .haltAt p rl sl else nextPos L ok T X p rl sl cs
    | _, _ => nextPos L ok T X p rl sl cs
end

def allOb (Z : Deep) : List Prop → Prop → Prop
  | [], q => q
  | p :: l, q => Z.and p (allOb Z l q)

def vc (L : Leaf) (Z : Deep) (T : Tab) (X : Cfg) : Nat → Pos → RL → SL → List Cmd → Prop
  | 0, p, rl, sl, _ => Z.pos p rl sl
  | n + 1, p, rl, sl, cs => match next L Z.ok T X p rl sl cs with
    | .go obs p rl sl cs => allOb Z obs (vc L Z T X n p rl sl cs)
    | .split b p rl sl1 sl2 cs => Z.br b (vc L Z T X n p rl sl1 cs) (vc L Z T X n p rl sl2 cs)
    | .splitO obs b p rl sl1 sl2 cs => allOb Z obs (Z.br b (vc L Z T X n p rl sl1 cs) (vc L Z T X n p rl sl2 cs))
    | .splitP b p1 p2 rl sl cs1 cs2 => Z.br b (vc L Z T X n p1 rl sl cs1) (vc L Z T X n p2 rl sl cs2)
    | .stop => Z.pos p rl sl
    | .haltAt p rl sl => Z.pos p rl sl
    | .bad i => Z.bad i
    | .done obs => allOb Z obs True

end Go.VI
