/- The run is sound. For use: a contract out of a run; loops; a state told in a template's words. A table of types, row by row, and that it fits a program. The types of the program. Limbs: numbers as lists of words of 32 bits, the least first. FA The program's big integers. The program's limbs: comparing, adding, subtracting. -/
import Derived.Test.YtnnikgdmdmbooaaGreatJ06
import Derived.Test.YtnnikgdmdmbooaaGreatProg
import Derived.Test.YtnnikgdmdmbooaaGreatJ04
import Derived.Laws.Bits64
set_option linter.unusedVariables false
set_option linter.unusedSimpArgs false
namespace Go.VI

def Means (P : Program) (T : Tab) (J : Job) (n : Nat) : Pos → RL → SL → Prop
  | .fin todo, rl, sl => Fin P T J todo (toRoots rl) (slots n sl)
  | .ops ops l k, rl, sl => FinOps P T J ops l k (toRoots rl) (slots n sl)
  | .arun ops rest recs k, rl, sl => ARun P T J k ops rest recs (toRoots rl) (slots n sl)

def deep (P : Program) (T : Tab) (J : Job) (n : Nat) : Deep where
  ok := Ok P T
  and p q := p ∧ q
  br b p q := (b = true → p) ∧ (b = false → q)
  pos := Means P T J n
  bad _ := False

section
variable {P : Program} {T : Tab}

theorem opL_std (o : Oper) (ev : Operand → VV) (rl : RL) (sup : Sup) : opL std T o ev rl sup = opV T o ev (toRoots rl) sup := by
  obtain ⟨dst, op, type, pos, aft, guard⟩ := o
  cases op <;> try rfl
  case load t x =>
    simp only [opL, opV, loadL_std, Option.map_map]
    rfl
  case store t x y => simp only [opL, opV, storeL_std]
  case makeFunc fn first caps => cases fn <;> rfl
  case call c =>
    obtain ⟨callee, args, ats⟩ := c
    cases callee <;> try rfl
    rename_i b
    cases b <;> try rfl
    simp only [opL, opV, appendL_std]
    rfl

theorem outVL_std : ∀ (a b : List (Nat × Root)), outVL std a b = outV a b
  | [], [] => rfl
  | (k, x) :: l, (k', y) :: l' => by simp only [outVL, outV, outVL_std l l']; rfl
  | [], _ :: _ => rfl
  | _ :: _, [] => rfl

theorem callL_std (c : Call) (ev : Operand → VV) (rl : RL) (sup : Sup) : callL std (Ok P T) T c ev rl sup = callV P T c ev (toRoots rl) sup := by
  unfold callL callV
  simp only [argsL_std, outVL_std]
  rfl

theorem tell1L_std (how : How) (r : Nat) (root : Root) (x : VV) : tell1L std how r root x = tell1 how r root x := by
  cases x <;> try rfl
  cases how <;> simp only [tell1L, tell1, atR_std]

theorem tellL_std (how : How) (r : Nat) (root : Root) (x : VV) : tellL std how r root x = tellV how r root x := by
  cases x <;> simp only [tellL, tellV, tell1L_std]
  rename_i f caps
  congr 1
  apply List.map_congr_left
  intro x _
  exact tell1L_std how r root x

theorem tellV_dead (how : How) (r : Nat) (root : Root) : tellV how r root .dead = .dead := rfl

theorem getS_tell (how : How) (r : Nat) (root : Root) : ∀ (sl : SL) (i : Nat), getS (tellS std how r root sl) i = tellV how r root (getS sl i)
  | [], i => rfl
  | (k, x) :: l, i => by
    simp only [tellS, getS, tellL_std]
    cases eqb k i with
    | true => rfl
    | false => simp only [cond_false]; exact getS_tell how r root l i

theorem slots_tell (n : Nat) (how : How) (r : Nat) (root : Root) (sl : SL) : slots n (tellS std how r root sl) = (slots n sl).map (tellV how r root) := by
  simp only [slots, List.map_map]
  apply List.map_congr_left
  intro i _
  exact getS_tell how r root sl i

theorem getR_del : ∀ (rl : RL) (i k : Nat), getR (delR rl i) k = if k = i then none else getR rl k
  | [], i, k => by simp [delR, getR]
  | (j, r) :: l, i, k => by
    simp only [delR]
    cases hj : eqb j i with
    | true =>
      have : j = i := eq_of_eqb hj
      subst this
      simp only [cond_true]
      rw [getR_del l j k]
      by_cases h : k = j
      · simp [h]
      · have : eqb j k = false := nbeq.2 fun e => h e.symm
        simp [h, getR, this]
    | false =>
      simp only [cond_false, getR]
      cases hk : eqb j k with
      | true =>
        have : j = k := eq_of_eqb hk
        subst this
        have : j ≠ i := nbeq.1 hj
        simp [this]
      | false => simp only [cond_false]; exact getR_del l i k

theorem toRoots_how (how : How) (rl : RL) (r : Nat) (root : Root) : toRoots (how.rootsL rl r root) = how.roots (toRoots rl) r root := by
  have hd : toRoots (delR rl r) = (toRoots rl).del r := by funext k; simp only [toRoots, Roots.del, getR_del]
  cases how with
  | frz => exact hd
  | hid => exact hd
  | mv s => simp only [How.rootsL, How.roots, toRoots_set, hd]

theorem stepV_of_op {o : Oper} {ev : Operand → VV} {rl : RL} {sup : Sup} {r : Res} (h : opL std T o ev rl sup = some r) : stepV P T o ev (toRoots rl) sup = some r := by
  rw [opL_std] at h
  simp only [stepV, h]

theorem stepV_of_call {o : Oper} {c : Call} {ev : Operand → VV} {rl : RL} {sup : Sup} {r : Res} (hc : callOf o = some c) (h : callL std (Ok P T) T c ev rl sup = some r) : stepV P T o ev (toRoots rl) sup = some r := by
  rw [callL_std] at h
  obtain ⟨dst, op, type, pos, aft, guard⟩ := o
  simp only [callOf] at hc
  split at hc
  · rename_i c'
    split at hc
    · rename_i fo hcal
      simp only [Option.some.injEq] at hc; subst hc
      obtain ⟨callee, args, ats⟩ := c'
      simp only at hcal
      subst hcal
      unfold stepV
      rw [show opV T ⟨dst, .call ⟨.value fo, args, ats⟩, type, pos, aft, guard⟩ ev (toRoots rl) sup = none from rfl]
      exact h
    · simp at hc
  · simp at hc

structure CfgOK (P : Program) (J : Job) (X : Cfg) : Prop where
  job : JobOK J
  fn : ∃ fn, P.funcs[J.f]? = some fn ∧ fn.results.toList = X.results
  res : J.res = X.res
  inn : J.inn = X.inn
  out : J.out = X.out
  mixed : P.follows .mixedOrders = true

/-- What one step of the run says. -/
def NxOK (P : Program) (T : Tab) (J : Job) (n : Nat) (goal : Prop) : Nx → Prop
  | .go obs p rl sl _ => (∀ q ∈ obs, q) → Means P T J n p rl sl → goal
  | .split b p rl sl1 sl2 _ => (b = true → Means P T J n p rl sl1) → (b = false → Means P T J n p rl sl2) → goal
  | .splitO obs b p rl sl1 sl2 _ => (∀ q ∈ obs, q) → (b = true → Means P T J n p rl sl1) → (b = false → Means P T J n p rl sl2) → goal
  | .splitP b p1 p2 rl sl _ _ => (b = true → Means P T J n p1 rl sl) → (b = false → Means P T J n p2 rl sl) → goal
  | .stop => True
  | .haltAt p rl sl => Means P T J n p rl sl → goal
  | .bad _ => True
  | .done obs => (∀ q ∈ obs, q) → goal

theorem lit_of {n : Nat} {sl : SL} {d : Nat} {x : VV} (h : evL n sl (.tmp d) = x) : (slots n sl).getD d .dead = x := by
  have := congrFun (sval_ev n sl) (.tmp d)
  rw [← h, ← this]; rfl

variable (hT : TabOK P T) (hz : ∀ t, (T.ty t).isSome → 0 < T.sz t) {J : Job} {X : Cfg} (hX : CfgOK P J X)

include hT hX in
theorem nextRet_ok {p : Pos} {rl : RL} {sl : SL} {cs : List Cmd} (hp : p = .fin [] ∨ ∃ k, p = .fin (.code .ret :: k)) : NxOK P T J X.n (Means P T J X.n p rl sl) (nextRet T X p rl sl cs) := by
  unfold nextRet
  split
  · intro _ h; exact h
  · split
    · rename_i xs hxs
      split
      · rename_i o1 o2 h1 h2
        split
        · rename_i hs
          intro ho
          obtain ⟨fn, f1, f2⟩ := hX.fn
          have key := fun k => Fin.ret (k := k) hT hX.job f1 (by rw [f2]; exact hxs) (by rw [hX.res]; exact hs) (by rw [hX.res]; exact h1) (by rw [hX.inn, hX.out]; exact h2)
            (fun q hq => ho q (List.mem_append_left _ hq)) (fun q hq => ho q (List.mem_append_right _ hq))
          rcases hp with rfl | ⟨k, rfl⟩
          · exact (key []).2
          · exact (key k).1
        · trivial
      · trivial
    · trivial

include hT hz hX in
theorem nextFin_ok {todo : List Item} {rl : RL} {sl : SL} {cs : List Cmd} : NxOK P T J X.n (Means P T J X.n (.fin todo) rl sl) (nextFin T X todo rl sl cs) := by
  unfold nextFin
  split
  · exact nextRet_ok hT hX (.inl rfl)
  · intro _ h; exact Fin.inBlock h
  · intro _ h; exact Fin.inScope h
  · rename_i c k
    split
    · intro _ h; exact Fin.scope h
    · split
      · rename_i k' he
        intro _ h; exact Fin.goto he h
      · trivial
    · intro _ h; exact Fin.skip h
    · intro _ h; exact Fin.label h
    · intro _ h; exact Fin.seq h
    · intro _ h; exact Fin.block h
    · split
      · rename_i k' he
        split
        · intro h; exact Fin.exit he h
        · intro _ h; exact Fin.exit he h
      · trivial
    · rename_i c x y
      have hev : ∀ v, evL X.n sl c = v → sval (slots X.n sl) c = v := fun v h => by rw [sval_ev]; exact h
      split
      · rename_i b hb
        have hb' : unb (sval (slots X.n sl) c) = .bool b := by rw [hev _ hb]; rfl
        split
        · rename_i ht
          intro _ h
          exact Fin.cond hb' (fun _ => h) (fun e => by rw [ht] at e; simp at e)
        · rename_i ht
          intro _ h
          exact Fin.cond hb' (fun e => by rw [e] at ht; simp at ht) (fun _ => h)
      · rename_i b hb
        have hb' : unb (sval (slots X.n sl) c) = .bool b := by rw [hev _ hb]; rfl
        split
        · intro h1 h2; exact Fin.cond hb' h1 h2
        · intro h1 h2; exact Fin.cond hb' h1 h2
        · intro ho h
          have e := (all_cons ho).1
          exact Fin.cond hb' (fun _ => h) (fun e' => by rw [e] at e'; simp at e')
        · intro ho h
          have e := (all_cons ho).1
          exact Fin.cond hb' (fun e' => by rw [e] at e'; simp at e') (fun _ => h)
        · trivial
      · trivial
    · intro _ h; exact Fin.region h
    · intro _ h; exact Fin.drawn hT hz hX.mixed h
    · exact nextRet_ok hT hX (.inr ⟨k, rfl⟩)
    · trivial
  · trivial

theorem splitOK {ops : Array Oper} {l : List Nat} {k : List Item} {rl : RL} {sl : SL} {cs : List Cmd} (d : Nat) (b : Bool) (hd : evL X.n sl (.tmp d) = .bool b) :
    NxOK P T J X.n (Means P T J X.n (.ops ops l k) rl sl) (.split b (.ops ops l k) rl (setS sl d (.con (.bool true))) (setS sl d (.con (.bool false))) cs) := by
  intro h1 h2
  have hl := lit_of hd
  refine FinOps.lit hl (fun e => ?_) (fun e => ?_)
  · rw [slots_set]; exact h1 e
  · rw [slots_set]; exact h2 e

theorem nextRun_ok {ops : Array Oper} {l : List Nat} {i : Nat} {o : Oper} {rest : List Nat} {k : List Item} {rl : RL} {sl : SL} {cs : List Cmd}
    (hrun : ∀ sup r, stepV P T o (sval (slots X.n sl)) (toRoots rl) sup = some r → (∀ q ∈ r.obs, q) → Means P T J X.n (.ops ops rest k) (upsR rl r.ups) (putS X.n sl o.dst r.x) → Means P T J X.n (.ops ops l k) rl sl) :
    NxOK P T J X.n (Means P T J X.n (.ops ops l k) rl sl) (nextRun std (Ok P T) T X ops l i o rest k rl sl cs) := by
  unfold nextRun
  split
  · rename_i d b hp
    refine splitOK d b ?_
    unfold pickOf at hp
    split at hp
    · split at hp
      · rename_i hb
        simp only [Option.some.injEq, Prod.mk.injEq] at hp
        obtain ⟨rfl, rfl⟩ := hp
        exact hb
      · simp at hp
    · simp at hp
  · split
    · intro _ h; exact h
    · split
      · rename_i c hc
        split
        · split
          · rename_i r hr
            intro ho h
            exact hrun _ r (by rw [sval_ev]; exact stepV_of_call hc hr) ho h
          · trivial
        · trivial
      · split
        · rename_i r hr
          intro ho h
          exact hrun _ r (by rw [sval_ev]; exact stepV_of_op hr) ho h
        · trivial

include hT hz in
theorem nextOps_ok {ops : Array Oper} {l : List Nat} {k : List Item} {rl : RL} {sl : SL} {cs : List Cmd} :
    NxOK P T J X.n (Means P T J X.n (.ops ops l k) rl sl) (nextOps std (Ok P T) T X ops l k rl sl cs) := by
  unfold nextOps
  split
  · intro _ h; exact FinOps.nil h
  · rename_i i rest
    split
    · trivial
    · rename_i o hi
      have splitOK := fun d b => splitOK (P := P) (T := T) (J := J) (X := X) (ops := ops) (l := i :: rest) (k := k) (rl := rl) (sl := sl) (cs := cs) d b
      cases hw : wantOf X ops o sl with
      | bad => trivial
      | skip =>
        intro _ h
        unfold wantOf at hw
        split at hw
        · simp at hw
        · rename_i j want hg
          split at hw
          · rename_i d hd
            split at hw
            · rename_i b hb
              split at hw
              · simp at hw
              · rename_i hne
                refine FinOps.unwanted hi hg hd (lit_of hb) hne ?_
                rw [slots_put]; exact h
            · simp at hw
            · simp at hw
          · simp at hw
      | split d b =>
        refine splitOK d b ?_
        unfold wantOf at hw
        split at hw
        · simp at hw
        · split at hw
          · split at hw
            · split at hw <;> simp at hw
            · rename_i hb
              simp only [Want.split.injEq] at hw
              obtain ⟨rfl, rfl⟩ := hw
              exact hb
            · simp at hw
          · simp at hw
      | run =>
        refine nextRun_ok fun sup r hs ho h => ?_
        have h' : FinOps P T J ops rest k (ups (toRoots rl) r.ups) (setSlot (slots X.n sl) o.dst r.x) := by
          rw [← toRoots_ups, slots_put]; exact h
        unfold wantOf at hw
        split at hw
        · rename_i hg
          exact FinOps.step hT hz hi hg hs ho h'
        · rename_i j want hg
          split at hw
          · rename_i d hd
            split at hw
            · rename_i b hb
              split at hw
              · rename_i e
                subst e
                exact FinOps.guarded hT hz hi hg hd (lit_of hb) hs ho h'
              · simp at hw
            · simp at hw
            · simp at hw
          · simp at hw

theorem nextA_ok {ops : Array Oper} {l : List Oper} {recs : List Rec} {k : List Item} {rl : RL} {sl : SL} {cs : List Cmd} :
    NxOK P T J X.n (Means P T J X.n (.arun ops l recs k) rl sl) (nextA std (Ok P T) T X ops l recs k rl sl cs) := by
  unfold nextA
  split
  · split
    · rename_i hc
      intro _ h; exact ⟨hc, h⟩
    · trivial
  · rename_i o rest
    have hgv : ∀ b, guardL X ops o sl = some b → guardV ops o (slots X.n sl) = some b := by
      intro b hb
      unfold guardL at hb
      unfold guardV
      cases hg : o.guard with
      | none => rw [hg] at hb; simpa using hb
      | some jw =>
        obtain ⟨j, want⟩ := jw
        rw [hg] at hb
        simp only at hb ⊢
        cases hd : (ops[j]?).bind (·.dst) with
        | none => rw [hd] at hb; simp at hb
        | some d =>
          rw [hd] at hb
          simp only at hb ⊢
          split at hb
          · rename_i c hc
            cases hlt : ltb d X.n with
            | false => rw [hlt] at hb; simp at hb
            | true =>
              rw [hlt] at hb
              simp only [cond_true, Option.some.injEq] at hb
              have : (slots X.n sl).getD d .dead = .con (.bool c) := by rw [slots_get, if_pos (by rw [ltb_eq] at hlt; exact hlt), hc]
              rw [this]
              simp only
              rw [← hb]; cases c <;> cases want <;> rfl
          · simp at hb
    split
    · trivial
    · rename_i hg
      intro _ h
      refine ⟨.no, { x := .dead }, ?_, fun p hp => by simp at hp, ?_⟩
      · unfold stepG; rw [hgv _ hg]
      · rw [slots_put, sval_ev]; exact h
    · rename_i hg
      have runs : ∀ sup r, stepV P T o (sval (slots X.n sl)) (toRoots rl) sup = some r → (condD ops o.dst = true → conB r.x = r.x) → (∀ q ∈ r.obs, q) →
          Means P T J X.n (.arun ops rest (recs ++ [recOf ops o (evL X.n sl) sup r]) k) (upsR rl r.ups) (putS X.n sl o.dst r.x) → Means P T J X.n (.arun ops (o :: rest) recs k) rl sl := by
        intro sup r hs hx ho h
        refine ⟨sup, r, ?_, ho, ?_⟩
        · unfold stepG
          rw [hgv _ hg]
          simp only [hs, Option.map_some, Option.some.injEq]
          split
          · rename_i hc; rw [hx hc]
          · rfl
        · rw [← toRoots_ups, slots_put, sval_ev]
          exact h
      split
      · rename_i c hc
        split
        · trivial
        · rename_i hcd
          split
          · split
            · rename_i r hr
              intro ho h
              refine runs _ r ?_ (fun e => absurd e hcd) ho h
              rw [sval_ev]
              exact stepV_of_call hc hr
            · trivial
          · trivial
      · split
        · rename_i r hr
          have hs : ∀ sup, sup = supFor X.hint o → stepV P T o (sval (slots X.n sl)) (toRoots rl) sup = some r := by
            intro sup e; subst e; rw [sval_ev]; exact stepV_of_op hr
          split
          · rename_i b hcd hb
            have hx : r.x = .bool b := by
              revert hb; cases r.x <;> simp [asB]
            intro ho h1 h2
            have main : ∀ c, c = b → Means P T J X.n (.arun ops rest (recs ++ [recOf ops o (evL X.n sl) (supFor X.hint o) r]) k) (upsR rl r.ups) (putS X.n sl o.dst (.con (.bool c))) →
                Means P T J X.n (.arun ops (o :: rest) recs k) rl sl := by
              intro c hc h
              subst hc
              refine ⟨supFor X.hint o, { r with x := conB r.x }, ?_, ho, ?_⟩
              · unfold stepG
                rw [hgv _ hg]
                simp only [hs _ rfl, Option.map_some, Option.some.injEq, hcd, if_true]
              · rw [← toRoots_ups, slots_put, sval_ev, hx]
                exact h
            cases hb2 : b with
            | true => exact main true hb2.symm (h1 hb2)
            | false => exact main false hb2.symm (h2 hb2)
          · rename_i hno
            intro ho h
            refine runs _ r (hs _ rfl) (fun hcd => ?_) ho h
            cases hrx : r.x <;> try rfl
            rename_i b
            exact absurd (by rw [hrx]; rfl) (hno b hcd)
        · trivial

include hT hX in
theorem tell_ok {how : How} {r : Nat} {root : Root} {rl : RL} {sl : SL} (hr : getR rl r = some root)
    (hc : (root.keys.isEmpty && !root.held && !((X.inn.map (·.1)).contains r) && freshHow how rl r) = true) {g : Tags} {w : World} {rv : Nat → Value} {a : Act} (h : R T J.C g w rv (toRoots rl) (slots X.n sl) a) :
    ∃ g' rv', R T J.C g' w rv' (toRoots (how.rootsL rl r root)) (slots X.n (tellS std how r root sl)) a := by
  simp only [Bool.and_eq_true, List.isEmpty_iff, Bool.not_eq_true'] at hc
  obtain ⟨⟨⟨h1, h2⟩, h3⟩, h4⟩ := hc
  have hh : J.C.hdr r = none := by
    show J.hdr r = none
    rw [hX.job.hdr, hX.inn]
    rw [ofList_none (by simpa using h3)]; rfl
  refine ⟨gTags g how r, gRv rv how r, ?_⟩
  rw [toRoots_how, slots_tell]
  exact h.tell hT hr h1 h2 hh hX.job.own how fun s e => by
    subst e
    simp only [freshHow, Bool.or_eq_true, Option.isNone_iff_eq_none] at h4
    rcases h4 with h4 | h4
    · exact .inl (eq_of_eqb h4)
    · exact .inr h4

include hT hz hX in
theorem next_ok {p : Pos} {rl : RL} {sl : SL} {cs : List Cmd} : NxOK P T J X.n (Means P T J X.n p rl sl) (next std (Ok P T) T X p rl sl cs) := by
  unfold next
  split
  · rename_i how r cs
    split
    · trivial
    · rename_i hna
      unfold nextTell
      split
      · rename_i root hr
        split
        · rename_i hc
          intro _ h
          cases p with
          | fin todo =>
            intro g w rv a hR
            obtain ⟨g', rv', hR'⟩ := tell_ok hT hX hr hc hR
            exact h g' w rv' a hR'
          | ops ops l k =>
            intro g w rv a hR
            obtain ⟨g', rv', hR'⟩ := tell_ok hT hX hr hc hR
            exact h g' w rv' a hR'
          | arun ops rest recs k => exact absurd rfl hna
        · trivial
      · trivial
  · have key : ∀ cs, NxOK P T J X.n (Means P T J X.n p rl sl) (nextPos std (Ok P T) T X p rl sl cs) := by
      intro cs
      unfold nextPos
      split
      · exact nextFin_ok hT hz hX
      · exact nextOps_ok hT hz
      · exact nextA_ok
    split
    · split
      · intro h; exact h
      · exact key _
    · exact key _

theorem allOb_spec {J : Job} {n : Nat} : ∀ {l : List Prop} {q : Prop}, allOb (deep P T J n) l q → (∀ p ∈ l, p) ∧ q
  | [], q, h => ⟨fun p hp => by simp at hp, h⟩
  | p :: l, q, h => by
    obtain ⟨h1, h2⟩ := h
    obtain ⟨h3, h4⟩ := allOb_spec h2
    refine ⟨fun r hr => ?_, h4⟩
    simp only [List.mem_cons] at hr
    rcases hr with rfl | hr
    · exact h1
    · exact h3 r hr

include hT hz hX in
theorem vc_sound : ∀ (n : Nat) {p : Pos} {rl : RL} {sl : SL} {cs : List Cmd}, vc std (deep P T J X.n) T X n p rl sl cs → Means P T J X.n p rl sl
  | 0, p, rl, sl, cs, h => h
  | n + 1, p, rl, sl, cs, h => by
    have hn := next_ok hT hz hX (p := p) (rl := rl) (sl := sl) (cs := cs)
    simp only [vc] at h
    rw [show (deep P T J X.n).ok = Ok P T from rfl] at h
    cases hx : next std (Ok P T) T X p rl sl cs with
    | go obs p' rl' sl' cs' =>
      rw [hx] at h hn
      obtain ⟨h1, h2⟩ := allOb_spec h
      exact hn h1 (vc_sound n h2)
    | split b p' rl' sl1 sl2 cs' =>
      rw [hx] at h hn
      exact hn (fun e => vc_sound n (h.1 e)) (fun e => vc_sound n (h.2 e))
    | splitO obs b p' rl' sl1 sl2 cs' =>
      rw [hx] at h hn
      obtain ⟨h1, h2⟩ := allOb_spec h
      exact hn h1 (fun e => vc_sound n (h2.1 e)) (fun e => vc_sound n (h2.2 e))
    | splitP b p1 p2 rl' sl' cs1' cs2' =>
      rw [hx] at h hn
      exact hn (fun e => vc_sound n (h.1 e)) (fun e => vc_sound n (h.2 e))
    | stop => rw [hx] at h; exact h
    | haltAt p' rl' sl' =>
      rw [hx] at h hn
      exact hn h
    | bad i => rw [hx] at h; exact h.elim
    | done obs =>
      rw [hx] at h hn
      exact hn (allOb_spec h).1

end
end Go.VI

namespace Go.VI

def enumS : Nat → List VV → SL
  | _, [] => []
  | i, x :: l => (i, x) :: enumS (i + 1) l

def weakSlots (sl : SL) : SL → Option (List Prop)
  | [] => some []
  | (i, y) :: l => match weakV (getS sl i) y, weakSlots sl l with
    | some a, some b => some (a ++ b)
    | _, _ => none

def weakRoots (rl : RL) : RL → Option (List Prop)
  | [] => some []
  | (k, y) :: l => match getR rl k, weakRoots rl l with
    | some x, some b => match fitR x y with
      | some a => some (a ++ b)
      | none => none
    | _, _ => none

/-- The roots that the template does not name. -/
def extra (rl rl' : RL) : Option Nat := (rl.map (·.1)).find? fun k => (getR rl' k).isNone

theorem getS_enum : ∀ (l : List VV) (i k : Nat), getS (enumS i l) k = if i ≤ k then l.getD (k - i) .dead else .dead
  | [], i, k => by simp [enumS, getS]
  | x :: l, i, k => by
    simp only [enumS, getS]
    cases h : eqb i k with
    | true =>
      have : i = k := eq_of_eqb h
      subst this
      simp
    | false =>
      have hne : i ≠ k := nbeq.1 h
      simp only [cond_false]
      rw [getS_enum l (i + 1) k]
      by_cases hle : i ≤ k
      · rw [if_pos hle, if_pos (by omega), show k - i = (k - (i + 1)) + 1 from by omega, List.getD_cons_succ]
      · rw [if_neg hle, if_neg (by omega)]

theorem slots_enum (n : Nat) (args : List VV) (h : args.length ≤ n) : slots n (enumS 0 args) = args ++ List.replicate (n - args.length) .dead := by
  apply List.ext_getElem
  · simp [slots]; omega
  · intro i h1 h2
    simp only [slots, List.getElem_map, List.getElem_range, getS_enum, Nat.zero_le, if_true, Nat.sub_zero]
    rw [List.getElem_append]
    split
    · rename_i hi
      simp [List.getD_eq_getElem?_getD, hi]
    · rename_i hi
      simp only [List.getElem_replicate]
      rw [List.getD_eq_getElem?_getD, List.getElem?_eq_none (by omega)]; rfl

section
variable {P : Program} {T : Tab} (hT : TabOK P T) (hz : ∀ t, (T.ty t).isSome → 0 < T.sz t)

/-- What a program gives, once and for all. -/
structure ProgOK (P : Program) (T : Tab) : Prop where
  tab : TabOK P T
  pos : ∀ t, (T.ty t).isSome → 0 < T.sz t
  mixed : P.follows .mixedOrders = true

theorem Ok.run (hP : ProgOK P T) {f : FuncId} {fn : Func} {body : Code} {args : List VV} {inn : List (Nat × Root)} {res : RV} {out : List (Nat × Root)} (hint : List (Nat × Sup)) (cs : List Cmd) (fuel : Nat)
    (hfn : P.funcs[f]? = some fn) (hname : (fn.name == "runtime.NumGoroutine") = false) (hbody : fn.body = some body) (hlen : args.length ≤ fn.ntmps)
    (hsmall : ∀ r, (ofList inn r).isSome → r < RK 0) (hkeys : ∀ r root, ofList inn r = some root → root.keys = [])
    (h : ∀ J : Job, CfgOK P J { n := fn.ntmps, hint, results := fn.results.toList, res, inn, out } →
      vc std (deep P T J fn.ntmps) T { n := fn.ntmps, hint, results := fn.results.toList, res, inn, out } fuel (.fin [.code body]) (upsR [] inn) (enumS 0 args) cs) : Ok P T f args inn res out := by
  refine Ok.intro hfn hname hbody hsmall hkeys fun J h1 h2 h3 h4 hJ => ?_
  have hX : CfgOK P J { n := fn.ntmps, hint, results := fn.results.toList, res, inn, out } := ⟨hJ, ⟨fn, by rw [h1]; exact hfn, rfl⟩, h3, h2, h4, hP.mixed⟩
  have := vc_sound hP.tab hP.pos hX fuel (h J hX)
  simp only [Means] at this
  rw [toRoots_ups, slots_enum _ _ hlen] at this
  exact this

/-- Go on from a point where the run stopped. -/
theorem Means.run (hP : ProgOK P T) {J : Job} {X : Cfg} (hX : CfgOK P J X) {p : Pos} {rl : RL} {sl : SL} (cs : List Cmd) (fuel : Nat) (h : vc std (deep P T J X.n) T X fuel p rl sl cs) : Means P T J X.n p rl sl :=
  vc_sound hP.tab hP.pos hX fuel h

/-- A function that writes nothing of its caller's. The leaves are handed as names: `cbv`, then `subst hL hZ`, then `dsimp only [std, deep]`. -/
theorem Ok.go (hP : ProgOK P T) {f : FuncId} {fn : Func} {body : Code} {args : List VV} {res : RV} (hint : List (Nat × Sup)) (cs : List Cmd) (fuel : Nat)
    (hfn : P.funcs[f]? = some fn) (hname : (fn.name == "runtime.NumGoroutine") = false) (hbody : fn.body = some body) (hlen : Nat.ble args.length fn.ntmps = true)
    (h : ∀ J : Job, CfgOK P J { n := fn.ntmps, hint, results := fn.results.toList, res, inn := [], out := [] } → ∀ (L : Leaf) (Z : Deep), std = L → deep P T J fn.ntmps = Z →
      vc L Z T { n := fn.ntmps, hint, results := fn.results.toList, res, inn := [], out := [] } fuel (.fin [.code body]) [] (enumS 0 args) cs) : Ok P T f args [] res [] :=
  Ok.run hP hint cs fuel hfn hname hbody (Nat.le_of_ble_eq_true hlen) (fun r hr => by simp [ofList, ups, noRoots] at hr) (fun r root hr => by simp [ofList, ups, noRoots] at hr) fun J hX => h J hX std _ rfl rfl

theorem Means.go (hP : ProgOK P T) {J : Job} {X : Cfg} (hX : CfgOK P J X) {p : Pos} {rl : RL} {sl : SL} (cs : List Cmd) (fuel : Nat)
    (h : ∀ (L : Leaf) (Z : Deep), std = L → deep P T J X.n = Z → vc L Z T X fuel p rl sl cs) : Means P T J X.n p rl sl :=
  vc_sound hP.tab hP.pos hX fuel (h std _ rfl rfl)

theorem Means.enter {J : Job} {n : Nat} {c : Code} {k : List Item} {rl : RL} {sl : SL} (h : Means P T J n (.fin (.code c :: .inLoop c :: k)) rl sl) : Means P T J n (.fin (.code (.loop c) :: k)) rl sl := Fin.loop h
theorem Means.again {J : Job} {n : Nat} {c : Code} {k : List Item} {rl : RL} {sl : SL} (h : Means P T J n (.fin (.code c :: .inLoop c :: k)) rl sl) : Means P T J n (.fin (.inLoop c :: k)) rl sl := Fin.inLoop h

/-- A loop, by what holds at the head of each round and a number that falls. -/
theorem Means.loop {J : Job} {n : Nat} {c : Code} {k : List Item} {α : Type} (rl : α → RL) (sl : α → SL) (I : α → Prop) (μ : α → Nat)
    (hbody : ∀ x, I x → (∀ y, I y → μ y < μ x → Means P T J n (.fin (.inLoop c :: k)) (rl y) (sl y)) → Means P T J n (.fin (.code c :: .inLoop c :: k)) (rl x) (sl x)) (x : α) (hx : I x) :
    Means P T J n (.fin (.code (.loop c) :: k)) (rl x) (sl x) := by
  have key : ∀ m x, I x → μ x = m → Means P T J n (.fin (.code c :: .inLoop c :: k)) (rl x) (sl x) := by
    intro m
    induction m using Nat.strongRecOn with
    | _ m ih =>
      intro x hx hm
      exact hbody x hx fun y hy hlt => Means.again (ih (μ y) (by omega) y hy rfl)
  exact Means.enter (key _ x hx rfl)

theorem weakSlots_get {sl : SL} : ∀ {l : SL} {obs : List Prop}, weakSlots sl l = some obs → (∀ p ∈ obs, p) → ∀ i, getS l i = .dead ∨ ∃ obs', weakV (getS sl i) (getS l i) = some obs' ∧ ∀ p ∈ obs', p
  | [], obs, h, _, i => .inl rfl
  | (k, y) :: l, obs, h, ho, i => by
    simp only [weakSlots] at h
    split at h
    · rename_i a b h1 h2
      simp only [Option.some.injEq] at h; subst h
      simp only [getS]
      cases hb : eqb k i with
      | true =>
        have : k = i := eq_of_eqb hb
        subst this
        exact .inr ⟨a, h1, fun p hp => ho p (List.mem_append_left _ hp)⟩
      | false =>
        simp only [cond_false]
        exact weakSlots_get h2 (fun p hp => ho p (List.mem_append_right _ hp)) i
    · simp at h

theorem weakRoots_get {rl : RL} : ∀ {l : RL} {obs : List Prop}, weakRoots rl l = some obs → (∀ p ∈ obs, p) → ∀ k y, getR l k = some y → ∃ x obs', getR rl k = some x ∧ fitR x y = some obs' ∧ ∀ p ∈ obs', p
  | [], obs, h, _, k, y, hy => by simp [getR] at hy
  | (j, z) :: l, obs, h, ho, k, y, hy => by
    simp only [weakRoots] at h
    split at h
    · rename_i x b h1 h2
      split at h
      · rename_i a h3
        simp only [Option.some.injEq] at h; subst h
        simp only [getR] at hy
        cases hb : eqb j k with
        | true =>
          have : j = k := eq_of_eqb hb
          subst this
          rw [hb] at hy
          simp only [cond_true, Option.some.injEq] at hy; subst hy
          exact ⟨x, a, h1, h3, fun p hp => ho p (List.mem_append_left _ hp)⟩
        | false =>
          rw [hb] at hy
          exact weakRoots_get h2 (fun p hp => ho p (List.mem_append_right _ hp)) k y hy
      · simp at h
    · simp at h

def AllP : List Prop → Prop
  | [] => True
  | p :: l => p ∧ AllP l

theorem AllP.all : ∀ {l : List Prop}, AllP l → ∀ p ∈ l, p
  | q :: l, h, p, hp => by
    simp only [List.mem_cons] at hp
    rcases hp with rfl | hp
    · exact h.1
    · exact AllP.all h.2 p hp

/-- The state in a template's words. -/
theorem Means.weak {J : Job} {n : Nat} {todo : List Item} {rl rl' : RL} {sl sl' : SL} {o1 o2 : List Prop} (h1 : weakSlots sl sl' = some o1) (h2 : weakRoots rl rl' = some o2) (hx : extra rl rl' = none)
    (ho1 : AllP o1) (ho2 : AllP o2) (h : Means P T J n (.fin todo) rl' sl') : Means P T J n (.fin todo) rl sl := by
  replace ho1 := ho1.all
  replace ho2 := ho2.all
  intro g w rv a hR
  refine h g w rv a ?_
  have dom : ∀ k x, getR rl k = some x → ∃ y, getR rl' k = some y := by
    intro k x hk
    have hm : ∀ (l : RL), getR l k = some x → k ∈ l.map (·.1) := by
      intro l
      induction l with
      | nil => intro h; simp [getR] at h
      | cons z l ih =>
        obtain ⟨j, r⟩ := z
        intro h
        simp only [getR] at h
        cases hb : eqb j k with
        | true => have : j = k := eq_of_eqb hb
                  simp [this]
        | false =>
          rw [hb] at h
          simp only [cond_false] at h
          simp only [List.map_cons, List.mem_cons]
          exact .inr (ih h)
    have := hm rl hk
    unfold extra at hx
    rw [List.find?_eq_none] at hx
    have := hx k this
    cases hg : getR rl' k with
    | none => rw [hg] at this; simp at this
    | some y => exact ⟨y, rfl⟩
  have fit : ∀ k x, getR rl k = some x → ∃ y, getR rl' k = some y ∧ RootR T g w rv k y ∧ y.av = x.av ∧ y.keys = x.keys ∧ y.held = x.held ∧ y.els.length = x.els.length ∧ y.e = x.e := by
    intro k x hk
    obtain ⟨y, hy⟩ := dom k x hk
    obtain ⟨x', obs', e1, e2, e3⟩ := weakRoots_get h2 ho2 k y hy
    rw [hk] at e1
    simp only [Option.some.injEq] at e1; subst e1
    exact ⟨y, hy, (hR.roots k x hk).fit e2 e3⟩
  have back : ∀ k y, getR rl' k = some y → ∃ x, getR rl k = some x ∧ RootR T g w rv k y ∧ y.av = x.av ∧ y.keys = x.keys ∧ y.held = x.held ∧ y.els.length = x.els.length ∧ y.e = x.e := by
    intro k y hy
    obtain ⟨x, obs', e1, e2, e3⟩ := weakRoots_get h2 ho2 k y hy
    exact ⟨x, e1, (hR.roots k x e1).fit e2 e3⟩
  have sr : ∀ (i : Nat) x v, (slots n sl')[i]? = some x → a.tmps[i]? = some v → SR T g w rv (toRoots rl') x v ∧ Live (toRoots rl') x := by
    intro i x v hx' hv
    simp only [slots, List.getElem?_map, Option.map_eq_some_iff] at hx'
    obtain ⟨j, hj, rfl⟩ := hx'
    have hji : j = i ∧ i < n := by
      obtain ⟨h', e⟩ := List.getElem?_eq_some_iff.1 hj
      simp only [List.getElem_range, List.length_range] at h' e
      exact ⟨e.symm, h'⟩
    obtain ⟨rfl, hjn⟩ := hji
    have hs : (slots n sl)[j]? = some (getS sl j) := by simp [slots, hjn]
    have hsr := hR.slots j _ v hs hv
    have hlv := hR.names j _ hs
    rcases weakSlots_get h1 ho1 j with e | ⟨obs', e1, e2⟩
    · rw [e]; exact ⟨.dead, fun r av hn => by cases hn⟩
    · obtain ⟨s1, s2⟩ := weakV_sr e1 e2 hsr hlv
      refine ⟨s1.keep (fun b o u hi hu => ⟨hi, hu, rfl⟩) s2 (fun r av hn => ⟨fun root1 root2 k1 k2 => .inl ?_⟩), fun r av hn => ?_⟩
      · obtain ⟨y, m1, m2, m3, m4, m5, m6, m7⟩ := fit r root1 k1
        rw [show toRoots rl' r = getR rl' r from rfl, m1] at k2
        simp only [Option.some.injEq] at k2; subst k2
        exact ⟨m7.symm, m6.symm, m3.symm, rfl⟩
      · obtain ⟨root, k1, k2⟩ := s2 r av hn
        obtain ⟨y, m1, m2, m3, _⟩ := fit r root k1
        exact ⟨y, m1, by omega⟩
  refine ⟨hR.ev, hR.defers, by rw [slots_length]; have := hR.len; rwa [slots_length] at this, fun i x v hx hv => (sr i x v hx hv).1, fun i x hx => ?_, fun k y hy => ?_, fun b o r q k hg => ?_, fun k y hy K hK => ?_, hdr_keep hR.hdr fun r root hr => ?_⟩
  · have hlt : i < a.tmps.size := by
      have hl := hR.len
      rw [slots_length] at hl
      rw [← hl]
      have := List.getElem?_eq_some_iff.1 hx
      obtain ⟨h', _⟩ := this
      rwa [slots_length] at h'
    exact (sr i x a.tmps[i] hx (by simp [hlt])).2
  · obtain ⟨x, _, m, _⟩ := back k y hy
    exact m
  · obtain ⟨x, hx'⟩ := Option.isSome_iff_exists.1 (hR.live b o r q k hg)
    obtain ⟨y, m1, _⟩ := fit r x hx'
    rw [show toRoots rl' r = getR rl' r from rfl, m1]; rfl
  · obtain ⟨x, e1, m2, m3, m4, m5, m6, m7⟩ := back k y hy
    obtain ⟨rk, f1, f2⟩ := hR.held k x e1 K (by rw [← m4]; exact hK)
    obtain ⟨yk, g1, g2, g3, g4, g5, _⟩ := fit K rk f1
    exact ⟨yk, g1, by rw [g5]; exact f2⟩
  · obtain ⟨y, m1, m2, m3, _⟩ := fit r root hr
    exact ⟨y, m1, Nat.le_of_eq m3.symm, fun _ => rfl⟩

end
end Go.VI

namespace Go.VI

structure TRow where
  t : Nat
  d : TyD
  sz : Nat
  bytes : Nat
  zero : D

def look : List TRow → Nat → Option TRow
  | [], _ => none
  | x :: l, t => bif eqb x.t t then some x else look l t

def tabOf (l : List TRow) : Tab where
  ty t := match look l t with | some x => some x.d | none => none
  sz t := match look l t with | some x => x.sz | none => 0
  bytes t := match look l t with | some x => x.bytes | none => 0
  zero t := match look l t with | some x => x.zero | none => .nil

theorem look_mem : ∀ {l : List TRow} {t : Nat} {x : TRow}, look l t = some x → x ∈ l ∧ x.t = t
  | y :: l, t, x, h => by
    simp only [look] at h
    cases hb : eqb y.t t with
    | true =>
      rw [hb] at h
      simp only [cond_true, Option.some.injEq] at h
      subst h
      exact ⟨by simp, eq_of_eqb hb⟩
    | false =>
      rw [hb] at h
      obtain ⟨h1, h2⟩ := look_mem (l := l) h
      exact ⟨by simp [h1], h2⟩

/-- The cells of a type's zero. -/
def zcells (T : Tab) : Nat → TypeId → Option (D × List Value)
  | 0, _ => none
  | n + 1, t => match T.ty t with
    | some (.int k) => some (.int 0, [.int k 0])
    | some .bool => some (.bool false, [.bool false])
    | some .str => some (.str ByteArray.empty, [.string ByteArray.empty])
    | some (.slice _) => some (.list [], [.slice none 0 0])
    | some (.struct fs) => (fs.mapM (zcells T n)).map fun l => (.agg (l.map (·.1)), l.flatMap (·.2))
    | _ => none

theorem mapM_get {α β : Type} (f : α → Option β) : ∀ (l : List α) (r : List β), l.mapM f = some r → l.length = r.length ∧ ∀ (i : Nat) x y, l[i]? = some x → r[i]? = some y → f x = some y
  | [], r, h => by
    simp at h; subst h
    exact ⟨rfl, fun i x y hx => by simp at hx⟩
  | a :: l, r, h => by
    rw [List.mapM_cons] at h
    cases ha : f a with
    | none => rw [ha] at h; simp at h
    | some b =>
      rw [ha] at h
      cases hl : l.mapM f with
      | none => rw [hl] at h; simp at h
      | some r' =>
        rw [hl] at h
        simp at h
        subst h
        obtain ⟨h1, h2⟩ := mapM_get f l r' hl
        refine ⟨by simp [h1], fun i x y hx hy => ?_⟩
        cases i with
        | zero =>
          simp only [List.getElem?_cons_zero, Option.some.injEq] at hx hy
          subst hx; subst hy; exact ha
        | succ i => exact h2 i x y (by simpa using hx) (by simpa using hy)

theorem flat_range {β : Type} (l : List (β × List Value)) (d : β × List Value) : l.flatMap (·.2) = (List.range l.length).flatMap fun i => (l.getD i d).2 := by
  induction l with
  | nil => rfl
  | cons a l ih =>
    rw [List.length_cons, List.range_succ_eq_map, List.flatMap_cons, List.flatMap_cons, List.flatMap_map, ih]
    rfl

theorem zcells_dr {T : Tab} {g : Tags} {w : World} {rv : Nat → Value} {ks : Nat → Prop} : ∀ (n : Nat) (t : TypeId) (d : D) (vs : List Value) (m : Mode), zcells T n t = some (d, vs) → DR T g w rv ks m (.val t) d vs
  | 0, t, d, vs, m, h => by simp [zcells] at h
  | n + 1, t, d, vs, m, h => by
    simp only [zcells] at h
    split at h
    · rename_i k ht
      simp only [Option.some.injEq, Prod.mk.injEq] at h
      obtain ⟨rfl, rfl⟩ := h
      exact .int (d := .int 0) ht
    · rename_i ht
      simp only [Option.some.injEq, Prod.mk.injEq] at h
      obtain ⟨rfl, rfl⟩ := h
      exact .bool (d := .bool false) ht
    · rename_i ht
      simp only [Option.some.injEq, Prod.mk.injEq] at h
      obtain ⟨rfl, rfl⟩ := h
      exact .str (d := .str ByteArray.empty) ht
    · rename_i e ht
      simp only [Option.some.injEq, Prod.mk.injEq] at h
      obtain ⟨rfl, rfl⟩ := h
      refine .sl ht (fun K h => by cases h) ?_
      exact DR.node (d := .list []) none 0 0 0 (fun _ => []) (fun h => absurd rfl h) (Mode.Cap.refl _ _) (fun i hi => absurd hi (by simp [D.els])) (fun i k v hi => absurd hi (by simp [D.els])) (fun i hi => absurd hi (by simp [D.els]))
    · rename_i fs ht
      cases hm : fs.mapM (zcells T n) with
      | none => rw [hm] at h; simp at h
      | some l =>
        rw [hm] at h
        simp only [Option.map_some, Option.some.injEq, Prod.mk.injEq] at h
        obtain ⟨rfl, rfl⟩ := h
        obtain ⟨h1, h2⟩ := mapM_get _ fs l hm
        rw [flat_range l (.nil, []), ← h1]
        refine .struct (fun i => (l.getD i (.nil, [])).2) ht fun j hj => ?_
        have e1 : fs[j]? = some (fs.getD j 0) := by simp [List.getD_eq_getElem?_getD, hj]
        have e2 : l[j]? = some (l.getD j (.nil, [])) := by simp [List.getD_eq_getElem?_getD, show j < l.length by omega]
        have e3 : (D.agg (l.map (·.1))).kid j = (l.getD j (.nil, [])).1 := by
          simp [D.kid, List.getD_eq_getElem?_getD, show j < l.length by omega]
        rw [e3]
        exact zcells_dr n _ _ _ _ (h2 j _ _ e1 e2)
    · simp at h

theorem info_of {S : Tables} {t : TypeId} {i : TypeInfo} (h : S.types[t]? = some i) : S.info? t = some i := by
  unfold Tables.info?
  rw [if_pos (Array.getElem?_eq_some_iff.1 h).1]; exact h

/-- A row fits a program. -/
structure RowOK (P : Program) (l : List TRow) (x : TRow) : Prop where
  desc : match x.d with
    | .int k => x.sz = 1 ∧ P.underlying x.t = some (.int k)
    | .bool => x.sz = 1 ∧ P.underlying x.t = some .bool
    | .str => x.sz = 1 ∧ P.underlying x.t = some .string
    | .slice e => x.sz = 1 ∧ P.underlying x.t = some (.slice e) ∧ (look l e).isSome = true
    | .struct fs => x.sz = (fs.map (tabOf l).sz).sum ∧ ∃ fields, P.underlying x.t = some (.struct fields) ∧
        fields.toList.map (fun f => (f.type, f.offset)) = (List.range fs.length).map (fun j => (fs.getD j 0, (tabOf l).offs fs j)) ∧ fs.all (fun t => (look l t).isSome) = true
    | .plain => False
  info : ∃ i z, P.info? x.t = some i ∧ i.size = x.sz ∧ i.bytes = x.bytes ∧ i.zero = some z ∧ zcells (tabOf l) 8 x.t = some (x.zero, z.cells.toList)
  pos : 0 < x.sz

theorem tabOK {P : Program} {l : List TRow} (h : ∀ x ∈ l, RowOK P l x) : TabOK P (tabOf l) ∧ ∀ t, ((tabOf l).ty t).isSome → 0 < (tabOf l).sz t := by
  have find : ∀ t d, (tabOf l).ty t = some d → ∃ x, look l t = some x ∧ x ∈ l ∧ x.t = t ∧ x.d = d ∧ (tabOf l).sz t = x.sz ∧ (tabOf l).bytes t = x.bytes ∧ (tabOf l).zero t = x.zero := by
    intro t d ht
    simp only [tabOf] at ht
    cases hx : look l t with
    | none => rw [hx] at ht; simp at ht
    | some x =>
      rw [hx] at ht
      simp only [Option.some.injEq] at ht
      obtain ⟨h1, h2⟩ := look_mem hx
      exact ⟨x, rfl, h1, h2, ht, by simp [tabOf, hx], by simp [tabOf, hx], by simp [tabOf, hx]⟩
  have isS : ∀ t, (look l t).isSome = true → ((tabOf l).ty t).isSome = true := by
    intro t ht
    obtain ⟨x, hx⟩ := Option.isSome_iff_exists.1 ht
    simp [tabOf, hx]
  refine ⟨⟨⟨?_, ?_, ?_, ?_, ?_, ?_⟩, ?_, ?_, ?_, ?_, ?_, ?_, ?_⟩, ?_⟩
  · intro t k ht
    obtain ⟨x, h0, h1, h2, h3, h4, _⟩ := find t _ ht
    have := (h x h1).desc
    rw [h3] at this
    rw [h4]; exact this.1
  · intro t ht
    obtain ⟨x, h0, h1, h2, h3, h4, _⟩ := find t _ ht
    have := (h x h1).desc
    rw [h3] at this
    rw [h4]; exact this.1
  · intro t ht
    obtain ⟨x, h0, h1, h2, h3, h4, _⟩ := find t _ ht
    have := (h x h1).desc
    rw [h3] at this
    rw [h4]; exact this.1
  · intro t e ht
    obtain ⟨x, h0, h1, h2, h3, h4, _⟩ := find t _ ht
    have := (h x h1).desc
    rw [h3] at this
    rw [h4]; exact this.1
  · intro t ht
    obtain ⟨x, h0, h1, h2, h3, h4, _⟩ := find t _ ht
    have := (h x h1).desc
    rw [h3] at this
    exact this.elim
  · intro t fs ht
    obtain ⟨x, h0, h1, h2, h3, h4, _⟩ := find t _ ht
    have := (h x h1).desc
    rw [h3] at this
    rw [h4]; exact this.1
  · intro t k ht
    obtain ⟨x, h0, h1, h2, h3, h4, _⟩ := find t _ ht
    have := (h x h1).desc
    rw [h3] at this
    rw [← h2]; exact this.2
  · intro t ht
    obtain ⟨x, h0, h1, h2, h3, h4, _⟩ := find t _ ht
    have := (h x h1).desc
    rw [h3] at this
    rw [← h2]; exact this.2
  · intro t ht
    obtain ⟨x, h0, h1, h2, h3, h4, _⟩ := find t _ ht
    have := (h x h1).desc
    rw [h3] at this
    rw [← h2]; exact this.2
  · intro t e ht
    obtain ⟨x, h0, h1, h2, h3, h4, _⟩ := find t _ ht
    have := (h x h1).desc
    rw [h3] at this
    rw [← h2]; exact ⟨this.2.1, isS _ this.2.2⟩
  · intro t fs ht
    obtain ⟨x, h0, h1, h2, h3, h4, _⟩ := find t _ ht
    have := (h x h1).desc
    rw [h3] at this
    obtain ⟨_, fields, k1, k2, k3⟩ := this
    have hlen : fields.size = fs.length := by
      have := congrArg List.length k2
      simpa using this
    refine ⟨fields, by rw [← h2]; exact k1, hlen, fun j f hf => ?_⟩
    have hj : j < fs.length := by
      rw [← hlen]; exact (Array.getElem?_eq_some_iff.1 hf).1
    have := congrArg (fun l => l[j]?) k2
    simp only [List.getElem?_map, Array.getElem?_toList, hf, Option.map_some] at this
    rw [List.getElem?_range hj] at this
    simp only [Option.map_some, Option.some.injEq, Prod.mk.injEq] at this
    refine ⟨this.1, this.2, isS _ ?_⟩
    rw [List.all_eq_true] at k3
    exact k3 _ (by rw [List.getD_eq_getElem?_getD, List.getElem?_eq_getElem hj]; exact List.getElem_mem hj)
  · intro t ht
    obtain ⟨x, h0, h1, h2, h3, h4, _⟩ := find t _ ht
    have := (h x h1).desc
    rw [h3] at this
    exact this.elim
  · intro t ht
    obtain ⟨d, hd⟩ := Option.isSome_iff_exists.1 ht
    obtain ⟨x, h0, h1, h2, h3, h4, h5, h6⟩ := find t _ hd
    obtain ⟨i, z, k1, k2, k3, k4, k5⟩ := (h x h1).info
    refine ⟨i, z, by rw [← h2]; exact k1, by rw [h4]; exact k2, by rw [h5]; exact k3, k4, fun m g w rv ks => ?_⟩
    rw [h6, ← h2]
    exact zcells_dr 8 _ _ _ _ k5
  · intro t ht
    obtain ⟨d, hd⟩ := Option.isSome_iff_exists.1 ht
    obtain ⟨x, h0, h1, h2, h3, h4, h5, h6⟩ := find t _ hd
    rw [h4]; exact (h x h1).pos

end Go.VI

namespace Go.VI
open Go.Proofs

def types : List TRow := [
  { t := 3, d := .int .i64, sz := 1, bytes := 8, zero := .int 0 },
  { t := 4, d := .bool, sz := 1, bytes := 1, zero := .bool false },
  { t := 169, d := .int .u32, sz := 1, bytes := 4, zero := .int 0 },
  { t := 39, d := .slice 169, sz := 1, bytes := 24, zero := .list [] },
  { t := 2, d := .int .i64, sz := 1, bytes := 8, zero := .int 0 },
  { t := 41, d := .struct [4, 39], sz := 2, bytes := 32, zero := .agg [.bool false, .list []] },
  { t := 40, d := .struct [4, 39], sz := 2, bytes := 32, zero := .agg [.bool false, .list []] },
  { t := 55, d := .slice 124, sz := 1, bytes := 24, zero := .list [] },
  { t := 124, d := .slice 41, sz := 1, bytes := 24, zero := .list [] },
  { t := 22, d := .slice 31, sz := 1, bytes := 24, zero := .list [] },
  { t := 31, d := .slice 2, sz := 1, bytes := 24, zero := .list [] },
  { t := 5, d := .int .u8, sz := 1, bytes := 1, zero := .int 0 },
  { t := 157, d := .int .u64, sz := 1, bytes := 8, zero := .int 0 },
  { t := 32, d := .int .i64, sz := 1, bytes := 8, zero := .int 0 },
  { t := 43, d := .struct [41, 41], sz := 4, bytes := 64, zero := .agg [.agg [.bool false, .list []], .agg [.bool false, .list []]] },
  { t := 9, d := .str, sz := 1, bytes := 16, zero := .str ByteArray.empty },
  { t := 12, d := .int .u64, sz := 1, bytes := 8, zero := .int 0 },
  { t := 21, d := .int .i32, sz := 1, bytes := 4, zero := .int 0 },
  { t := 23, d := .slice 193, sz := 1, bytes := 24, zero := .list [] },
  { t := 24, d := .struct [5, 5, 23, 23], sz := 4, bytes := 56, zero := .agg [.int 0, .int 0, .list [], .list []] },
  { t := 25, d := .struct [5, 5, 23, 23], sz := 4, bytes := 56, zero := .agg [.int 0, .int 0, .list [], .list []] },
  { t := 42, d := .struct [41, 41], sz := 4, bytes := 64, zero := .agg [.agg [.bool false, .list []], .agg [.bool false, .list []]] },
  { t := 75, d := .slice 79, sz := 1, bytes := 24, zero := .list [] },
  { t := 78, d := .struct [2, 3], sz := 2, bytes := 16, zero := .agg [.int 0, .int 0] },
  { t := 79, d := .struct [2, 3], sz := 2, bytes := 16, zero := .agg [.int 0, .int 0] },
  { t := 99, d := .struct [41, 41], sz := 4, bytes := 64, zero := .agg [.agg [.bool false, .list []], .agg [.bool false, .list []]] },
  { t := 100, d := .struct [41, 41], sz := 4, bytes := 64, zero := .agg [.agg [.bool false, .list []], .agg [.bool false, .list []]] },
  { t := 111, d := .struct [23, 3], sz := 2, bytes := 32, zero := .agg [.list [], .int 0] },
  { t := 112, d := .struct [23, 3], sz := 2, bytes := 32, zero := .agg [.list [], .int 0] },
  { t := 135, d := .slice 55, sz := 1, bytes := 24, zero := .list [] },
  { t := 146, d := .slice 43, sz := 1, bytes := 24, zero := .list [] },
  { t := 170, d := .int .u64, sz := 1, bytes := 8, zero := .int 0 },
  { t := 174, d := .slice 3, sz := 1, bytes := 24, zero := .list [] },
  { t := 191, d := .slice 5, sz := 1, bytes := 24, zero := .list [] },
  { t := 193, d := .int .i8, sz := 1, bytes := 1, zero := .int 0 }]

def tab : Tab := tabOf types

theorem row3 : RowOK Tryz.prog types { t := 3, d := .int .i64, sz := 1, bytes := 8, zero := .int 0 } :=
  ⟨⟨rfl, Tryz.underlying3⟩, ⟨Tryz.t3, _, info_of Tryz.type3, rfl, rfl, rfl, rfl⟩, by decide⟩

theorem row4 : RowOK Tryz.prog types { t := 4, d := .bool, sz := 1, bytes := 1, zero := .bool false } :=
  ⟨⟨rfl, Tryz.underlying4⟩, ⟨Tryz.t4, _, info_of Tryz.type4, rfl, rfl, rfl, rfl⟩, by decide⟩

theorem row169 : RowOK Tryz.prog types { t := 169, d := .int .u32, sz := 1, bytes := 4, zero := .int 0 } :=
  ⟨⟨rfl, Tryz.underlying169⟩, ⟨Tryz.t169, _, info_of Tryz.type169, rfl, rfl, rfl, rfl⟩, by decide⟩

theorem row39 : RowOK Tryz.prog types { t := 39, d := .slice 169, sz := 1, bytes := 24, zero := .list [] } :=
  ⟨⟨rfl, Tryz.underlying39, rfl⟩, ⟨Tryz.t39, _, info_of Tryz.type39, rfl, rfl, rfl, rfl⟩, by decide⟩

theorem row2 : RowOK Tryz.prog types { t := 2, d := .int .i64, sz := 1, bytes := 8, zero := .int 0 } :=
  ⟨⟨rfl, Tryz.underlying2⟩, ⟨Tryz.t2, _, info_of Tryz.type2, rfl, rfl, rfl, rfl⟩, by decide⟩

theorem row41 : RowOK Tryz.prog types { t := 41, d := .struct [4, 39], sz := 2, bytes := 32, zero := .agg [.bool false, .list []] } :=
  ⟨⟨rfl, _, Tryz.underlying41, rfl, rfl⟩, ⟨Tryz.t41, _, info_of Tryz.type41, rfl, rfl, rfl, rfl⟩, by decide⟩

theorem row40 : RowOK Tryz.prog types { t := 40, d := .struct [4, 39], sz := 2, bytes := 32, zero := .agg [.bool false, .list []] } :=
  ⟨⟨rfl, _, Tryz.underlying40, rfl, rfl⟩, ⟨Tryz.t40, _, info_of Tryz.type40, rfl, rfl, rfl, rfl⟩, by decide⟩

theorem row55 : RowOK Tryz.prog types { t := 55, d := .slice 124, sz := 1, bytes := 24, zero := .list [] } :=
  ⟨⟨rfl, Tryz.underlying55, rfl⟩, ⟨Tryz.t55, _, info_of Tryz.type55, rfl, rfl, rfl, rfl⟩, by decide⟩

theorem row124 : RowOK Tryz.prog types { t := 124, d := .slice 41, sz := 1, bytes := 24, zero := .list [] } :=
  ⟨⟨rfl, Tryz.underlying124, rfl⟩, ⟨Tryz.t124, _, info_of Tryz.type124, rfl, rfl, rfl, rfl⟩, by decide⟩

theorem row22 : RowOK Tryz.prog types { t := 22, d := .slice 31, sz := 1, bytes := 24, zero := .list [] } :=
  ⟨⟨rfl, Tryz.underlying22, rfl⟩, ⟨Tryz.t22, _, info_of Tryz.type22, rfl, rfl, rfl, rfl⟩, by decide⟩

theorem row31 : RowOK Tryz.prog types { t := 31, d := .slice 2, sz := 1, bytes := 24, zero := .list [] } :=
  ⟨⟨rfl, Tryz.underlying31, rfl⟩, ⟨Tryz.t31, _, info_of Tryz.type31, rfl, rfl, rfl, rfl⟩, by decide⟩

theorem row5 : RowOK Tryz.prog types { t := 5, d := .int .u8, sz := 1, bytes := 1, zero := .int 0 } :=
  ⟨⟨rfl, Tryz.underlying5⟩, ⟨Tryz.t5, _, info_of Tryz.type5, rfl, rfl, rfl, rfl⟩, by decide⟩

theorem row157 : RowOK Tryz.prog types { t := 157, d := .int .u64, sz := 1, bytes := 8, zero := .int 0 } :=
  ⟨⟨rfl, Tryz.underlying157⟩, ⟨Tryz.t157, _, info_of Tryz.type157, rfl, rfl, rfl, rfl⟩, by decide⟩

theorem row32 : RowOK Tryz.prog types { t := 32, d := .int .i64, sz := 1, bytes := 8, zero := .int 0 } :=
  ⟨⟨rfl, Tryz.underlying32⟩, ⟨Tryz.t32, _, info_of Tryz.type32, rfl, rfl, rfl, rfl⟩, by decide⟩

theorem row43 : RowOK Tryz.prog types { t := 43, d := .struct [41, 41], sz := 4, bytes := 64, zero := .agg [.agg [.bool false, .list []], .agg [.bool false, .list []]] } :=
  ⟨⟨rfl, _, Tryz.underlying43, rfl, rfl⟩, ⟨Tryz.t43, _, info_of Tryz.type43, rfl, rfl, rfl, rfl⟩, by decide⟩

theorem row9 : RowOK Tryz.prog types { t := 9, d := .str, sz := 1, bytes := 16, zero := .str ByteArray.empty } :=
  ⟨⟨rfl, Tryz.underlying9⟩, ⟨Tryz.t9, _, info_of Tryz.type9, rfl, rfl, rfl, rfl⟩, by decide⟩

theorem row12 : RowOK Tryz.prog types { t := 12, d := .int .u64, sz := 1, bytes := 8, zero := .int 0 } :=
  ⟨⟨rfl, Tryz.underlying12⟩, ⟨Tryz.t12, _, info_of Tryz.type12, rfl, rfl, rfl, rfl⟩, by decide⟩

theorem row21 : RowOK Tryz.prog types { t := 21, d := .int .i32, sz := 1, bytes := 4, zero := .int 0 } :=
  ⟨⟨rfl, Tryz.underlying21⟩, ⟨Tryz.t21, _, info_of Tryz.type21, rfl, rfl, rfl, rfl⟩, by decide⟩

theorem row23 : RowOK Tryz.prog types { t := 23, d := .slice 193, sz := 1, bytes := 24, zero := .list [] } :=
  ⟨⟨rfl, Tryz.underlying23, rfl⟩, ⟨Tryz.t23, _, info_of Tryz.type23, rfl, rfl, rfl, rfl⟩, by decide⟩

theorem row24 : RowOK Tryz.prog types { t := 24, d := .struct [5, 5, 23, 23], sz := 4, bytes := 56, zero := .agg [.int 0, .int 0, .list [], .list []] } :=
  ⟨⟨rfl, _, Tryz.underlying24, rfl, rfl⟩, ⟨Tryz.t24, _, info_of Tryz.type24, rfl, rfl, rfl, rfl⟩, by decide⟩

theorem row25 : RowOK Tryz.prog types { t := 25, d := .struct [5, 5, 23, 23], sz := 4, bytes := 56, zero := .agg [.int 0, .int 0, .list [], .list []] } :=
  ⟨⟨rfl, _, Tryz.underlying25, rfl, rfl⟩, ⟨Tryz.t25, _, info_of Tryz.type25, rfl, rfl, rfl, rfl⟩, by decide⟩

theorem row42 : RowOK Tryz.prog types { t := 42, d := .struct [41, 41], sz := 4, bytes := 64, zero := .agg [.agg [.bool false, .list []], .agg [.bool false, .list []]] } :=
  ⟨⟨rfl, _, Tryz.underlying42, rfl, rfl⟩, ⟨Tryz.t42, _, info_of Tryz.type42, rfl, rfl, rfl, rfl⟩, by decide⟩

theorem row75 : RowOK Tryz.prog types { t := 75, d := .slice 79, sz := 1, bytes := 24, zero := .list [] } :=
  ⟨⟨rfl, Tryz.underlying75, rfl⟩, ⟨Tryz.t75, _, info_of Tryz.type75, rfl, rfl, rfl, rfl⟩, by decide⟩

theorem row78 : RowOK Tryz.prog types { t := 78, d := .struct [2, 3], sz := 2, bytes := 16, zero := .agg [.int 0, .int 0] } :=
  ⟨⟨rfl, _, Tryz.underlying78, rfl, rfl⟩, ⟨Tryz.t78, _, info_of Tryz.type78, rfl, rfl, rfl, rfl⟩, by decide⟩

theorem row79 : RowOK Tryz.prog types { t := 79, d := .struct [2, 3], sz := 2, bytes := 16, zero := .agg [.int 0, .int 0] } :=
  ⟨⟨rfl, _, Tryz.underlying79, rfl, rfl⟩, ⟨Tryz.t79, _, info_of Tryz.type79, rfl, rfl, rfl, rfl⟩, by decide⟩

theorem row99 : RowOK Tryz.prog types { t := 99, d := .struct [41, 41], sz := 4, bytes := 64, zero := .agg [.agg [.bool false, .list []], .agg [.bool false, .list []]] } :=
  ⟨⟨rfl, _, Tryz.underlying99, rfl, rfl⟩, ⟨Tryz.t99, _, info_of Tryz.type99, rfl, rfl, rfl, rfl⟩, by decide⟩

theorem row100 : RowOK Tryz.prog types { t := 100, d := .struct [41, 41], sz := 4, bytes := 64, zero := .agg [.agg [.bool false, .list []], .agg [.bool false, .list []]] } :=
  ⟨⟨rfl, _, Tryz.underlying100, rfl, rfl⟩, ⟨Tryz.t100, _, info_of Tryz.type100, rfl, rfl, rfl, rfl⟩, by decide⟩

theorem row111 : RowOK Tryz.prog types { t := 111, d := .struct [23, 3], sz := 2, bytes := 32, zero := .agg [.list [], .int 0] } :=
  ⟨⟨rfl, _, Tryz.underlying111, rfl, rfl⟩, ⟨Tryz.t111, _, info_of Tryz.type111, rfl, rfl, rfl, rfl⟩, by decide⟩

theorem row112 : RowOK Tryz.prog types { t := 112, d := .struct [23, 3], sz := 2, bytes := 32, zero := .agg [.list [], .int 0] } :=
  ⟨⟨rfl, _, Tryz.underlying112, rfl, rfl⟩, ⟨Tryz.t112, _, info_of Tryz.type112, rfl, rfl, rfl, rfl⟩, by decide⟩

theorem row135 : RowOK Tryz.prog types { t := 135, d := .slice 55, sz := 1, bytes := 24, zero := .list [] } :=
  ⟨⟨rfl, Tryz.underlying135, rfl⟩, ⟨Tryz.t135, _, info_of Tryz.type135, rfl, rfl, rfl, rfl⟩, by decide⟩

theorem row146 : RowOK Tryz.prog types { t := 146, d := .slice 43, sz := 1, bytes := 24, zero := .list [] } :=
  ⟨⟨rfl, Tryz.underlying146, rfl⟩, ⟨Tryz.t146, _, info_of Tryz.type146, rfl, rfl, rfl, rfl⟩, by decide⟩

theorem row170 : RowOK Tryz.prog types { t := 170, d := .int .u64, sz := 1, bytes := 8, zero := .int 0 } :=
  ⟨⟨rfl, Tryz.underlying170⟩, ⟨Tryz.t170, _, info_of Tryz.type170, rfl, rfl, rfl, rfl⟩, by decide⟩

theorem row174 : RowOK Tryz.prog types { t := 174, d := .slice 3, sz := 1, bytes := 24, zero := .list [] } :=
  ⟨⟨rfl, Tryz.underlying174, rfl⟩, ⟨Tryz.t174, _, info_of Tryz.type174, rfl, rfl, rfl, rfl⟩, by decide⟩

theorem row191 : RowOK Tryz.prog types { t := 191, d := .slice 5, sz := 1, bytes := 24, zero := .list [] } :=
  ⟨⟨rfl, Tryz.underlying191, rfl⟩, ⟨Tryz.t191, _, info_of Tryz.type191, rfl, rfl, rfl, rfl⟩, by decide⟩

theorem row193 : RowOK Tryz.prog types { t := 193, d := .int .i8, sz := 1, bytes := 1, zero := .int 0 } :=
  ⟨⟨rfl, Tryz.underlying193⟩, ⟨Tryz.t193, _, info_of Tryz.type193, rfl, rfl, rfl, rfl⟩, by decide⟩

theorem rows : ∀ x ∈ types, RowOK Tryz.prog types x := by
  simp only [types, List.forall_mem_cons, List.not_mem_nil, false_implies, implies_true, and_true]
  exact ⟨row3, row4, row169, row39, row2, row41, row40, row55, row124, row22, row31, row5, row157, row32, row43, row9, row12, row21, row23, row24, row25, row42, row75, row78, row79, row99, row100, row111, row112, row135, row146, row170, row174, row191, row193⟩

theorem progOK : ProgOK Tryz.prog tab := ⟨(tabOK rows).1, (tabOK rows).2, by decide⟩

end Go.VI

namespace Go.VI

abbrev B32 : Nat := 4294967296

def val : List Nat → Nat
  | [] => 0
  | x :: l => x + B32 * val l

def limbs (n : Nat) : List Nat :=
  if h : n = 0 then [] else (n % B32) :: limbs (n / B32)
termination_by n
decreasing_by exact Nat.div_lt_self (by omega) (by decide)

def Word (l : List Nat) : Prop := ∀ x ∈ l, x < B32

def lim (l : List Nat) : List D := l.map fun n : Nat => .int (n : Int)

theorem limbs_zero : limbs 0 = [] := by rw [limbs]; simp
theorem limbs_pos {n : Nat} (h : n ≠ 0) : limbs n = (n % B32) :: limbs (n / B32) := by rw [limbs]; simp [h]

theorem val_limbs (n : Nat) : val (limbs n) = n := by
  induction n using Nat.strongRecOn with
  | _ n ih =>
    by_cases h : n = 0
    · subst h; rw [limbs_zero]; rfl
    · rw [limbs_pos h, val, ih (n / B32) (Nat.div_lt_self (by omega) (by decide))]
      exact Nat.mod_add_div n B32

theorem word_limbs (n : Nat) : Word (limbs n) := by
  induction n using Nat.strongRecOn with
  | _ n ih =>
    by_cases h : n = 0
    · subst h; rw [limbs_zero]; intro x hx; simp at hx
    · rw [limbs_pos h]
      intro x hx
      simp only [List.mem_cons] at hx
      rcases hx with rfl | hx
      · exact Nat.mod_lt _ (by decide)
      · exact ih (n / B32) (Nat.div_lt_self (by omega) (by decide)) x hx

theorem Word.tail {x : Nat} {l : List Nat} (h : Word (x :: l)) : Word l := fun y hy => h y (by simp [hy])
theorem Word.head {x : Nat} {l : List Nat} (h : Word (x :: l)) : x < B32 := h x (by simp)
theorem word_append {a b : List Nat} : Word (a ++ b) ↔ Word a ∧ Word b := by
  constructor
  · intro h; exact ⟨fun x hx => h x (by simp [hx]), fun x hx => h x (by simp [hx])⟩
  · intro ⟨h1, h2⟩ x hx
    rcases List.mem_append.1 hx with h | h
    · exact h1 x h
    · exact h2 x h

theorem val_lt : ∀ {l : List Nat}, Word l → val l < B32 ^ l.length
  | [], _ => by simp [val]
  | x :: l, h => by
    have ih := val_lt h.tail
    have hx := h.head
    simp only [val, List.length_cons, Nat.pow_succ]
    have : B32 * val l + B32 ≤ B32 * B32 ^ l.length := by
      rw [← Nat.mul_succ]; exact Nat.mul_le_mul_left _ ih
    rw [Nat.mul_comm (B32 ^ l.length)]
    omega

theorem val_append (a b : List Nat) : val (a ++ b) = val a + B32 ^ a.length * val b := by
  induction a with
  | nil => simp [val]
  | cons x l ih =>
    simp only [List.cons_append, val, ih, List.length_cons, Nat.pow_succ, Nat.mul_add]
    rw [Nat.mul_comm (B32 ^ l.length) B32, Nat.mul_assoc]
    omega

theorem val_zeros (n : Nat) : val (List.replicate n 0) = 0 := by
  induction n with
  | zero => rfl
  | succ n ih => simp [List.replicate_succ, val, ih]

/-- Without zeros at its end a list is the limbs of its number. -/
theorem limbs_of {l : List Nat} (h : Word l) (hl : ∀ x, l.getLast? = some x → x ≠ 0) : limbs (val l) = l := by
  induction l with
  | nil => simp [val, limbs_zero]
  | cons x l ih =>
    have hx := h.head
    cases l with
    | nil =>
      have h0 : x ≠ 0 := hl x (by simp)
      simp only [val, Nat.mul_zero, Nat.add_zero]
      rw [limbs_pos h0, Nat.mod_eq_of_lt hx, Nat.div_eq_of_lt hx, limbs_zero]
    | cons y l =>
      have ih' := ih h.tail (fun z hz => hl z (by simpa using hz))
      have hne : val (y :: l) ≠ 0 := by
        intro e
        rw [e, limbs_zero] at ih'; simp at ih'
      have hv : val (x :: y :: l) = x + B32 * val (y :: l) := rfl
      have h0 : val (x :: y :: l) ≠ 0 := by
        rw [hv]
        have : 0 < B32 * val (y :: l) := Nat.mul_pos (by decide) (Nat.pos_of_ne_zero hne)
        omega
      rw [limbs_pos h0, hv, Nat.add_mul_mod_self_left, Nat.mod_eq_of_lt hx, Nat.add_mul_div_left _ _ (by decide), Nat.div_eq_of_lt hx, Nat.zero_add, ih']

theorem limbs_zero_end (l : List Nat) : limbs (val (l ++ [0])) = limbs (val l) := by rw [val_append]; simp [val]

theorem lim_length (l : List Nat) : (lim l).length = l.length := by simp [lim]
theorem lim_get (l : List Nat) (i : Nat) : ((lim l).getD i .nil).toInt = l.getD i 0 := by
  simp only [lim, List.getD_eq_getElem?_getD, List.getElem?_map]
  cases l[i]? <;> simp [D.toInt]
theorem lim_append (a b : List Nat) : lim (a ++ b) = lim a ++ lim b := by simp [lim]
theorem lim_set (l : List Nat) (i : Nat) (x : Nat) : (lim l).set i (.int x) = lim (l.set i x) := by simp [lim, List.map_set]
theorem lim_take (l : List Nat) (n : Nat) : (lim l).take n = lim (l.take n) := by simp [lim, List.map_take]
theorem lim_drop (l : List Nat) (n : Nat) : (lim l).drop n = lim (l.drop n) := by simp [lim, List.map_drop]

theorem limbs_length_le {l : List Nat} (h : Word l) : (limbs (val l)).length ≤ l.length := by
  induction l with
  | nil => simp [val, limbs_zero]
  | cons x l ih =>
    have ih' := ih h.tail
    by_cases h0 : val (x :: l) = 0
    · rw [h0, limbs_zero]; simp
    · rw [limbs_pos h0]
      have : val (x :: l) / B32 = val l := by
        rw [val, Nat.add_mul_div_left _ _ (by decide), Nat.div_eq_of_lt h.head, Nat.zero_add]
      rw [this]; simpa using ih'

end Go.VI

namespace Go.VI
open Go.Proofs
set_option maxRecDepth 20000

def trimN (l : List D) : Nat → Nat
  | 0 => 0
  | n + 1 => if (l.getD n .nil).toInt = 0 then trimN l n else n + 1
def trimL (l : List D) : List D := l.take (trimN l l.length)

theorem wrap64 (n : Int) (h0 : -9223372036854775808 ≤ n) (h1 : n ≤ 9223372036854775807) : IntKind.i64.wrap n = n := IntWalk.i64_in n ⟨h0, h1⟩

theorem trimN_le (l : List D) : ∀ n, trimN l n ≤ n
  | 0 => Nat.le_refl _
  | n + 1 => by
    unfold trimN
    split
    · have := trimN_le l n; omega
    · omega

theorem trim_ok (xs : List D) (hx : xs.length ≤ 1099511627776) : Ok Tryz.prog tab 223 [.imm 169 false xs] [] (.v (.imm 169 true (trimL xs))) [] := by
  obtain ⟨ys, hys⟩ : ∃ ys, ys = trimL xs := ⟨_, rfl⟩
  rw [← hys]
  refine Ok.run progOK [] [] 400 Tryz.func223 rfl rfl (Nat.le_of_ble_eq_true rfl) (fun r hr => by simp [ofList, ups, noRoots] at hr) (fun r root hr => by simp [ofList, ups, noRoots] at hr) fun J hX => ?_
  generalize hZ : deep Tryz.prog tab J _ = Z
  generalize hL : std = L
  conv => cbv
  subst hZ hL
  dsimp only [std, deep]
  refine Means.weak (sl' := [(0, .imm 169 false xs), (3, .int .i64 xs.length)]) (rl' := []) rfl rfl rfl ⟨rfl, rfl, trivial⟩ trivial ?_
  refine Means.loop (α := Nat) (fun _ => []) (fun n => [(0, .imm 169 false xs), (3, .int .i64 n)]) (fun n => n ≤ xs.length ∧ trimN xs n = trimN xs xs.length) (fun n => n) ?_ xs.length ⟨Nat.le_refl _, rfl⟩
  intro n ⟨hn, ht⟩ ih
  refine Means.run progOK hX [.both] 400 ?_
  generalize hm : ((n : Nat) : Int) = m
  generalize hZ : deep Tryz.prog tab J _ = Z
  generalize hL : std = L
  conv => cbv
  subst hZ hL
  dsimp only [std, deep]
  have hm0 : (n : Int) = m := hm
  have hm1 : 0 ≤ m := by rw [← hm]; exact Int.natCast_nonneg n
  have hm2 : m ≤ 1099511627776 := by rw [← hm]; omega
  clear hm
  have hw : IntKind.i64.wrap (m - 1) = m - 1 := wrap64 _ (by omega) (by omega)
  rw [hw]
  refine ⟨fun h0 => ?_, fun h0 => ⟨fun h => by simp at h, fun _ => ?_⟩⟩
  · simp only [decide_eq_true_eq] at h0
    obtain ⟨k, hk0⟩ : ∃ k, n = k + 1 := ⟨n - 1, by omega⟩
    have hk : (m - 1).toNat = k := by omega
    refine ⟨by omega, by omega, fun h1 => ?_, fun h1 => ?_⟩
    · rw [hk] at h1
      simp only [beq_iff_eq] at h1
      refine Means.weak (sl' := [(0, .imm 169 false xs), (3, .int .i64 k)]) (rl' := []) rfl rfl rfl ⟨rfl, by omega, trivial⟩ trivial (ih k ⟨by omega, ?_⟩ (by omega))
      · rw [← ht, hk0, trimN, if_pos h1]
    · rw [hk] at h1
      simp only [beq_eq_false_iff_ne, ne_eq] at h1
      have h2 : trimN xs xs.length = k + 1 := by rw [← ht, hk0, trimN, if_neg h1]
      have h3 : (m - 0).toNat = k + 1 := by omega
      rw [hys, trimL, h2, h3]
      refine ⟨?_, ?_, ?_, trivial, rfl, trivial⟩ <;> omega
  · simp only [decide_eq_false_iff_not] at h0
    have h2 : n = 0 := by omega
    have h3 : trimN xs xs.length = 0 := by rw [← ht, h2]; rfl
    have h4 : (m - 0).toNat = 0 := by omega
    rw [hys, trimL, h3, h4]
    refine ⟨?_, ?_, ?_, trivial, rfl, trivial⟩ <;> omega
theorem trimN_append (l m : List D) : ∀ n, n ≤ l.length → trimN (l ++ m) n = trimN l n
  | 0, _ => rfl
  | n + 1, h => by
    have e : (l ++ m).getD n .nil = l.getD n .nil := by
      simp only [List.getD_eq_getElem?_getD]
      rw [List.getElem?_append_left (by omega)]
    simp only [trimN, e, trimN_append l m n (by omega)]

theorem trimL_val (a : List Nat) (h : Word a) : trimL (lim a) = lim (limbs (val a)) := by
  generalize hn : a.length = n
  induction n generalizing a with
  | zero =>
    have : a = [] := List.length_eq_zero_iff.1 hn
    subst this
    simp [trimL, lim, val, limbs_zero]
  | succ n ih =>
    obtain ⟨b, x, rfl⟩ : ∃ b x, a = b ++ [x] := ⟨a.dropLast, a.getLast (by intro e; rw [e] at hn; simp at hn), (List.dropLast_concat_getLast _).symm⟩
    have hb : b.length = n := by simpa using hn
    have hw := (word_append.1 h).1
    have hlen : (lim (b ++ [x])).length = n + 1 := by rw [lim_length]; exact hn
    have hget : ((lim (b ++ [x])).getD n .nil).toInt = x := by rw [lim_get]; simp [List.getD_eq_getElem?_getD, ← hb]
    by_cases hx : x = 0
    · subst hx
      rw [limbs_zero_end, ← ih b hw hb]
      unfold trimL
      rw [hlen, trimN, if_pos (by rw [hget]; rfl), lim_append, lim_length, hb, trimN_append _ _ _ (by rw [lim_length]; omega)]
      rw [List.take_append_of_le_length]
      have := trimN_le (lim b) n
      rw [lim_length]; omega
    · unfold trimL
      rw [hlen, trimN, if_neg (by rw [hget]; omega), limbs_of h (by intro y hy; simp at hy; omega)]
      rw [List.take_of_length_le (by rw [lim_length]; omega)]

theorem trim_val (a : List Nat) (h : Word a) (hx : a.length ≤ 1099511627776) : Ok Tryz.prog tab 223 [.imm 169 false (lim a)] [] (.v (.imm 169 true (lim (limbs (val a))))) [] := by
  rw [← trimL_val a h]; exact trim_ok _ (by rw [lim_length]; exact hx)

end Go.VI

namespace Go.VI
open Go.Proofs
set_option maxRecDepth 20000

def bigD (z : Int) : D := .agg [.bool (decide (z < 0)), .list (lim (limbs z.natAbs))]

theorem signed_ok (neg : Bool) (a : List Nat) (h : Word a) (hx : a.length ≤ 1099511627776) :
    Ok Tryz.prog tab 186 [.bool neg, .imm 169 false (lim a)] [] (.v (.agg 41 (bigD (if neg then -(val a : Int) else val a)))) [] := by
  have ht := trim_val a h hx
  generalize hr : bigD (if neg then -(val a : Int) else val a) = r
  generalize hl : lim a = l at ht ⊢
  generalize hq : lim (limbs (val a)) = q at ht
  refine Ok.run progOK [] [.call (.v (.imm 169 true q)) [] [], .both] 400 Tryz.func186 rfl rfl (Nat.le_of_ble_eq_true rfl) (fun r hr => by simp [ofList, ups, noRoots] at hr) (fun r root hr => by simp [ofList, ups, noRoots] at hr) fun J hX => ?_
  generalize hZ : deep Tryz.prog tab J _ = Z
  generalize hL : std = L
  conv => cbv
  subst hZ hL
  dsimp only [std, deep]
  subst hq hr
  refine ⟨ht, fun h0 => ⟨trivial, ?_, trivial⟩, fun h0 => ⟨trivial, ?_, trivial⟩⟩
  · have hv : val a = 0 := by
      simp only [lim_length, beq_iff_eq] at h0
      have h1 : limbs (val a) = [] := List.length_eq_zero_iff.1 (by omega)
      rw [← val_limbs (val a), h1]; rfl
    cases neg <;> simp [hv, bigD, limbs_zero, lim]
  · have hv : val a ≠ 0 := by
      intro e
      rw [e, limbs_zero] at h0; simp [lim] at h0
    cases neg
    · simp [bigD]
    · simp [bigD]; omega
theorem magnitude_ok (neg : Bool) (a : List Nat) (h : Word a) (hx : a.length ≤ 1099511627776) :
    Ok Tryz.prog tab 173 [.agg 41 (.agg [.bool neg, .list (lim a)])] [] (.v (.imm 169 true (lim (limbs (val a))))) [] := by
  have ht := trim_val a h hx
  generalize lim a = l at ht ⊢
  generalize lim (limbs (val a)) = q at ht ⊢
  refine Ok.go progOK [] [.call (.v (.imm 169 true q)) [] []] 400 Tryz.func173 rfl rfl rfl fun J hX L Z hL hZ => ?_
  conv => cbv
  subst hL hZ
  dsimp only [std, deep]
  exact ⟨ht, trivial, trivial⟩

/-- A number whose limbs are few. -/
def Fits40 (z : Int) : Prop := (limbs z.natAbs).length ≤ 1099511627776

theorem mag_ok (z : Int) (hz : Fits40 z) : Ok Tryz.prog tab 173 [.agg 41 (bigD z)] [] (.v (.imm 169 true (lim (limbs z.natAbs)))) [] := by
  have := magnitude_ok (decide (z < 0)) (limbs z.natAbs) (word_limbs _) hz
  rw [val_limbs] at this
  exact this

theorem sign_ok (z : Int) (hz : Fits40 z) : Ok Tryz.prog tab 88 [.agg 41 (bigD z)] [] (.v (.int .i64 z.sign)) [] := by
  have ht := mag_ok z hz
  have hb : bigD z = .agg [.bool (decide (z < 0)), .list (lim (limbs z.natAbs))] := rfl
  rw [hb] at ht ⊢
  generalize hq : lim (limbs z.natAbs) = q at ht ⊢
  generalize hs : z.sign = s
  generalize hn : decide (z < 0) = neg at ht ⊢
  refine Ok.go progOK [] [.call (.v (.imm 169 true q)) [] [], .both, .both] 400 Tryz.func88 rfl rfl rfl fun J hX L Z hL hZ => ?_
  conv => cbv
  subst hL hZ
  dsimp only [std, deep]
  refine ⟨ht, fun h => ⟨?_, trivial⟩, fun h => ⟨fun hneg => ⟨?_, trivial⟩, fun hneg => ⟨?_, trivial⟩⟩⟩
  · have h1 : limbs z.natAbs = [] := by
      subst hq
      simp only [lim_length, beq_iff_eq] at h
      exact List.length_eq_zero_iff.1 (by omega)
    have h2 : z.natAbs = 0 := by rw [← val_limbs z.natAbs, h1]; rfl
    have h3 : z = 0 := by omega
    rw [← hs, h3]; rfl
  · rw [← hn] at hneg
    simp only [decide_eq_true_eq] at hneg
    rw [← hs, Int.sign_eq_neg_one_of_neg hneg]
  · rw [← hn] at hneg
    simp only [decide_eq_false_iff_not] at hneg
    have h2 : z ≠ 0 := by
      intro e
      subst e
      subst hq
      simp [limbs_zero, lim] at h
    rw [← hs, Int.sign_eq_one_of_pos (by omega)]

theorem lim_two (u : Nat) (h : u < 18446744073709551616) :
    [D.int (IntKind.u32.wrap (u : Int)), D.int (IntKind.u32.wrap ((u : Int).fdiv (2 ^ min (Int.toNat 32) IntKind.u64.bits)))] = lim [u % B32, u / B32] := by
  have e : (2 : Int) ^ min (Int.toNat 32) IntKind.u64.bits = 4294967296 := by decide
  have e1 : IntKind.u32.wrap (u : Int) = ((u % B32 : Nat) : Int) := by rw [IntKind.wrap_u32]; simp only [B32]; omega
  have e2 : IntKind.u32.wrap ((u : Int).fdiv 4294967296) = ((u / B32 : Nat) : Int) := by
    rw [Int.fdiv_eq_ediv_of_nonneg _ (by decide), IntKind.wrap_u32]; simp only [B32]; omega
  rw [e, e1, e2]; rfl

theorem word_two (u : Nat) (h : u < 18446744073709551616) : Word [u % B32, u / B32] ∧ val [u % B32, u / B32] = u := by
  constructor
  · intro x hx
    simp only [List.mem_cons, List.not_mem_nil, or_false] at hx
    simp only [B32] at *
    omega
  · simp only [val, B32]; omega

theorem small_ok (n : Int) (h0 : -9223372036854775808 ≤ n) (h1 : n ≤ 9223372036854775807) : Ok Tryz.prog tab 108 [.int .i64 n] [] (.v (.agg 41 (bigD n))) [] := by
  have hw := word_two n.natAbs (by omega)
  have hs := signed_ok (decide (n < 0)) [n.natAbs % B32, n.natAbs / B32] hw.1 (by simp)
  rw [hw.2, show (if decide (n < 0) = true then -(n.natAbs : Int) else n.natAbs) = n by split <;> simp_all <;> omega, ← lim_two n.natAbs (by omega)] at hs
  generalize bigD n = b at hs ⊢
  refine Ok.go progOK [] [.both, .call (.v (.agg 41 b)) [] []] 400 Tryz.func108 rfl rfl rfl fun J hX L Z hL hZ => ?_
  conv => cbv
  subst hL hZ
  dsimp only [std, deep]
  refine ⟨fun h => ?_, fun h => ?_⟩
  · simp only [decide_eq_true_eq] at h
    have e1 : IntKind.u64.wrap (0 - IntKind.u64.wrap n) = (n.natAbs : Int) := by rw [IntKind.wrap_u64, IntKind.wrap_u64]; omega
    rw [e1]
    exact ⟨by decide, hs, trivial, trivial, trivial⟩
  · simp only [decide_eq_false_iff_not] at h
    have e1 : IntKind.u64.wrap n = (n.natAbs : Int) := by rw [IntKind.wrap_u64]; omega
    rw [e1]
    exact ⟨by decide, hs, trivial, trivial, trivial⟩

end Go.VI

namespace Go.VI
open Go.Proofs
set_option maxRecDepth 20000

/-- Which of two lists of one length is greater, told at the first place from the end where they differ. -/
theorem val_diff {a b : List Nat} (ha : Word a) (hb : Word b) {i : Nat} (hia : i < a.length) (hib : i < b.length) (he : a.drop (i + 1) = b.drop (i + 1)) (hlt : a.getD i 0 < b.getD i 0) : val a < val b := by
  have split : ∀ l : List Nat, i < l.length → l = l.take i ++ l.getD i 0 :: l.drop (i + 1) := by
    intro l hl
    rw [List.getD_eq_getElem?_getD, List.getElem?_eq_getElem hl]
    simp only [Option.getD_some]
    rw [← List.drop_eq_getElem_cons hl, List.take_append_drop]
  have wa : Word (a.take i) := fun x hx => ha x (List.mem_of_mem_take hx)
  have la : val (a.take i) < B32 ^ i := by
    have := val_lt wa
    rwa [List.length_take, Nat.min_eq_left (by omega)] at this
  have ea : val a = val (a.take i) + B32 ^ i * (a.getD i 0 + B32 * val (a.drop (i + 1))) := by
    conv => lhs; rw [split a hia]
    rw [val_append, List.length_take, Nat.min_eq_left (by omega)]; rfl
  have eb : val b = val (b.take i) + B32 ^ i * (b.getD i 0 + B32 * val (a.drop (i + 1))) := by
    conv => lhs; rw [split b hib]
    rw [val_append, List.length_take, Nat.min_eq_left (by omega), he]; rfl
  have : B32 ^ i * (a.getD i 0 + B32 * val (a.drop (i + 1))) + B32 ^ i ≤ B32 ^ i * (b.getD i 0 + B32 * val (a.drop (i + 1))) := by
    rw [← Nat.mul_succ]; exact Nat.mul_le_mul_left _ (by omega)
  omega

theorem limbs_pow {n : Nat} (h : n ≠ 0) : B32 ^ ((limbs n).length - 1) ≤ n := by
  induction n using Nat.strongRecOn with
  | _ n ih =>
    rw [limbs_pos h]
    simp only [List.length_cons, Nat.add_sub_cancel]
    by_cases h0 : n / B32 = 0
    · rw [h0, limbs_zero]; simp; omega
    · have := ih (n / B32) (Nat.div_lt_self (by omega) (by decide)) h0
      have hl : 0 < (limbs (n / B32)).length := by rw [limbs_pos h0]; simp
      have e : B32 ^ (limbs (n / B32)).length = B32 ^ ((limbs (n / B32)).length - 1) * B32 := by
        rw [← Nat.pow_succ]; congr 1; omega
      rw [e]
      calc B32 ^ ((limbs (n / B32)).length - 1) * B32 ≤ (n / B32) * B32 := Nat.mul_le_mul_right _ this
        _ ≤ n := Nat.div_mul_le_self n B32

theorem limbs_longer {m n : Nat} (h : (limbs m).length < (limbs n).length) : m < n := by
  have hn : n ≠ 0 := by rintro rfl; rw [limbs_zero] at h; simp at h
  have h1 := val_lt (word_limbs m)
  rw [val_limbs] at h1
  have h2 := limbs_pow hn
  have : B32 ^ (limbs m).length ≤ B32 ^ ((limbs n).length - 1) := Nat.pow_le_pow_right (by decide) (by omega)
  omega

theorem compare_ok (m n : Nat) (hm : (limbs m).length ≤ 1099511627776) (hn : (limbs n).length ≤ 1099511627776) :
    Ok Tryz.prog tab 202 [.imm 169 false (lim (limbs m)), .imm 169 false (lim (limbs n))] [] (.v (.int .i64 ((m : Int) - n).sign)) [] := by
  have lx : (lim (limbs m)).length = (limbs m).length := lim_length _
  have ly : (lim (limbs n)).length = (limbs n).length := lim_length _
  have gx := lim_get (limbs m)
  have gy := lim_get (limbs n)
  obtain ⟨xs, hxs⟩ : ∃ xs, lim (limbs m) = xs := ⟨_, rfl⟩
  rw [hxs] at lx gx ⊢
  obtain ⟨ys, hys⟩ : ∃ ys, lim (limbs n) = ys := ⟨_, rfl⟩
  rw [hys] at ly gy ⊢
  have sneg : m < n → ((m : Int) - n).sign = -1 := fun h => Int.sign_eq_neg_one_of_neg (by omega)
  have spos : n < m → ((m : Int) - n).sign = 1 := fun h => Int.sign_eq_one_of_pos (by omega)
  have szero : m = n → ((m : Int) - n).sign = 0 := fun h => by subst h; simp
  obtain ⟨r, hr⟩ : ∃ r, ((m : Int) - n).sign = r := ⟨_, rfl⟩
  rw [hr] at sneg spos szero ⊢
  refine Ok.go progOK [] [.both, .both] 400 Tryz.func202 rfl rfl rfl fun J hX L Z hL hZ => ?_
  conv => cbv
  subst hL hZ
  dsimp only [std, deep]
  refine ⟨fun h => ⟨fun h2 => ?_, fun h2 => ?_⟩, fun h => ?_⟩
  · simp only [decide_eq_true_eq] at h2
    exact ⟨(sneg (limbs_longer (by omega))).symm, trivial⟩
  · simp only [decide_eq_false_iff_not, bne_iff_ne, ne_eq] at h h2
    exact ⟨(spos (limbs_longer (by omega))).symm, trivial⟩
  · have hlen : (limbs m).length = (limbs n).length := by
      simp only [bne_eq_false_iff_eq] at h
      omega
    refine Means.weak (sl' := [(0, .imm 169 false xs), (1, .imm 169 false ys), (5, .int .i64 ((xs.length : Int) - 1))]) (rl' := []) rfl rfl rfl ⟨rfl, rfl, wrap64 _ (by omega) (by omega), trivial⟩ trivial ?_
    refine Means.loop (α := Int) (fun _ => []) (fun i => [(0, .imm 169 false xs), (1, .imm 169 false ys), (5, .int .i64 i)])
      (fun i => -1 ≤ i ∧ i < xs.length ∧ (limbs m).drop (i + 1).toNat = (limbs n).drop (i + 1).toNat) (fun i => (i + 1).toNat) ?_ _ ⟨by omega, by omega, ?_⟩
    · intro i ⟨hi1, hi2, hd⟩ ih
      refine Means.go progOK hX [.both, .both, .both, .both] 400 fun L Z hL hZ => ?_
      conv => cbv
      subst hL hZ
      dsimp only [std, deep]
      refine ⟨fun h0 => ?_, fun h0 => ⟨?_, trivial⟩⟩
      · simp only [decide_eq_true_eq] at h0
        rw [gx, gy]
        have e1 : (i + 1).toNat = i.toNat + 1 := by omega
        rw [e1] at hd
        have g1 : i.toNat < (limbs m).length := by omega
        have g2 : i.toNat < (limbs n).length := by omega
        have q1 : i < ys.length := by omega
        refine ⟨h0, hi2, h0, q1, fun h1 => ⟨h0, hi2, h0, q1, fun h2 => ⟨?_, trivial⟩, fun h2 => ⟨?_, trivial⟩⟩, fun h1 => ?_⟩
        · simp only [decide_eq_true_eq] at h2
          have := val_diff (word_limbs m) (word_limbs n) g1 g2 hd (Int.ofNat_lt.1 h2)
          rw [val_limbs, val_limbs] at this
          exact (sneg this).symm
        · simp only [decide_eq_false_iff_not, bne_iff_ne, ne_eq] at h1 h2
          have := val_diff (word_limbs n) (word_limbs m) g2 g1 hd.symm (by omega)
          rw [val_limbs, val_limbs] at this
          exact (spos this).symm
        · simp only [bne_eq_false_iff_eq] at h1
          refine Means.weak (sl' := [(0, .imm 169 false xs), (1, .imm 169 false ys), (5, .int .i64 (i - 1))]) (rl' := []) rfl rfl rfl ⟨rfl, rfl, wrap64 _ (by omega) (by omega), trivial⟩ trivial
            (ih (i - 1) ⟨by omega, by omega, ?_⟩ (by omega))
          have e2 : (i - 1 + 1).toNat = i.toNat := by omega
          rw [e2, List.drop_eq_getElem_cons g1, List.drop_eq_getElem_cons g2, hd]
          congr 1
          simp only [List.getD_eq_getElem?_getD, List.getElem?_eq_getElem g1, List.getElem?_eq_getElem g2, Option.getD_some] at h1
          omega
      · simp only [decide_eq_false_iff_not] at h0
        have : i = -1 := by omega
        subst this
        have e : limbs m = limbs n := by simpa using hd
        exact (szero (by rw [← val_limbs m, e, val_limbs])).symm
    · rw [List.drop_eq_nil_iff.2 (by omega), List.drop_eq_nil_iff.2 (by omega)]

end Go.VI
