/- Contracts of functions, and a call by a contract. A call by a contract: the state behind it. One operation, whichever it is, calls of functions apart. A call of a function, by its contract. From a point in a function's code to its end. -/
import Derived.Test.YtnnikgdmdmbooaaGreatJ03
import Derived.Scope
set_option linter.unusedVariables false
set_option linter.unusedSimpArgs false
namespace Go.VI

/-- The keys of a result's own rows. -/
def RK (j : Nat) : Nat := 1000000000 + j

def noRoots : Roots := fun _ => none

def ofList (l : List (Nat × Root)) : Roots := ups noRoots l

inductive ResR (T : Tab) (g : Tags) (w : World) (rv : Nat → Value) (j : Nat) : RV → Value → Prop
  | v {x : VV} {v : Value} : SR T g w rv noRoots x v → Live noRoots x → ResR T g w rv j (.v x) v
  | own {root : Root} : RootR T g w rv (RK j) root → root.keys = [] → root.held = false → ResR T g w rv j (.own root) (rv (RK j))

def ResAll (T : Tab) (g : Tags) (w : World) (rv : Nat → Value) (res : RV) (v : Value) : Prop :=
  match res with
  | .tup l => ∃ cs : Array Value, v = .tuple cs ∧ l.length = cs.size ∧ ∀ (j : Nat) x c, l[j]? = some x → cs[j]? = some c → ResR T g w rv j x c
  | r => ResR T g w rv 0 r v

def RV.parts : RV → List RV
  | .tup l => l
  | r => [r]

/-- What a called function may find, and what it must leave: 'inn' are the rows that it may write. -/
structure Ready (T : Tab) (g : Tags) (w : World) (rv : Nat → Value) (inn : List (Nat × Root)) (args : List VV) (vals : Array Value) : Prop where
  len : args.length = vals.size
  reads : ∀ (i : Nat) x v, args[i]? = some x → vals[i]? = some v → SR T g w rv (ofList inn) x v
  names : ∀ x ∈ args, Live (ofList inn) x
  roots : ∀ r root, ofList inn r = some root → RootR T g w rv r root
  live : ∀ b o r q k, g b o = .own r q k → (ofList inn r).isSome

structure Left (T : Tab) (g : Tags) (w : World) (rv : Nat → Value) (g' : Tags) (w' : World) (rv' : Nat → Value) (inn out : List (Nat × Root)) (res : RV) (v : Value) : Prop where
  ev : Ev w g w' g'
  value : ResAll T g' w' rv' res v
  roots : ∀ r root, ofList out r = some root → RootR T g' w' rv' r root
  same : ∀ r, (ofList inn r).isSome → rv' r = rv r
  live : ∀ b o r q k, g' b o = .own r q k → (ofList out r).isSome ∨ ∃ (j : Nat) (root : Root), res.parts[j]? = some (RV.own root) ∧ r = RK j

/-- A function of the program's own, with a body. -/
def Enters (P : Program) (f : FuncId) : Prop := ∃ fn, P.funcs[f]? = some fn ∧ (fn.name == "runtime.NumGoroutine") = false ∧ fn.body.isNone = false

def Ok (P : Program) (T : Tab) (f : FuncId) (args : List VV) (inn : List (Nat × Root)) (res : RV) (out : List (Nat × Root)) : Prop :=
  Enters P f ∧ ∀ (w : World) (g : Tags) (rv : Nat → Value) (vals : Array Value), Ready T g w rv inn args vals →
    Calls P f vals w fun e w' => ∃ v g' rv', e = .returned v ∧ Left T g w rv g' w' rv' inn out res v

/-! ### What a call does to the state -/

def clean : VV → Bool
  | .int .. | .bool _ | .str _ | .con _ | .nils | .imm .. | .agg .. | .iaddr .. => true
  | _ => false

/-- An argument as the called function sees it, and whether it reads a row that the caller may write. -/
def argV (T : Tab) (t : TypeId) (inn : List Nat) (x : VV) (ρ : Roots) : Option (VV × List Nat) :=
  match x with
  | .imm e _ els => some (.imm e false els, [])
  | .nils => match T.ty t with
    | some (.slice e) => some (.imm e false [], [])
    | _ => none
  | .top r av => if inn.contains r then (cur ρ r av).map fun _ => (.top r av, []) else
      match T.ty t with
      | some (.slice e) => (srcV e (.top r av) ρ).map fun els => (.imm e false els, [r])
      | _ => none
  | .win r av off len full => if inn.contains r then (cur ρ r av).map fun _ => (.win r av off len full, []) else
      match T.ty t with
      | some (.slice e) => (srcV e (.win r av off len full) ρ).map fun els => (.imm e false els, [r])
      | _ => none
  | .addr r av i q t' => if inn.contains r then (cur ρ r av).map fun _ => (.addr r av i q t', []) else none
  | .fn f caps => if caps.all clean then some (.fn f caps, []) else none
  | .tup _ => none
  | .dead => none
  | .int k n => some (.int k n, [])
  | .bool b => some (.bool b, [])
  | .str s => some (.str s, [])
  | .con v => some (.con v, [])
  | .agg t d => some (.agg t d, [])
  | .iaddr t d => some (.iaddr t d, [])

def argsV (T : Tab) (inn : List Nat) (ρ : Roots) : List TypeId → List VV → Option (List VV × List Nat)
  | _, [] => some ([], [])
  | ts, x :: xs => match argV T (ts.headD 0) inn x ρ, argsV T inn ρ ts.tail xs with
    | some (y, b), some (ys, bs) => some (y :: ys, b ++ bs)
    | _, _ => none

/-- A type in whose values no slice lies. -/
def bare (T : Tab) (t : TypeId) : Bool :=
  scalar T t || match T.ty t with
  | some (.struct fs) => fs.all (scalar T)
  | _ => false

/-- A result that shares no memory with what the function was handed. -/
def safe (T : Tab) : RV → Bool
  | .v x => match x with
    | .int .. | .bool _ | .str _ | .con _ | .nils => true
    | .imm e _ _ => false && bare T e
    | _ => false
  | .own root => root.dep == 1 && bare T root.e
  | .tup _ => false

def innRoots (ρ : Roots) : List Nat → Option (List (Nat × Root))
  | [] => some []
  | k :: l => match ρ k, innRoots ρ l with
    | some r, some rs => some ((k, r) :: rs)
    | _, _ => none

def vvOf (K : Nat) (j : Nat) : RV → VV
  | .v x => x
  | .own root => .top (K + j) root.av
  | .tup _ => .dead

def vvAll (K : Nat) : RV → VV
  | .tup l => .tup (l.zipIdx.map fun (r, j) => vvOf K j r)
  | r => vvOf K 0 r

def newUps (K : Nat) : Nat → List RV → List (Nat × Root)
  | _, [] => []
  | j, .own root :: l => (K + j, root) :: newUps K (j + 1) l
  | j, _ :: l => newUps K (j + 1) l

section
variable {P : Program} {T : Tab} (hT : TabOK P T) {C : Ctx} {g : Tags} {w : World} {rv : Nat → Value} {ρ : Roots} {sl : List VV} {a : Act}

theorem scalar_bare {t : TypeId} (h : bare T t = true) {ks : Nat → Prop} {m : Mode} {d : D} {vs : List Value} (hd : DR T g w rv ks m (.val t) d vs) :
    ∀ m' ks' g' w' rv', DR T g' w' rv' ks' m' (.val t) d vs := by
  intro m' ks' g' w' rv'
  unfold bare at h
  cases hs : scalar T t with
  | true => exact scalar_imm hd hs _ _ _ _ _
  | false =>
    rw [hs, Bool.false_or] at h
    split at h
    · rename_i fs ht
      obtain ⟨us, rfl, hrec⟩ := hd.struct_inv ht
      refine .struct us ht fun j hj => ?_
      have hsc : scalar T (fs.getD j 0) = true := by
        rw [List.all_eq_true] at h
        exact h _ (by rw [List.getD_eq_getElem?_getD, List.getElem?_eq_getElem hj]; exact List.getElem_mem hj)
      exact scalar_imm (hrec j hj) hsc _ _ _ _ _
    · simp at h

/-- The marks as a called function sees them. -/
def seen (g : Tags) (inn bor : List Nat) : Tags := fun b o =>
  match g b o with
  | .own r q k => if inn.contains r then .own r q k else if bor.contains r then .imm else .hid
  | t => t

theorem seen_imm {inn bor : List Nat} {b o : Nat} (h : g b o = .imm) : seen g inn bor b o = .imm := by simp [seen, h]

/-- The marks behind a call. -/
def after (g g' : Tags) (n : Nat) (inn : List Nat) (K m : Nat) : Tags := fun b o =>
  if b < n then g b o else
  match g' b o with
  | .own r q k => if inn.contains r then .own r q k else if RK 0 ≤ r ∧ r < RK m then .own (K + (r - RK 0)) q k else .hid
  | t => t

theorem seen_dr {s : Sh} {d : D} {vs : List Value} {inn bor : List Nat} (h : DR T g w rv imms .imm s d vs) : DR T (seen g inn bor) w rv imms .imm s d vs :=
  h.agree (fun b o v hc hv => by
    have hi : g b o = .imm := by revert hc; cases g b o <;> simp [Cov]
    exact ⟨by rw [hi]; exact seen_imm hi, hv, rfl⟩) (fun _ h => ⟨h, rfl⟩)

theorem seen_sr {x : VV} {v : Value} {inn bor : List Nat} {ρ' : Roots} (h : SR T g w rv ρ x v) (hl : Live ρ x) (hs : ∀ r av, Names r av x → ρ' r = ρ r) : SR T (seen g inn bor) w rv ρ' x v :=
  h.keep (fun b o u hi hu => ⟨seen_imm hi, hu, rfl⟩) hl (fun r av hn => ⟨fun root root' h1 h2 => .inl (by
    rw [hs r av hn, h1] at h2; simp only [Option.some.injEq] at h2; subst h2; exact ⟨rfl, rfl, rfl, rfl⟩)⟩)

theorem clean_names {x : VV} (h : clean x = true) : ∀ r av, ¬ Names r av x := by
  intro r av hn
  cases hn <;> simp [clean] at h

theorem bor_src {r : Nat} {root : Root} (hRr : RootR T g w rv r root) (hd : root.dep = 1) {inn bor : List Nat} (hi : inn.contains r = false) (hb : bor.contains r = true) :
    ∃ (A : Option Addr) (c b o : Nat) (us : Nat → List Value), rv r = .slice A root.els.length c ∧ root.els.length ≤ c ∧ (root.els ≠ [] → A = some ⟨b, o, none⟩) ∧
      (∀ i, i < root.els.length → (us i).length = T.sz root.e ∧ DR T (seen g inn bor) w rv imms .imm (.val root.e) (root.els.getD i .nil) (us i)) ∧
      (∀ i k v, i < root.els.length → (us i)[k]? = some v → cellOf w b (o + i * T.sz root.e + k) = some v ∧ seen g inn bor b (o + i * T.sz root.e + k) = .imm) := by
  have hdr := hRr.dr
  rw [hd] at hdr
  obtain ⟨A, c, b, o, us, h1, h2, h3, h4, h5, h6⟩ := hdr.node_inv
  simp only [List.cons.injEq, and_true] at h1
  simp only [D.els] at *
  refine ⟨A, c, b, o, us, h1, h3, h2, fun i hi' => ⟨h4 i hi', seen_dr ((h6 i hi').imm_of_zero (.inr ⟨r, [i], rfl⟩) rv imms)⟩, fun i k v hi' hv => ?_⟩
  obtain ⟨a1, a2, _⟩ := h5 i k v hi' hv
  refine ⟨a1, ?_⟩
  simp only [seen, a2, Mode.tag, hi, hb]
  simp

theorem argV_sound (hr : ∀ r root, ρ r = some root → RootR T g w rv r root) {t : TypeId} {inn : List Nat} {x y : VV} {bs bor : List Nat} {v : Value} {ρ' : Roots} (hin : ∀ r, inn.contains r = true → ρ' r = ρ r)
    (hx : SR T g w rv ρ x v) (hl : Live ρ x) (h : argV T t inn x ρ = some (y, bs)) (hb : ∀ r ∈ bs, bor.contains r = true) :
    SR T (seen g inn bor) w rv ρ' y v ∧ Live ρ' y := by
  have keepN : ∀ {z : VV}, (∀ r av, ¬ Names r av z) → Live ρ' z := fun h r av hn => absurd hn (h r av)
  have same : ∀ {z : VV}, (∀ r av, Names r av z → inn.contains r = true) → SR T g w rv ρ z v → Live ρ z → SR T (seen g inn bor) w rv ρ' z v ∧ Live ρ' z := by
    intro z hz hs hlz
    refine ⟨seen_sr hs hlz (fun r av hn => hin r (hz r av hn)), fun r av hn => ?_⟩
    rw [hin r (hz r av hn)]; exact hlz r av hn
  unfold argV at h
  split at h
  · rename_i e full els
    simp only [Option.some.injEq, Prod.mk.injEq] at h
    obtain ⟨rfl, rfl⟩ := h
    cases hx with
    | imm h1 _ => exact ⟨.imm (seen_dr h1) (fun h => by simp at h), keepN (fun r av hn => by cases hn)⟩
  · split at h
    · rename_i e ht
      simp only [Option.some.injEq, Prod.mk.injEq] at h
      obtain ⟨rfl, rfl⟩ := h
      cases hx
      refine ⟨.imm ?_ (fun h => by simp at h), keepN (fun r av hn => by cases hn)⟩
      exact DR.node (d := .list []) none 0 0 0 (fun _ => []) (fun h => absurd rfl h) (Mode.Cap.refl _ _) (fun i hi => absurd hi (by simp [D.els])) (fun i k v hi => absurd hi (by simp [D.els])) (fun i hi => absurd hi (by simp [D.els]))
    · simp at h
  · rename_i r av
    split at h
    · rename_i hc
      cases hcu : cur ρ r av with
      | none => rw [hcu] at h; simp at h
      | some root =>
        rw [hcu] at h
        simp only [Option.map_some, Option.some.injEq, Prod.mk.injEq] at h
        obtain ⟨rfl, rfl⟩ := h
        exact same (fun r' av' hn => by cases hn; exact hc) hx hl
    · rename_i hc
      split at h
      · rename_i e ht
        cases hs : srcV e (.top r av) ρ with
        | none => rw [hs] at h; simp at h
        | some els =>
          rw [hs] at h
          simp only [Option.map_some, Option.some.injEq, Prod.mk.injEq] at h
          obtain ⟨rfl, rfl⟩ := h
          simp only [srcV] at hs
          · split at hs
            · rename_i root hcu
              obtain ⟨hroot, hav⟩ := cur_some hcu
              split at hs
              · rename_i he
                subst he
                split at hs
                · rename_i hd
                  simp only [Option.some.injEq] at hs; subst hs
                  cases hx with
                  | top hx =>
                    have hu := hx root hroot hav
                    subst hu
                    obtain ⟨A, c, b, o, us, m1, m2, m3, m4, m5⟩ := bor_src (hr _ root hroot) hd (inn := inn) (bor := bor) (by simpa using hc) (hb _ (by simp))
                    refine ⟨.imm ?_ (fun h => by simp at h), keepN (fun r av hn => by cases hn)⟩
                    rw [m1]
                    exact DR.node (d := .list root.els) A c b o us m3 m2 (fun i hi => (m4 i hi).1) (fun i k v hi hv => ⟨(m5 i k v hi hv).1, (m5 i k v hi hv).2, fun hm => absurd rfl hm⟩) (fun i hi => (m4 i hi).2)
                · simp at hs
              · simp at hs
            · simp at hs
      · simp at h
  · rename_i r av off len full
    split at h
    · rename_i hc
      cases hcu : cur ρ r av with
      | none => rw [hcu] at h; simp at h
      | some root =>
        rw [hcu] at h
        simp only [Option.map_some, Option.some.injEq, Prod.mk.injEq] at h
        obtain ⟨rfl, rfl⟩ := h
        exact same (fun r' av' hn => by cases hn; exact hc) hx hl
    · rename_i hc
      split at h
      · rename_i e ht
        cases hs : srcV e (.win r av off len full) ρ with
        | none => rw [hs] at h; simp at h
        | some els =>
          rw [hs] at h
          simp only [Option.map_some, Option.some.injEq, Prod.mk.injEq] at h
          obtain ⟨rfl, rfl⟩ := h
          simp only [srcV] at hs
          · split at hs
            · rename_i root hcu
              obtain ⟨hroot, hav⟩ := cur_some hcu
              split at hs
              · rename_i he
                subst he
                split at hs
                · rename_i hd
                  simp only [Option.some.injEq] at hs; subst hs
                  cases hx with
                  | win hx =>
                    obtain ⟨k1, A', c', k2, k3, k4, k5⟩ := hx root hroot hav
                    obtain ⟨A, c, b, o, us, m1, m2, m3, m4, m5⟩ := bor_src (hr _ root hroot) hd (inn := inn) (bor := bor) (by simpa using hc) (hb _ (by simp))
                    have hlen : ((root.els.drop off).take len).length = len := by simp; omega
                    refine ⟨.imm ?_ (fun h => by simp at h), keepN (fun r av hn => by cases hn)⟩
                    rw [k2]
                    have key := DR.node (T := T) (g := seen g inn bor) (w := w) (rv := rv) (ks := imms) (m := .imm) (e := root.e) (d := .list ((root.els.drop off).take len)) A' c' b (o + off * T.sz root.e) (fun i => us (off + i))
                      (fun hne => by
                        simp only [D.els] at hne
                        have hpos : 0 < len := by rw [← hlen]; exact List.length_pos_iff.2 hne
                        obtain ⟨b2, o2, ⟨c2, hb2⟩, hA⟩ := k5 hpos
                        have hne' : root.els ≠ [] := by intro e; rw [e] at k1; simp at k1; omega
                        have hA' := m3 hne'
                        rw [m1, hA'] at hb2
                        simp only [Value.slice.injEq, Option.some.injEq, Addr.mk.injEq] at hb2
                        obtain ⟨⟨rfl, rfl, -⟩, -, -⟩ := hb2
                        exact hA)
                      (by simp only [D.els]; rw [hlen]; exact k3)
                      (fun i hi => (m4 _ (by simp only [D.els, hlen] at hi; omega)).1)
                      (fun i k v hi hv => by
                        simp only [D.els, hlen] at hi
                        have := m5 (off + i) k v (by omega) hv
                        rw [Nat.add_mul] at this
                        rw [show o + off * T.sz root.e + i * T.sz root.e + k = o + (off * T.sz root.e + i * T.sz root.e) + k from by omega]
                        exact ⟨this.1, this.2, fun hm => absurd rfl hm⟩)
                      (fun i hi => by
                        simp only [D.els, hlen] at hi ⊢
                        have := m4 (off + i) (by omega)
                        have e : ((root.els.drop off).take len).getD i .nil = root.els.getD (off + i) .nil := by
                          simp only [List.getD_eq_getElem?_getD, List.getElem?_take, List.getElem?_drop]
                          rw [if_pos hi]
                        rw [e]; exact this.2)
                    simp only [D.els, hlen] at key
                    exact key
                · simp at hs
              · simp at hs
            · simp at hs
      · simp at h
  · rename_i r av i q t'
    split at h
    · rename_i hc
      cases hcu : cur ρ r av with
      | none => rw [hcu] at h; simp at h
      | some root =>
        rw [hcu] at h
        simp only [Option.map_some, Option.some.injEq, Prod.mk.injEq] at h
        obtain ⟨rfl, rfl⟩ := h
        exact same (fun r' av' hn => by cases hn; exact hc) hx hl
    · simp at h
  · rename_i f caps
    split at h
    · rename_i hc
      simp only [Option.some.injEq, Prod.mk.injEq] at h
      obtain ⟨rfl, rfl⟩ := h
      refine same (fun r' av' hn => ?_) hx hl
      cases hn with
      | fn hm hn' =>
        rw [List.all_eq_true] at hc
        exact absurd hn' (clean_names (hc _ hm) _ _)
    · simp at h
  · simp at h
  · simp at h
  all_goals
    simp only [Option.some.injEq, Prod.mk.injEq] at h
    obtain ⟨rfl, rfl⟩ := h
    exact same (fun r' av' hn => by cases hn) hx hl

end
end Go.VI

namespace Go.VI

section
variable {P : Program} {T : Tab} (hT : TabOK P T) {C : Ctx} {g : Tags} {w : World} {rv : Nat → Value} {ρ : Roots} {sl : List VV} {a : Act}

theorem ups_eq : ∀ (l : List (Nat × Root)) (ρ : Roots) (k : Nat), ups ρ l k = match ofList l k with | some r => some r | none => ρ k
  | [], ρ, k => rfl
  | (j, r) :: l, ρ, k => by
    have h1 : ups ρ ((j, r) :: l) k = ups (ρ.set j r) l k := rfl
    have h2 : ofList ((j, r) :: l) k = ups (noRoots.set j r) l k := rfl
    rw [h1, h2, ups_eq l (ρ.set j r) k, ups_eq l (noRoots.set j r) k]
    cases ofList l k with
    | some r' => rfl
    | none => simp only [Roots.set]; split <;> rfl

theorem ofList_cons (j : Nat) (r : Root) (l : List (Nat × Root)) (k : Nat) : ofList ((j, r) :: l) k = match ofList l k with | some r' => some r' | none => if k = j then some r else none := by
  have h2 : ofList ((j, r) :: l) k = ups (noRoots.set j r) l k := rfl
  rw [h2, ups_eq]
  cases ofList l k with
  | some r' => rfl
  | none => simp [Roots.set, noRoots]

theorem ofList_append (l1 l2 : List (Nat × Root)) (k : Nat) : ofList (l1 ++ l2) k = match ofList l2 k with | some r => some r | none => ofList l1 k := by
  induction l1 with
  | nil =>
    show ofList l2 k = _
    cases ofList l2 k <;> rfl
  | cons x l ih =>
    obtain ⟨j, r⟩ := x
    rw [List.cons_append, ofList_cons, ih, ofList_cons]
    cases ofList l2 k <;> cases ofList l k <;> rfl

theorem innRoots_eq : ∀ (inn : List Nat) (l : List (Nat × Root)), innRoots ρ inn = some l → (∀ k, ofList l k = if inn.contains k = true then ρ k else none) ∧ ∀ k, inn.contains k = true → (ρ k).isSome
  | [], l, h => by
    simp only [innRoots, Option.some.injEq] at h
    subst h
    exact ⟨fun k => by simp [ofList, ups, noRoots], fun k hk => by simp at hk⟩
  | j :: inn, l, h => by
    simp only [innRoots] at h
    split at h
    · rename_i r rs h1 h2
      simp only [Option.some.injEq] at h
      subst h
      obtain ⟨i1, i2⟩ := innRoots_eq inn rs h2
      refine ⟨fun k => ?_, fun k hk => ?_⟩
      · rw [ofList_cons, i1 k]
        by_cases hk : k = j
        · subst hk
          simp only [List.contains_cons, BEq.rfl, Bool.true_or, if_true, h1]
          split
          · rename_i r' hr'
            split at hr'
            · exact hr'.symm
            · simp at hr'
          · rfl
        · have : (k == j) = false := by simpa using hk
          simp only [List.contains_cons, this, Bool.false_or]
          split <;> simp_all
      · simp only [List.contains_cons, Bool.or_eq_true, beq_iff_eq] at hk
        rcases hk with rfl | hk
        · rw [h1]; rfl
        · exact i2 k hk
    · simp at h

theorem newUps_eq (K : Nat) : ∀ (l : List RV) (j0 k : Nat) (root : Root), ofList (newUps K j0 l) k = some root ↔ ∃ j, l[j]? = some (.own root) ∧ k = K + (j0 + j)
  | [], j0, k, root => by simp [newUps, ofList, ups, noRoots]
  | x :: l, j0, k, root => by
    have ih := newUps_eq K l (j0 + 1) k root
    cases x with
    | own r =>
      simp only [newUps]
      rw [ofList_cons]
      constructor
      · intro h
        split at h
        · rename_i r' hr'
          simp only [Option.some.injEq] at h
          subst h
          obtain ⟨j, h1, h2⟩ := ih.1 hr'
          exact ⟨j + 1, by simpa using h1, by omega⟩
        · split at h
          · rename_i hk
            simp only [Option.some.injEq] at h
            subst h
            exact ⟨0, rfl, by omega⟩
          · simp at h
      · rintro ⟨j, h1, h2⟩
        cases j with
        | zero =>
          simp only [List.getElem?_cons_zero, Option.some.injEq, RV.own.injEq] at h1
          subst h1
          cases hq : ofList (newUps K (j0 + 1) l) k with
          | some r' =>
            obtain ⟨j', _, h3⟩ := (newUps_eq K l (j0 + 1) k r').1 hq
            omega
          | none => simp only; rw [if_pos (by omega)]
        | succ j =>
          have := ih.2 ⟨j, by simpa using h1, by omega⟩
          rw [this]
    | v y =>
      simp only [newUps]
      rw [ih]
      constructor
      · rintro ⟨j, h1, h2⟩; exact ⟨j + 1, by simpa using h1, by omega⟩
      · rintro ⟨j, h1, h2⟩
        cases j with
        | zero => simp at h1
        | succ j => exact ⟨j, by simpa using h1, by omega⟩
    | tup y =>
      simp only [newUps]
      rw [ih]
      constructor
      · rintro ⟨j, h1, h2⟩; exact ⟨j + 1, by simpa using h1, by omega⟩
      · rintro ⟨j, h1, h2⟩
        cases j with
        | zero => simp at h1
        | succ j => exact ⟨j, by simpa using h1, by omega⟩

/-- What a call may do to the rows that it may write. -/
def OutOK (a b : Roots) : Prop := ∀ r, match a r, b r with
  | some x, some y => y.e = x.e ∧ y.els.length = x.els.length ∧ y.av = x.av ∧ y.held = x.held ∧ y.keys = []
  | none, none => True
  | _, _ => False

theorem argsV_sound (hr : ∀ r root, ρ r = some root → RootR T g w rv r root) {inn : List Nat} {bor : List Nat} {ρ' : Roots} (hin : ∀ r, inn.contains r = true → ρ' r = ρ r) :
    ∀ (xs : List VV) (ts : List TypeId) (ys : List VV) (bs : List Nat) (vals : List Value), argsV T inn ρ ts xs = some (ys, bs) → xs.length = vals.length →
      (∀ (i : Nat) x v, xs[i]? = some x → vals[i]? = some v → SR T g w rv ρ x v) → (∀ x ∈ xs, Live ρ x) → (∀ r ∈ bs, bor.contains r = true) →
      ys.length = vals.length ∧ (∀ (i : Nat) y v, ys[i]? = some y → vals[i]? = some v → SR T (seen g inn bor) w rv ρ' y v) ∧ ∀ y ∈ ys, Live ρ' y
  | [], ts, ys, bs, vals, h, hl, _, _, _ => by
    simp only [argsV, Option.some.injEq, Prod.mk.injEq] at h
    obtain ⟨rfl, rfl⟩ := h
    exact ⟨hl, fun i y v hy => by simp at hy, fun y hy => by simp at hy⟩
  | x :: xs, ts, ys, bs, vals, h, hl, hs, hlv, hb => by
    simp only [argsV] at h
    split at h
    · rename_i y b ys' bs' h1 h2
      simp only [Option.some.injEq, Prod.mk.injEq] at h
      obtain ⟨rfl, rfl⟩ := h
      match vals, hl with
      | v :: vals, hl =>
        obtain ⟨k1, k2, k3⟩ := argsV_sound hr hin xs _ ys' bs' vals h2 (by simpa using hl) (fun i x u hx hu => hs (i + 1) x u (by simpa using hx) (by simpa using hu)) (fun x hx => hlv x (by simp [hx]))
          (fun r hr => hb r (by simp [hr]))
        obtain ⟨m1, m2⟩ := argV_sound hr hin (hs 0 x v rfl rfl) (hlv x (by simp)) h1 (fun r hr => hb r (by simp [hr]))
        refine ⟨by simp [k1], fun i y' u hy hu => ?_, fun y' hy => ?_⟩
        · cases i with
          | zero =>
            simp only [List.getElem?_cons_zero, Option.some.injEq] at hy hu
            subst hy hu; exact m1
          | succ i => exact k2 i y' u (by simpa using hy) (by simpa using hu)
        · simp only [List.mem_cons] at hy
          rcases hy with rfl | hy
          · exact m2
          · exact k3 y' hy
    · simp at h

/-- What is asked of a call besides its contract. -/
structure CallOK (T : Tab) (ρ : Roots) (inn bor : List Nat) (rin out : List (Nat × Root)) (res : RV) (K : Nat) : Prop where
  rows : innRoots ρ inn = some rin
  small : ∀ r, inn.contains r = true → r < RK 0
  share : bor = [] ∨ (inn = [] ∧ safe T res = true)
  wrote : OutOK (ofList rin) (ofList out)
  new : ∀ j, j < res.parts.length → ρ (K + j) = none
  keys : ∀ r root, ofList rin r = some root → root.keys = []

theorem safe_own {l : List RV} {res : RV} (hl : l = res.parts) (hs : safe T res = true) {j : Nat} {root : Root} (hj : l[j]? = some (.own root)) : root.dep = 1 ∧ bare T root.e = true := by
  subst hl
  cases res with
  | v x => cases j <;> simp [RV.parts] at hj
  | own r =>
    cases j with
    | zero =>
      simp only [RV.parts, List.getElem?_cons_zero, Option.some.injEq, RV.own.injEq] at hj
      subst hj
      simpa [safe] using hs
    | succ j => simp [RV.parts] at hj
  | tup l => simp [safe] at hs

theorem R.call (h : R T C g w rv ρ sl a) {inn bor : List Nat} {rin out : List (Nat × Root)} {res : RV} {K : Nat} (hk : CallOK T ρ inn bor rin out res K)
    {w' : World} {g' : Tags} {rv' : Nat → Value} {v : Value} (hl : Left T (seen g inn bor) w rv g' w' rv' rin out res v) :
    ∃ g2 rv2, R T C g2 w' rv2 (ups ρ (out ++ newUps K 0 res.parts)) sl a ∧ SR T g2 w' rv2 (ups ρ (out ++ newUps K 0 res.parts)) (vvAll K res) v ∧ Live (ups ρ (out ++ newUps K 0 res.parts)) (vvAll K res) := by
  obtain ⟨hin1, hin2⟩ := innRoots_eq inn rin hk.rows
  let n := w.heap.size
  let m := res.parts.length
  let g2 := after g g' n inn K m
  let rv2 : Nat → Value := fun k => if K ≤ k ∧ k < K + m then rv' (RK (k - K)) else rv k
  let ρ2 := ups ρ (out ++ newUps K 0 res.parts)
  -- the marks
  have old : ∀ b o, b < n → g2 b o = g b o := fun b o hb => by simp only [g2, after]; rw [if_pos hb]
  have seenOwn : ∀ b o r q k, seen g inn bor b o = .own r q k → inn.contains r = true ∧ g b o = .own r q k := by
    intro b o r q k hs
    simp only [seen] at hs
    split at hs
    · rename_i r' q' k' hg
      split at hs
      · rename_i hc
        simp only [Tag.own.injEq] at hs
        obtain ⟨rfl, rfl, rfl⟩ := hs
        exact ⟨hc, hg⟩
      · split at hs <;> simp at hs
    · rename_i hne
      exact absurd hs (hne r q k)
  have freshRK : ∀ b o j q k, g' b o = .own (RK j) q k → n ≤ b := by
    intro b o j q k hg
    rcases Nat.lt_or_ge b n with hb | hb
    · rw [hl.ev.tags b o hb] at hg
      have := hk.small _ (seenOwn _ _ _ _ _ hg).1
      unfold RK at this
      omega
    · exact hb
  have immBack : bor = [] → ∀ b o, g' b o = .imm → g2 b o = .imm := by
    intro hb b o hg
    rcases Nat.lt_or_ge b n with hb' | hb'
    · rw [old b o hb']
      rw [hl.ev.tags b o hb'] at hg
      subst hb
      simp only [seen] at hg
      split at hg
      · split at hg
        · simp at hg
        · simp at hg
      · exact hg
    · simp only [g2, after]
      rw [if_neg (by omega), hg]
  have ownBack : ∀ b o j q k, j < m → g' b o = .own (RK j) q k → g2 b o = .own (K + j) q k := by
    intro b o j q k hj hg
    have hb := freshRK b o j q k hg
    simp only [g2, after]
    rw [if_neg (by omega), hg]
    have hc : inn.contains (RK j) = false := by
      cases hc : inn.contains (RK j) with
      | false => rfl
      | true => have := hk.small _ hc; unfold RK at this; omega
    simp only [hc, Bool.false_eq_true, if_false]
    have e1 : RK 0 ≤ RK j := by unfold RK; omega
    have e2 : RK j < RK m := by unfold RK; omega
    have e3 : K + (RK j - RK 0) = K + j := by unfold RK; omega
    rw [if_pos ⟨e1, e2⟩, e3]
  have innBack : ∀ b o r q k, inn.contains r = true → g' b o = .own r q k → g2 b o = .own r q k := by
    intro b o r q k hc hg
    rcases Nat.lt_or_ge b n with hb | hb
    · rw [old b o hb]
      rw [hl.ev.tags b o hb] at hg
      exact (seenOwn _ _ _ _ _ hg).2
    · simp only [g2, after]
      rw [if_neg (by omega), hg]
      simp only [hc, if_true]
  -- what is not the call's to write stays
  have stay : ∀ b o u, (∀ r q k, inn.contains r = true → g b o ≠ .own r q k) → cellOf w b o = some u → cellOf w' b o = some u ∧ frozenOf w' b o = frozenOf w b o := by
    intro b o u hne hu
    have hb := cellOf_lt hu
    refine ⟨?_, hl.ev.froz b o hb⟩
    rw [hl.ev.cell b o hb (fun r q k hs => by
      obtain ⟨h1, h2⟩ := seenOwn _ _ _ _ _ hs
      exact hne r q k h1 h2)]
    exact hu
  have newNone : ∀ k, K ≤ k → k < K + m → ρ k = none := by
    intro k h1 h2
    have := hk.new (k - K) (by omega)
    rwa [show K + (k - K) = k from by omega] at this
  have rvOld : ∀ k, (ρ k).isSome → rv2 k = rv k := by
    intro k hs
    simp only [rv2]
    rw [if_neg (fun hh => by rw [newNone k hh.1 hh.2] at hs; simp at hs)]
  have rvNew2 : ∀ j, j < m → rv2 (K + j) = rv' (RK j) := by
    intro j hj
    simp only [rv2]
    rw [if_pos ⟨by omega, by omega⟩, show K + j - K = j from by omega]
  have newOf : ∀ k root, ofList (newUps K 0 res.parts) k = some root → ∃ j, j < m ∧ res.parts[j]? = some (.own root) ∧ k = K + j := by
    intro k root hh
    obtain ⟨j, h1, h2⟩ := (newUps_eq K res.parts 0 k root).1 hh
    refine ⟨j, ?_, h1, by omega⟩
    rcases Nat.lt_or_ge j res.parts.length with h' | h'
    · exact h'
    · rw [List.getElem?_eq_none h'] at h1; simp at h1
  have ρ2eq : ∀ k, ρ2 k = match ofList (newUps K 0 res.parts) k with | some r => some r | none => match ofList out k with | some r => some r | none => ρ k := by
    intro k
    simp only [ρ2]
    rw [ups_eq, ofList_append]
    cases ofList (newUps K 0 res.parts) k <;> rfl
  have outInn : ∀ k root, ofList out k = some root → inn.contains k = true ∧ ∃ r0, ρ k = some r0 ∧ root.e = r0.e ∧ root.els.length = r0.els.length ∧ root.av = r0.av ∧ root.held = r0.held ∧ root.keys = [] := by
    intro k root hh
    have := hk.wrote k
    rw [hh, hin1 k] at this
    by_cases hc : inn.contains k = true
    · rw [if_pos hc] at this
      cases hρ : ρ k with
      | none => rw [hρ] at this; exact this.elim
      | some r0 => rw [hρ] at this; exact ⟨hc, r0, rfl, this⟩
    · rw [if_neg hc] at this; exact this.elim
  have oldSome : ∀ k root, ρ k = some root → ∃ root2, ρ2 k = some root2 ∧ root2.av = root.av ∧ root2.e = root.e ∧ root2.els.length = root.els.length ∧ root2.held = root.held := by
    intro k root hρ
    rw [ρ2eq]
    cases hn : ofList (newUps K 0 res.parts) k with
    | some r =>
      obtain ⟨j, h1, _, h3⟩ := newOf k r hn
      rw [newNone k (by omega) (by omega)] at hρ; simp at hρ
    | none =>
      cases ho : ofList out k with
      | some r =>
        obtain ⟨_, r0, h1, h2, h3, h4, h5, _⟩ := outInn k r ho
        rw [hρ] at h1
        simp only [Option.some.injEq] at h1
        subst h1
        exact ⟨r, rfl, h4, h2, h3, h5⟩
      | none => exact ⟨root, hρ, rfl, rfl, rfl, rfl⟩
  have partR : ∀ j root, res.parts[j]? = some (.own root) → RootR T g' w' rv' (RK j) root ∧ root.keys = [] ∧ root.held = false := by
    intro j root hj
    have hv := hl.value
    cases res with
    | v x => cases j <;> simp [RV.parts] at hj
    | own r =>
      cases j with
      | zero =>
        simp only [RV.parts, List.getElem?_cons_zero, Option.some.injEq, RV.own.injEq] at hj
        subst hj
        simp only [ResAll] at hv
        cases hv with
        | own h1 h2 h3 => exact ⟨h1, h2, h3⟩
      | succ j => simp [RV.parts] at hj
    | tup l =>
      simp only [ResAll] at hv
      obtain ⟨cs, h1, h2, h3⟩ := hv
      simp only [RV.parts] at hj
      have hjl : j < l.length := by
        rcases Nat.lt_or_ge j l.length with h' | h'
        · exact h'
        · rw [List.getElem?_eq_none h'] at hj; simp at hj
      have := h3 j _ cs[j] hj (by simp [show j < cs.size by omega])
      generalize cs[j] = c at this
      cases this with
      | own h1 h2 h3 => exact ⟨h1, h2, h3⟩
  have rootNew : ∀ j root, j < m → res.parts[j]? = some (.own root) → RootR T g2 w' rv2 (K + j) root := by
    intro j root hjm hj
    obtain ⟨hR, hkeys, _⟩ := partR j root hj
    have hspare : ∀ b o c, rv2 (K + j) = .slice (some ⟨b, o, none⟩) root.els.length c → ∀ k, root.els.length * T.sz root.e ≤ k → k < c * T.sz root.e →
        (cellOf w' b (o + k)).isSome ∧ g2 b (o + k) = .own (K + j) [] k ∧ frozenOf w' b (o + k) = false := by
      intro b o c h1 k h2 h3
      rw [rvNew2 j hjm] at h1
      obtain ⟨k1, k2, k3⟩ := hR.spare b o c h1 k h2 h3
      exact ⟨k1, ownBack _ _ _ _ _ hjm k2, k3⟩
    refine ⟨hR.dep, ?_, by rw [rvNew2 j hjm]; exact hR.full, hspare, by rw [rvNew2 j hjm]; exact hR.form⟩
    rw [rvNew2 j hjm]
    rcases hk.share with hb | ⟨_, hs⟩
    · have hd := hR.dr.retag (g' := g2) (ks' := (· ∈ root.keys)) (.own (K + j) [] root.dep) (.inr (.inr ⟨RK j, [], root.dep, K + j, [], rfl, rfl, fun h => h, fun _ h => h⟩)) (fun b o hc => by
        cases hg : g' b o with
        | imm => simp only [Retag]; exact immBack hb b o hg
        | hid => rw [hg] at hc; simp [Cov] at hc
        | own r q k =>
          rw [hg] at hc
          simp only [Cov] at hc
          simp only [Retag]
          intro h1 _ s hs
          subst h1
          rw [ownBack b o j q k hjm hg, hs])
      exact hd.agree (fun _ _ _ _ hv => ⟨rfl, hv, rfl⟩) (fun K' hK => by rw [hkeys] at hK; simp at hK)
    · obtain ⟨hd1, hbare⟩ := safe_own rfl hs hj
      have hdr := hR.dr
      rw [hd1] at hdr ⊢
      obtain ⟨A, c, b, o, us, h1, h2, h3, h4, h5, h6⟩ := hdr.node_inv
      simp only [List.cons.injEq, and_true] at h1
      rw [h1]
      refine DR.node (d := .list root.els) A c b o us h2 h3 h4 (fun i k v hi hv => ?_) (fun i hi => scalar_bare hbare (h6 i hi) _ _ _ _ _)
      obtain ⟨k1, k2, k3⟩ := h5 i k v hi hv
      exact ⟨k1, ownBack _ _ _ _ _ hjm k2, fun _ => k3 (by simp [Mode.tag])⟩
  have hRnew : R T C g2 w' rv2 ρ2 sl a := by
    refine ⟨?_, h.defers, h.len, ?_, ?_, ?_, ?_, ?_, hdr_keep h.hdr fun k rk hk' => ?_⟩
    rotate_right
    · obtain ⟨root2, k1, k2, _⟩ := oldSome k rk hk'
      exact ⟨root2, k1, Nat.le_of_eq k2.symm, fun _ => rvOld k (by rw [hk']; rfl)⟩
    · refine ⟨by rw [hl.ev.os]; exact h.ev.os, by rw [hl.ev.tape]; exact h.ev.tape, by rw [hl.ev.output]; exact h.ev.output, Nat.le_trans h.ev.size hl.ev.size, ?_, ?_, ?_, ?_, ?_⟩
      · intro b hb hg
        rw [hl.ev.blk b (Nat.lt_of_lt_of_le hb h.ev.size) (fun o r q k hs => by
          have := (seenOwn _ _ _ _ _ hs).2
          rw [h.ev.tags b o hb] at this
          exact hg o r q k this)]
        exact h.ev.blk b hb hg
      · intro b o hb hg
        rw [hl.ev.cell b o (Nat.lt_of_lt_of_le hb h.ev.size) (fun r q k hs => by
          have := (seenOwn _ _ _ _ _ hs).2
          rw [h.ev.tags b o hb] at this
          exact hg r q k this)]
        exact h.ev.cell b o hb hg
      · intro b o hb
        rw [hl.ev.froz b o (Nat.lt_of_lt_of_le hb h.ev.size)]; exact h.ev.froz b o hb
      · intro b o v hb hv
        obtain ⟨u, hu⟩ := Option.isSome_iff_exists.1 (h.ev.has b o v hb hv)
        exact hl.ev.has b o u (Nat.lt_of_lt_of_le hb h.ev.size) hu
      · intro b o hb
        rw [old b o (Nat.lt_of_lt_of_le hb h.ev.size)]; exact h.ev.tags b o hb
    · intro i x u hx hu
      refine (h.slots i x u hx hu).keep (fun b o c hi hc => ?_) (h.names i x hx) (fun r av hn => ⟨fun root root' h1 h2 => .inl ?_⟩)
      · obtain ⟨k1, k2⟩ := stay b o c (fun r q k _ e => by rw [hi] at e; simp at e) hc
        exact ⟨by rw [old b o (cellOf_lt hc)]; exact hi, k1, k2⟩
      · obtain ⟨root2, k1, k2, k3, k4, _⟩ := oldSome r root h1
        rw [h2] at k1
        simp only [Option.some.injEq] at k1
        subst k1
        exact ⟨k3.symm, k4.symm, k2.symm, rvOld r (by rw [h1]; rfl)⟩
    · intro i x hx r av hn
      obtain ⟨root, h1, h2⟩ := h.names i x hx r av hn
      obtain ⟨root2, k1, k2, _⟩ := oldSome r root h1
      exact ⟨root2, k1, by omega⟩
    · intro r root hr
      rw [ρ2eq] at hr
      cases hn : ofList (newUps K 0 res.parts) r with
      | some r' =>
        rw [hn] at hr
        simp only [Option.some.injEq] at hr
        subst hr
        obtain ⟨j, h1, h2, rfl⟩ := newOf r r' hn
        exact rootNew j r' h1 h2
      | none =>
        rw [hn] at hr
        cases ho : ofList out r with
        | some r' =>
          rw [ho] at hr
          simp only [Option.some.injEq] at hr
          subst hr
          obtain ⟨hc, r0, h1, h2, h3, h4, h5, h6⟩ := outInn r r' ho
          have hR := hl.roots r r' ho
          have hb : bor = [] := by
            rcases hk.share with hb | ⟨hb, _⟩
            · exact hb
            · rw [hb] at hc; simp at hc
          have hrv : rv' r = rv2 r := by
            rw [rvOld r (by rw [h1]; rfl)]
            exact hl.same r (by rw [hin1, if_pos hc, h1]; rfl)
          refine ⟨hR.dep, ?_, by rw [← hrv]; exact hR.full, fun b o c k1 k k2 k3 => ?_, by rw [← hrv]; exact hR.form⟩
          · rw [← hrv]
            refine hR.dr.agree (fun b o u hcv hu => ⟨?_, hu, rfl⟩) (fun K' hK => by rw [h6] at hK; simp at hK)
            cases hg : g' b o with
            | imm => exact immBack hb b o hg
            | hid => rw [hg] at hcv; simp [Cov] at hcv
            | own r2 q k =>
              rw [hg] at hcv
              have : r2 = r := hcv.1
              subst this
              exact innBack b o r2 q k hc hg
          · rw [← hrv] at k1
            obtain ⟨m1, m2, m3⟩ := hR.spare b o c k1 k k2 k3
            exact ⟨m1, innBack _ _ _ _ _ hc m2, m3⟩
        | none =>
          rw [ho] at hr
          have hr : ρ r = some root := hr
          have hR := h.roots r root hr
          have hc : inn.contains r = false := by
            cases hc : inn.contains r with
            | false => rfl
            | true =>
              have := hk.wrote r
              rw [ho, hin1, if_pos hc, hr] at this
              exact this.elim
          have hne : ∀ r' q k, inn.contains r' = true → ∀ q' k', Tag.own r q' k' ≠ Tag.own r' q k := by
            intro r' q k h1 q' k' e
            simp only [Tag.own.injEq] at e
            rw [e.1, h1] at hc; simp at hc
          refine ⟨hR.dep, ?_, by rw [rvOld r (by rw [hr]; rfl)]; exact hR.full, fun b o c k1 k k2 k3 => ?_, by rw [rvOld r (by rw [hr]; rfl)]; exact hR.form⟩
          · rw [rvOld r (by rw [hr]; rfl)]
            refine hR.dr.agree (fun b o u hcv hu => ?_) (fun K' hK => ⟨hK, ?_⟩)
            · obtain ⟨k1, k2⟩ := stay b o u (fun r' q k h1 e => by
                rw [e] at hcv
                have : r' = r := hcv.1
                subst this
                rw [h1] at hc; simp at hc) hu
              exact ⟨old b o (cellOf_lt hu), k1, k2⟩
            · obtain ⟨rk, hrk, _⟩ := h.held r root hr K' hK
              exact rvOld K' (by rw [hrk]; rfl)
          · rw [rvOld r (by rw [hr]; rfl)] at k1
            obtain ⟨m1, m2, m3⟩ := hR.spare b o c k1 k k2 k3
            obtain ⟨u, hu⟩ := Option.isSome_iff_exists.1 m1
            obtain ⟨n1, n2⟩ := stay b (o + k) u (fun r' q' k' h1 e => hne r' q' k' h1 _ _ (m2.symm.trans e)) hu
            exact ⟨by rw [n1]; rfl, by rw [old b (o + k) (cellOf_lt hu)]; exact m2, by rw [n2]; exact m3⟩
    · intro b o r q k hg
      rcases Nat.lt_or_ge b n with hb | hb
      · rw [old b o hb] at hg
        have := h.live b o r q k hg
        obtain ⟨root, hρ⟩ := Option.isSome_iff_exists.1 this
        obtain ⟨root2, k1, _⟩ := oldSome r root hρ
        rw [k1]; rfl
      · simp only [g2, after] at hg
        rw [if_neg (by omega)] at hg
        split at hg
        · rename_i r' q' k' hg'
          split at hg
          · rename_i hc
            simp only [Tag.own.injEq] at hg
            obtain ⟨rfl, -, -⟩ := hg
            obtain ⟨root, hρ⟩ := Option.isSome_iff_exists.1 (hin2 r' hc)
            obtain ⟨root2, k1, _⟩ := oldSome r' root hρ
            rw [k1]; rfl
          · rename_i hc
            split at hg
            · rename_i hr'
              simp only [Tag.own.injEq] at hg
              obtain ⟨rfl, -, -⟩ := hg
              rcases hl.live b o r' q' k' hg' with h1 | ⟨j, root, h1, h2⟩
              · obtain ⟨root, ho⟩ := Option.isSome_iff_exists.1 h1
                exact absurd (outInn r' root ho).1 hc
              · subst h2
                have hjm : j < m := by have := hr'.2; unfold RK at this; omega
                have : ofList (newUps K 0 res.parts) (K + (RK j - RK 0)) = some root := (newUps_eq K res.parts 0 _ root).2 ⟨j, h1, by unfold RK; omega⟩
                rw [ρ2eq, this]; rfl
            · simp at hg
        · rename_i hne
          exact absurd hg (hne _ _ _)
    · intro r root hr K' hK
      rw [ρ2eq] at hr
      cases hn : ofList (newUps K 0 res.parts) r with
      | some r' =>
        rw [hn] at hr
        simp only [Option.some.injEq] at hr
        subst hr
        obtain ⟨j, h1, h2, rfl⟩ := newOf r r' hn
        rw [(partR j r' h2).2.1] at hK; simp at hK
      | none =>
        rw [hn] at hr
        cases ho : ofList out r with
        | some r' =>
          rw [ho] at hr
          simp only [Option.some.injEq] at hr
          subst hr
          obtain ⟨_, _, _, _, _, _, _, h6⟩ := outInn r r' ho
          rw [h6] at hK; simp at hK
        | none =>
          rw [ho] at hr
          obtain ⟨rk, k1, k2⟩ := h.held r root hr K' hK
          obtain ⟨root2, m1, _, _, _, m5⟩ := oldSome K' rk k1
          exact ⟨root2, m1, by rw [m5]; exact k2⟩
  -- the result
  have part : ∀ j x c, j < m → res.parts[j]? = some x → ResR T g' w' rv' j x c → SR T g2 w' rv2 ρ2 (vvOf K j x) c ∧ Live ρ2 (vvOf K j x) := by
    intro j x c hj hx hr
    cases hr with
    | @v x u h1 h2 =>
      refine ⟨?_, fun r av hn => by obtain ⟨root, e, _⟩ := h2 r av hn; simp [noRoots] at e⟩
      simp only [vvOf]
      rcases hk.share with hb | ⟨_, hs⟩
      · exact h1.keep (fun b o u hi hu => ⟨immBack hb b o hi, hu, rfl⟩) h2 (fun r av hn => by obtain ⟨root, e, _⟩ := h2 r av hn; simp [noRoots] at e)
      · cases res with
        | v y =>
          have : x = y := by
            cases j with
            | zero => simpa [RV.parts] using hx.symm
            | succ j => simp [RV.parts] at hx
          subst this
          cases h1 <;> first | exact .int | exact .bool | exact .str | exact .con | exact .nils | simp [safe] at hs
        | own r => cases j <;> simp [RV.parts] at hx
        | tup l => simp [safe] at hs
    | @own root h1 h2 h3 =>
      refine ⟨.top fun root' _ _ => (rvNew2 j hj).symm, fun r av hn => ?_⟩
      simp only [vvOf] at hn
      cases hn
      have : ofList (newUps K 0 res.parts) (K + j) = some root := (newUps_eq K res.parts 0 _ root).2 ⟨j, hx, by omega⟩
      exact ⟨root, by rw [ρ2eq, this], Nat.le_refl _⟩
  refine ⟨g2, rv2, hRnew, ?_⟩
  have hv := hl.value
  cases res with
  | v x => exact part 0 (.v x) v (by simp [m, RV.parts]) rfl hv
  | own r => exact part 0 (.own r) v (by simp [m, RV.parts]) rfl hv
  | tup l =>
    simp only [ResAll] at hv
    obtain ⟨cs, rfl, h2, h3⟩ := hv
    simp only [vvAll]
    have hp : ∀ (j : Nat) y, (l.zipIdx.map fun (r, j) => vvOf K j r)[j]? = some y → ∃ x, l[j]? = some x ∧ y = vvOf K j x := by
      intro j y hy
      simp only [List.getElem?_map, List.getElem?_zipIdx] at hy
      cases hlj : l[j]? with
      | none => rw [hlj] at hy; simp at hy
      | some x =>
        rw [hlj] at hy
        simp only [Option.map_some, Nat.zero_add, Option.some.injEq] at hy
        exact ⟨x, rfl, hy.symm⟩
    have hlt : ∀ (j : Nat) x, l[j]? = some x → j < m := by
      intro j x hx
      simp only [m, RV.parts]
      rcases Nat.lt_or_ge j l.length with h' | h'
      · exact h'
      · rw [List.getElem?_eq_none h'] at hx; simp at hx
    constructor
    · refine .tup (by simp [h2]) fun j y c hy hc => ?_
      obtain ⟨x, hx, rfl⟩ := hp j y hy
      exact (part j x c (hlt j x hx) hx (h3 j x c hx hc)).1
    · intro r av hn
      cases hn with
      | tup hm hn' =>
        obtain ⟨j, hj⟩ := List.mem_iff_getElem?.1 hm
        obtain ⟨x, hx, rfl⟩ := hp j _ hj
        have hjm := hlt j x hx
        simp only [m, RV.parts] at hjm
        have := h3 j x cs[j] hx (by simp [show j < cs.size by omega])
        exact (part j x _ (hlt j x hx) hx this).2 r av hn'

end
end Go.VI

namespace Go.VI

/-- A truth that was laid open is read as any other. -/
def unb : VV → VV
  | .con (.bool b) => .bool b
  | x => x

/-- A struct told field by field. -/
def expD (T : Tab) : Nat → TypeId → D → D
  | 0, _, d => d
  | n + 1, t, d => match T.ty t with
    | some (.int _) => .int d.toInt
    | some .bool => .bool d.toBool
    | some .str => .str d.toStr
    | some (.slice _) => .list d.els
    | some (.struct fs) => .agg ((List.range fs.length).map fun j => expD T n (fs.getD j 0) (d.kid j))
    | _ => d

def expV (T : Tab) : VV → VV
  | .agg t d => .agg t (expD T 8 t d)
  | x => x

def opV (T : Tab) (o : Oper) (ev : Operand → VV) (ρ : Roots) (sup : Sup) : Option Res :=
  match o.op with
  | .move x => some { x := ev x }
  | .assign x => some { x := ev x }
  | .pick c x y => match ev c with
    | .con (.bool b) => some { x := if b then ev x else ev y }
    | _ => none
  | .alloc t => match sup with
    | .mem K dep => allocV T t K dep ρ
    | _ => none
  | .box t x => match sup with
    | .mem K _ => boxV T t (unb (ev x)) K ρ
    | _ => none
  | .build t ps => (buildV T t (ps.toList.map fun p => (p.1, unb (ev p.2)))).map fun x => { x }
  | .buildSlice t n ps => (buildSliceV T t n (ps.toList.map fun p => (p.1, unb (ev p.2)))).map fun x => { x }
  | .load t x => (loadV T t (ev x) ρ sup).map fun r => { x := expV T r.1, obs := r.2 }
  | .store t x y => storeV T t (ev x) (unb (ev y)) ρ
  | .binOp op t x y _ => (binV T op t (unb (ev x)) (unb (ev y))).map fun r => { x := r.1, obs := r.2 }
  | .unOp op _ x => (unV op (unb (ev x))).map fun x => { x }
  | .convert s d x => (convV T s d (ev x)).map fun x => { x }
  | .makeFunc (.func f) first caps => if first.size = 0 then some { x := .fn f (caps.toList.map ev) } else none
  | .makeSlice t l c => match sup with
    | .mem K dep => makeV T t (ev l) (ev c) K dep ρ
    | _ => none
  | .slice t x lo hi mx => (sliceV T t (ev x) (lo.map ev) (hi.map ev) (mx.map ev) ρ).map fun r => { x := r.1, obs := r.2 }
  | .fieldAddr s x f => (fieldAddrV T s (ev x) f ρ).map fun x => { x }
  | .field s x f => (fieldV T s (ev x) f).map fun x => { x }
  | .indexAddr t x i => (indexAddrV T t (ev x) (ev i) ρ).map fun r => { x := r.1, obs := r.2 }
  | .index t x i => (indexV T t (ev x) (ev i)).map fun r => { x := r.1, obs := r.2 }
  | .extract x i => (extractV (ev x) i).map fun x => { x }
  | .call c => match c.callee with
    | .builtin .len => match c.argTypes.toList, c.args.toList with
      | [t], [x] => (lenV T t (ev x) ρ).map fun x => { x }
      | _, _ => none
    | .builtin .max => match c.args.toList with
      | [x, y] => (mostV true (ev x) (ev y)).map fun x => { x }
      | _ => none
    | .builtin .min => match c.args.toList with
      | [x, y] => (mostV false (ev x) (ev y)).map fun x => { x }
      | _ => none
    | .builtin .append => match c.argTypes.toList, c.args.toList with
      | [t, t2], [x, y] => match sup with
        | .mem K _ => appendV T t t2 (ev x) (ev y) K ρ
        | _ => none
      | _, _ => none
    | .builtin .copy => match c.argTypes.toList, c.args.toList with
      | [t, t2], [x, y] => copyV T t t2 (ev x) (ev y) ρ
      | _, _ => none
    | _ => none
  | _ => none

section
variable {P : Program} {T : Tab} (hT : TabOK P T) {C : Ctx} {g : Tags} {w : World} {rv : Nat → Value} {ρ : Roots} {sl : List VV} {a : Act}

theorem unb_sr {x : VV} {v : Value} (h : SR T g w rv ρ x v) : SR T g w rv ρ (unb x) v := by
  unfold unb
  split
  · cases h; exact .bool
  · exact h

theorem expD_dr : ∀ (n : Nat) {t : TypeId} {d : D} {vs : List Value}, DR T g w rv imms .imm (.val t) d vs → DR T g w rv imms .imm (.val t) (expD T n t d) vs
  | 0, t, d, vs, h => h
  | n + 1, t, d, vs, h => by
    unfold expD
    split
    · rename_i k ht; rw [h.int_inv ht]; exact .int (d := .int d.toInt) ht
    · rename_i ht; rw [h.bool_inv ht]; exact .bool (d := .bool d.toBool) ht
    · rename_i ht; rw [h.str_inv ht]; exact .str (d := .str d.toStr) ht
    · rename_i e ht
      have hk : ∀ K, d ≠ .key K := by intro K e; subst e; exact (h.key_inv ht).2.elim
      have h1 := h.slice_inv ht hk
      obtain ⟨A, c, b, o, us, h3, h4, h5, h6, h7, h8⟩ := h1.node_inv
      subst h3
      exact .sl ht (fun K h => by cases h) (DR.node (d := .list d.els) A c b o us h4 h5 h6 h7 h8)
    · rename_i fs ht
      obtain ⟨us, rfl, hrec⟩ := h.struct_inv ht
      refine .struct us ht fun j hj => ?_
      have e : (D.agg ((List.range fs.length).map fun j => expD T n (fs.getD j 0) (d.kid j))).kid j = expD T n (fs.getD j 0) (d.kid j) := by
        simp [D.kid, List.getD_eq_getElem?_getD, hj]
      rw [e]
      exact expD_dr n (hrec j hj)
    · exact h

theorem expV_sr {x : VV} {v : Value} (h : SR T g w rv ρ x v) : SR T g w rv ρ (expV T x) v := by
  unfold expV
  split
  · cases h with
    | agg h1 h2 => exact .agg h1 (expD_dr 8 h2)
  · exact h

theorem expV_live {x : VV} (h : Live ρ x) : Live ρ (expV T x) := by
  unfold expV
  split
  · intro r av hn; cases hn
  · exact h

theorem unb_live {x : VV} (h : Live ρ x) : Live ρ (unb x) := by
  unfold unb
  split
  · intro r av hn; cases hn
  · exact h

theorem R.parts (h : R T C g w rv ρ sl a) : ∀ ps : List (Nat × Operand), Parts T g w rv ρ (ps.map fun (i, x) => (i, a.eval x)) (ps.map fun p => (p.1, unb (sval sl p.2)))
  | [] => .nil
  | (i, x) :: ps => .cons (unb_sr (h.eval x).1) (R.parts h ps)

def Done (P : Program) (T : Tab) (C : Ctx) (ρ : Roots) (sl : List VV) (a : Act) (res : Res) (r : Result Next) : Prop :=
  ∃ v w' g' rv', (r = .ok (.value v) w' ∨ (r = .ok .skip w' ∧ v = undef)) ∧ R T C g' w' rv' (ups ρ res.ups) sl a ∧ SR T g' w' rv' (ups ρ res.ups) res.x v ∧ Live (ups ρ res.ups) res.x

theorem Done.plain (h : R T C g w rv ρ sl a) {s : Sem Value} {x : VV} {obs : List Prop} {v : Value} (hr : s.run P w = .ok v w) (hx : SR T g w rv ρ x v) (hl : Live ρ x) :
    Done P T C ρ sl a { x, obs } ((do pure (.value (← s)) : Sem Next).run P w) :=
  ⟨v, w, g, rv, .inl (by simp [hr]), h, hx, hl⟩

theorem Done.mem {s : Sem Value} {res : Res} {v : Value} {w' : World} {g' : Tags} {rv' : Nat → Value} (hr : s.run P w = .ok v w') (h : R T C g' w' rv' (ups ρ res.ups) sl a)
    (hx : SR T g' w' rv' (ups ρ res.ups) res.x v) (hl : Live (ups ρ res.ups) res.x) :
    Done P T C ρ sl a res ((do pure (.value (← s)) : Sem Next).run P w) :=
  ⟨v, w', g', rv', .inl (by simp [hr]), h, hx, hl⟩

theorem live_of_none {x : VV} (h : ∀ r av, ¬ Names r av x) : Live ρ x := fun r av hn => absurd hn (h r av)

include hT in
theorem opV_sound (hz : ∀ t, (T.ty t).isSome → 0 < T.sz t) (h : R T C g w rv ρ sl a) (o : Oper) {sup : Sup} {res : Res} (hv : opV T o (sval sl) ρ sup = some res) (ho : ∀ p ∈ res.obs, p) :
    Done P T C ρ sl a res ((execOp a.eval o).run P w) := by
  unfold opV at hv
  split at hv
  · rename_i x hop
    simp only [Option.some.injEq] at hv; subst hv
    exact ⟨_, w, g, rv, .inl (by simp only [execOp, hop]; rfl), h, (h.eval x).1, (h.eval x).2⟩
  · rename_i x hop
    simp only [Option.some.injEq] at hv; subst hv
    exact ⟨_, w, g, rv, .inl (by simp only [execOp, hop]; rfl), h, (h.eval x).1, (h.eval x).2⟩
  · rename_i c x y hop
    split at hv
    · rename_i b hc
      simp only [Option.some.injEq] at hv; subst hv
      have hec := (h.eval c).1
      rw [hc] at hec
      have he : a.eval c = .bool b := by generalize a.eval c = u at hec; cases hec; rfl
      refine ⟨_, w, g, rv, .inl (by simp only [execOp, hop, he]; rfl), h, ?_, ?_⟩
      · cases b
        · exact (h.eval y).1
        · exact (h.eval x).1
      · cases b
        · exact (h.eval y).2
        · exact (h.eval x).2
    · simp at hv
  · rename_i t hop
    split at hv
    · rename_i K dep
      obtain ⟨v, w', g', rv', h1, h2, h3, h4⟩ := allocV_sound hT h hv
      simp only [execOp, hop]
      exact .mem h1 h2 h3 h4
    · simp at hv
  · rename_i t x hop
    split at hv
    · rename_i K dep
      obtain ⟨v, w', g', rv', h1, h2, h3, h4⟩ := boxV_sound hT h (unb_sr (h.eval x).1) hv
      simp only [execOp, hop]
      exact .mem h1 h2 h3 h4
    · simp at hv
  · rename_i t ps hop
    cases hb : buildV T t (ps.toList.map fun p => (p.1, unb (sval sl p.2))) with
    | none => rw [hb] at hv; simp at hv
    | some z =>
      rw [hb] at hv
      simp only [Option.map_some, Option.some.injEq] at hv; subst hv
      obtain ⟨v, h1, h2, h3⟩ := buildV_sound hT (ps := ps.map fun (i, x) => (i, a.eval x)) (by simpa using h.parts ps.toList) hb
      simp only [execOp, hop]
      exact .plain h h1 h2 h3
  · rename_i t n ps hop
    cases hb : buildSliceV T t n (ps.toList.map fun p => (p.1, unb (sval sl p.2))) with
    | none => rw [hb] at hv; simp at hv
    | some z =>
      rw [hb] at hv
      simp only [Option.map_some, Option.some.injEq] at hv; subst hv
      obtain ⟨v, w', g', h1, h2, h3, h4⟩ := buildSliceV_sound hT h (ps := ps.map fun (i, x) => (i, a.eval x)) (by simpa using h.parts ps.toList) hb
      simp only [execOp, hop]
      exact .mem (res := { x := z }) h1 h2 h3 (live_of_none h4)
  · rename_i t x hop
    cases hb : loadV T t (sval sl x) ρ sup with
    | none => rw [hb] at hv; simp at hv
    | some r =>
      rw [hb] at hv
      simp only [Option.map_some, Option.some.injEq] at hv; subst hv
      obtain ⟨v, h1, h2, h3⟩ := loadV_sound hT h.roots (h.eval x).1 (z := r.1) (obs := r.2) hb ho
      simp only [execOp, hop]
      exact .plain h h1 (expV_sr h2) (expV_live h3)
  · rename_i t x y hop
    obtain ⟨w', h1, h2, h3⟩ := storeV_sound hT hz h (h.eval x).1 (unb_sr (h.eval y).1) hv ho
    simp only [execOp, hop]
    exact ⟨undef, w', g, rv, .inr ⟨by simp [h1], rfl⟩, h2, by rw [h3]; exact .dead, by rw [h3]; intro r av hn; cases hn⟩
  · rename_i op t x y yt hop
    cases hb : binV T op t (unb (sval sl x)) (unb (sval sl y)) with
    | none => rw [hb] at hv; simp at hv
    | some r =>
      rw [hb] at hv
      simp only [Option.map_some, Option.some.injEq] at hv; subst hv
      obtain ⟨v, h1, h2, h3⟩ := binV_sound hT (ox := x) (oy := y) (unb_sr (h.eval x).1) (unb_sr (h.eval y).1) (z := r.1) (obs := r.2) hb ho
      simp only [execOp, hop]
      exact .plain h h1 h2 (live_of_none h3)
  · rename_i op t x hop
    cases hb : unV op (unb (sval sl x)) with
    | none => rw [hb] at hv; simp at hv
    | some z =>
      rw [hb] at hv
      simp only [Option.map_some, Option.some.injEq] at hv; subst hv
      obtain ⟨v, h1, h2, h3⟩ := unV_sound (P := P) (unb_sr (h.eval x).1) hb
      simp only [execOp, hop]
      exact .plain h h1 h2 (live_of_none h3)
  · rename_i s d x hop
    cases hb : convV T s d (sval sl x) with
    | none => rw [hb] at hv; simp at hv
    | some z =>
      rw [hb] at hv
      simp only [Option.map_some, Option.some.injEq] at hv; subst hv
      obtain ⟨v, h1, h2, h3⟩ := convV_sound hT (h.eval x).1 hb
      simp only [execOp, hop]
      exact .plain h h1 h2 h3
  · rename_i f first caps hop
    split at hv
    · rename_i hf
      simp only [Option.some.injEq] at hv; subst hv
      have hf0 : first = #[] := by simpa using hf
      subst hf0
      refine ⟨.func (.func f) #[] (caps.map a.eval), w, g, rv, .inl (by simp only [execOp, hop]; simp [Instr.makeFunc]), h, ?_, ?_⟩
      · refine .fn (by simp) fun i x v hx hu => ?_
        simp only [List.getElem?_map, Array.getElem?_map, Option.map_eq_some_iff] at hx hu
        obtain ⟨y, hy, rfl⟩ := hx
        obtain ⟨y', hy', rfl⟩ := hu
        have : y = y' := by
          have hy2 : caps[i]? = some y := by simpa using hy
          rw [hy2] at hy'; simpa using hy'
        subst this
        exact (h.eval y).1
      · intro r av hn
        cases hn with
        | fn hm hn =>
          obtain ⟨y, _, rfl⟩ := List.mem_map.1 hm
          exact (h.eval y).2 r av hn
    · simp at hv
  · rename_i t l c hop
    split at hv
    · rename_i K dep
      obtain ⟨v, w', g', rv', h1, h2, h3, h4⟩ := makeV_sound hT h (h.eval l).1 (h.eval c).1 hv ho
      simp only [execOp, hop]
      exact .mem h1 h2 h3 h4
    · simp at hv
  · rename_i t x lo hi mx hop
    have opt : ∀ y : Option Operand, (y.map (sval sl) = none ∧ y.map a.eval = none) ∨ ∃ x u, y.map (sval sl) = some x ∧ y.map a.eval = some u ∧ SR T g w rv ρ x u := by
      intro y
      cases y with
      | none => exact .inl ⟨rfl, rfl⟩
      | some y => exact .inr ⟨_, _, rfl, rfl, (h.eval y).1⟩
    cases hb : sliceV T t (sval sl x) (lo.map (sval sl)) (hi.map (sval sl)) (mx.map (sval sl)) ρ with
    | none => rw [hb] at hv; simp at hv
    | some r =>
      rw [hb] at hv
      simp only [Option.map_some, Option.some.injEq] at hv; subst hv
      obtain ⟨v, h1, h2, h3⟩ := sliceV_sound hT h.roots (h.eval x).1 (opt lo) (opt hi) (opt mx) (z := r.1) (obs := r.2) hb ho
      simp only [execOp, hop]
      exact .plain h h1 h2 h3
  · rename_i s x f hop
    cases hb : fieldAddrV T s (sval sl x) f ρ with
    | none => rw [hb] at hv; simp at hv
    | some z =>
      rw [hb] at hv
      simp only [Option.map_some, Option.some.injEq] at hv; subst hv
      obtain ⟨v, h1, h2, h3⟩ := fieldAddrV_sound hT hz (h.eval x).1 hb
      simp only [execOp, hop]
      exact .plain h h1 h2 h3
  · rename_i s x f hop
    cases hb : fieldV T s (sval sl x) f with
    | none => rw [hb] at hv; simp at hv
    | some z =>
      rw [hb] at hv
      simp only [Option.map_some, Option.some.injEq] at hv; subst hv
      obtain ⟨v, h1, h2, h3⟩ := fieldV_sound (ρ := ρ) hT (h.eval x).1 hb
      simp only [execOp, hop]
      exact .plain h h1 h2 h3
  · rename_i t x i hop
    cases hb : indexAddrV T t (sval sl x) (sval sl i) ρ with
    | none => rw [hb] at hv; simp at hv
    | some r =>
      rw [hb] at hv
      simp only [Option.map_some, Option.some.injEq] at hv; subst hv
      obtain ⟨v, h1, h2, h3⟩ := indexAddrV_sound hT h.roots (h.eval x).1 (h.eval i).1 (z := r.1) (obs := r.2) hb ho
      simp only [execOp, hop]
      exact .plain h h1 h2 h3
  · rename_i t x i hop
    cases hb : indexV T t (sval sl x) (sval sl i) with
    | none => rw [hb] at hv; simp at hv
    | some r =>
      rw [hb] at hv
      simp only [Option.map_some, Option.some.injEq] at hv; subst hv
      obtain ⟨v, h1, h2, h3⟩ := indexV_sound hT (h.eval x).1 (h.eval i).1 (z := r.1) (obs := r.2) hb ho
      simp only [execOp, hop]
      exact .plain h h1 h2 h3
  · rename_i x i hop
    cases hb : extractV (sval sl x) i with
    | none => rw [hb] at hv; simp at hv
    | some z =>
      rw [hb] at hv
      simp only [Option.map_some, Option.some.injEq] at hv; subst hv
      obtain ⟨v, h1, h2, h3⟩ := extractV_sound (P := P) (h.eval x).1 (h.eval x).2 hb
      simp only [execOp, hop]
      exact .plain h h1 h2 h3
  · rename_i c hop
    obtain ⟨callee, args, argTypes⟩ := c
    have hc : ∀ b, callee = .builtin b → ∃ cs, (execOp a.eval o).run P w = (builtin b argTypes o.type cs (args.map a.eval)).run P w := by
      intro b hb
      subst hb
      exact ⟨_, by simp only [execOp, hop, resolve, invoke, Sem.run_bind, Sem.run_pure, Result.andThen_ok]; rfl⟩
    simp only at hv
    split at hv
    · obtain ⟨cs, hcs⟩ := hc _ rfl
      rw [hcs]
      split at hv
      · rename_i t x h1 h2
        have e1 : argTypes = #[t] := by apply Array.toList_inj.1; simpa using h1
        have e2 : args = #[x] := by apply Array.toList_inj.1; simpa using h2
        subst e1 e2
        cases hb : lenV T t (sval sl x) ρ with
        | none => rw [hb] at hv; simp at hv
        | some z =>
          rw [hb] at hv
          simp only [Option.map_some, Option.some.injEq] at hv; subst hv
          obtain ⟨v, h1, h2, h3⟩ := lenV_sound (ty := o.type) hT h.roots (h.eval x).1 hb
          simp only [builtin, List.map_toArray, List.map_cons, List.map_nil]
          exact .plain h h1 h2 h3
      · simp at hv
    · obtain ⟨cs, hcs⟩ := hc _ rfl
      rw [hcs]
      split at hv
      · rename_i x y h2
        have e2 : args = #[x, y] := by apply Array.toList_inj.1; simpa using h2
        subst e2
        cases hb : mostV true (sval sl x) (sval sl y) with
        | none => rw [hb] at hv; simp at hv
        | some z =>
          rw [hb] at hv
          simp only [Option.map_some, Option.some.injEq] at hv; subst hv
          obtain ⟨v, h1, h2, h3⟩ := mostV_sound (P := P) (ats := argTypes) (ty := o.type) (h.eval x).1 (h.eval y).1 hb
          simp only [builtin, List.map_toArray, List.map_cons, List.map_nil]
          exact .plain h h1 h2 h3
      · simp at hv
    · obtain ⟨cs, hcs⟩ := hc _ rfl
      rw [hcs]
      split at hv
      · rename_i x y h2
        have e2 : args = #[x, y] := by apply Array.toList_inj.1; simpa using h2
        subst e2
        cases hb : mostV false (sval sl x) (sval sl y) with
        | none => rw [hb] at hv; simp at hv
        | some z =>
          rw [hb] at hv
          simp only [Option.map_some, Option.some.injEq] at hv; subst hv
          obtain ⟨v, h1, h2, h3⟩ := mostV_sound (P := P) (ats := argTypes) (ty := o.type) (h.eval x).1 (h.eval y).1 hb
          simp only [builtin, List.map_toArray, List.map_cons, List.map_nil]
          exact .plain h h1 h2 h3
      · simp at hv
    · obtain ⟨cs, hcs⟩ := hc _ rfl
      rw [hcs]
      split at hv
      · rename_i t t2 x y h1 h2
        have e1 : argTypes = #[t, t2] := by apply Array.toList_inj.1; simpa using h1
        have e2 : args = #[x, y] := by apply Array.toList_inj.1; simpa using h2
        subst e1 e2
        split at hv
        · rename_i K dep
          obtain ⟨v, w', g', rv', h1, h2, h3, h4⟩ := appendV_sound (ty := o.type) hT h (h.eval x).1 (h.eval y).1 hv ho
          simp only [builtin, List.map_toArray, List.map_cons, List.map_nil]
          exact .mem h1 h2 h3 h4
        · simp at hv
      · simp at hv
    · obtain ⟨cs, hcs⟩ := hc _ rfl
      rw [hcs]
      split at hv
      · rename_i t t2 x y h1 h2
        have e1 : argTypes = #[t, t2] := by apply Array.toList_inj.1; simpa using h1
        have e2 : args = #[x, y] := by apply Array.toList_inj.1; simpa using h2
        subst e1 e2
        obtain ⟨v, w', h1, h2, h3, h4⟩ := copyV_sound (ty := o.type) hT h (h.eval x).1 (h.eval y).1 hv
        simp only [builtin, List.map_toArray, List.map_cons, List.map_nil]
        exact .mem h1 h2 h3 h4
      · simp at hv
    · simp at hv
  · simp at hv

end
end Go.VI

namespace Go.VI

def outV : List (Nat × Root) → List (Nat × Root) → Option (List Prop)
  | [], [] => some []
  | (k, x) :: l, (k', y) :: l' =>
    if k = k' ∧ y.e = x.e ∧ y.av = x.av ∧ y.held = x.held ∧ x.keys.isEmpty = true ∧ y.keys.isEmpty = true then (outV l l').map ((y.els.length = x.els.length) :: ·) else none
  | _, _ => none

def callV (P : Program) (T : Tab) (c : Call) (ev : Operand → VV) (ρ : Roots) (sup : Sup) : Option Res :=
  match c.callee, sup with
  | .value fo, .call K res inn out =>
    match ev fo with
    | .fn f caps =>
      match argsV T inn ρ c.argTypes.toList ((c.args.toList.map fun x => unb (ev x)) ++ caps), innRoots ρ inn with
      | some (ys, bor), some rin =>
        match outV rin out with
        | some obs =>
          if (inn.all fun r => r < RK 0) && (bor.isEmpty || (inn.isEmpty && safe T res)) && ((List.range res.parts.length).all fun j => (ρ (K + j)).isNone) then
            some { x := vvAll K res, ups := out ++ newUps K 0 res.parts, obs := Ok P T f ys rin res out :: obs }
          else none
        | none => none
      | _, _ => none
    | _ => none
  | _, _ => none

section
variable {P : Program} {T : Tab} (hT : TabOK P T) {C : Ctx} {g : Tags} {w : World} {rv : Nat → Value} {ρ : Roots} {sl : List VV} {a : Act}

theorem outV_keys : ∀ (l l' : List (Nat × Root)) (obs : List Prop), outV l l' = some obs → ∀ r root, ofList l r = some root → root.keys = []
  | [], [], obs, h, r, root, hr => by simp [ofList, ups, noRoots] at hr
  | (k, x) :: l, (k', y) :: l', obs, h, r, root, hr => by
    simp only [outV] at h
    split at h
    · rename_i hc
      cases ho : outV l l' with
      | none => rw [ho] at h; simp at h
      | some obs' =>
        rw [ofList_cons] at hr
        split at hr
        · rename_i r' hr'
          simp only [Option.some.injEq] at hr; subst hr
          exact outV_keys l l' obs' ho r _ hr'
        · split at hr
          · simp only [Option.some.injEq] at hr; subst hr
            simpa using hc.2.2.2.2.1
          · simp at hr
    · simp at h
  | [], _ :: _, obs, h, r, root, hr => by simp [outV] at h
  | _ :: _, [], obs, h, r, root, hr => by simp [outV] at h

theorem outV_ok : ∀ (l l' : List (Nat × Root)) (obs : List Prop), outV l l' = some obs → (∀ p ∈ obs, p) → OutOK (ofList l) (ofList l')
  | [], [], obs, h, _ => by intro r; simp [ofList, ups, noRoots]
  | (k, x) :: l, (k', y) :: l', obs, h, hp => by
    simp only [outV] at h
    split at h
    · rename_i hc
      cases ho : outV l l' with
      | none => rw [ho] at h; simp at h
      | some obs' =>
        rw [ho] at h
        simp only [Option.map_some, Option.some.injEq] at h; subst h
        obtain ⟨h1, h2⟩ := all_cons hp
        have ih := outV_ok l l' obs' ho h2
        obtain ⟨c1, c2, c3, c4, c5, c6⟩ := hc
        subst c1
        intro r
        have := ih r
        rw [ofList_cons, ofList_cons]
        cases e1 : ofList l r with
        | some u =>
          cases e2 : ofList l' r with
          | some v => rw [e1, e2] at this; exact this
          | none => rw [e1, e2] at this; exact this.elim
        | none =>
          cases e2 : ofList l' r with
          | some v => rw [e1, e2] at this; exact this.elim
          | none =>
            by_cases hk : r = k
            · simp only [if_pos hk]; exact ⟨c2, h1, c3, c4, by simpa using c6⟩
            · simp only [if_neg hk]
    · simp at h
  | [], _ :: _, obs, h, _ => by simp [outV] at h
  | _ :: _, [], obs, h, _ => by simp [outV] at h

theorem seen_root {r : Nat} {root : Root} (hR : RootR T g w rv r root) {inn bor : List Nat} (hc : inn.contains r = true) (hk : root.keys = []) : RootR T (seen g inn bor) w rv r root := by
  have own : ∀ b o q k, g b o = .own r q k → seen g inn bor b o = .own r q k := fun b o q k h => by simp only [seen, h, hc, if_true]
  refine ⟨hR.dep, ?_, hR.full, fun b o c h1 k h2 h3 => ?_, hR.form⟩
  · refine hR.dr.agree (fun b o v hcv hv => ⟨?_, hv, rfl⟩) (fun K hK => by rw [hk] at hK; simp at hK)
    cases hg : g b o with
    | imm => exact seen_imm hg
    | hid => rw [hg] at hcv; simp [Cov] at hcv
    | own r' q k =>
      rw [hg] at hcv
      have : r' = r := hcv.1
      subst this
      exact own b o q k hg
  · obtain ⟨k1, k2, k3⟩ := hR.spare b o c h1 k h2 h3
    exact ⟨k1, own _ _ _ _ k2, k3⟩

theorem callV_sound (h : R T C g w rv ρ sl a) (o : Oper) {c : Call} (hop : o.op = .call c) {sup : Sup} {res : Res} (hv : callV P T c (sval sl) ρ sup = some res) (ho : ∀ p ∈ res.obs, p) :
    ∃ f args, (execOp a.eval o).run P w = .ok (.enter f args) w ∧ Calls P f args w fun e w' => ∃ v g' rv', e = .returned v ∧
      R T C g' w' rv' (ups ρ res.ups) sl a ∧ SR T g' w' rv' (ups ρ res.ups) res.x v ∧ Live (ups ρ res.ups) res.x := by
  obtain ⟨callee, args, argTypes⟩ := c
  unfold callV at hv
  split at hv
  · rename_i fo K rs inn out hcal
    simp only at hcal
    subst hcal
    split at hv
    · rename_i f caps hf
      split at hv
      · rename_i ys bor rin h1 h2
        split at hv
        · rename_i obs h3
          split at hv
          · rename_i hc
            simp only [Option.some.injEq] at hv; subst hv
            obtain ⟨hok, hobs⟩ := all_cons ho
            simp only [Bool.and_eq_true, Bool.or_eq_true] at hc
            obtain ⟨⟨c1, c2⟩, c3⟩ := hc
            obtain ⟨i1, i2⟩ := innRoots_eq inn rin h2
            have hfe := h.eval fo
            rw [hf] at hfe
            obtain ⟨hfs, hfl⟩ := hfe
            generalize hfv : a.eval fo = fv at hfs
            cases hfs with
            | @fn _ _ cs hcl hcs =>
              obtain ⟨⟨fn, e1, e2, e3⟩, hok⟩ := hok
              have hrun : (execOp a.eval o).run P w = .ok (.enter f (args.map a.eval ++ cs)) w := by
                simp only [execOp, hop, resolve, hfv, Deferred.ofValue, Sem.run_bind, Sem.run_pure, Result.andThen_ok, invoke, callFunc, run_program]
                simp only [e1, e2, e3, Bool.false_eq_true, if_false, Sem.run_pure]
                simp
              refine ⟨f, _, hrun, ?_⟩
              have key := argsV_sound h.roots (inn := inn) (bor := bor) (ρ' := ofList rin) (fun r hr => by rw [i1, if_pos hr]) _ _ _ _ (args.map a.eval ++ cs).toList h1
                (by simp [hcl]) (fun i x v hx hv => by
                  simp only [Array.toList_append, Array.toList_map] at hv
                  rcases Nat.lt_or_ge i args.toList.length with hi | hi
                  · rw [List.getElem?_append_left (by simpa using hi)] at hx hv
                    simp only [List.getElem?_map, Option.map_eq_some_iff] at hx hv
                    obtain ⟨y, hy, rfl⟩ := hx
                    obtain ⟨y', hy', rfl⟩ := hv
                    rw [hy] at hy'
                    simp only [Option.some.injEq] at hy'; subst hy'
                    exact unb_sr (h.eval y).1
                  · rw [List.getElem?_append_right (by simpa using hi)] at hx hv
                    simp only [List.length_map] at hx hv
                    exact hcs _ x v hx (by simpa using hv)) (fun x hx => by
                  simp only [List.mem_append, List.mem_map] at hx
                  rcases hx with ⟨y, _, rfl⟩ | hx
                  · exact unb_live (h.eval y).2
                  · exact fun r av hn => hfl r av (.fn hx hn)) (fun r hr => by simpa using hr)
              obtain ⟨k1, k2, k3⟩ := key
              have hkeys := outV_keys rin out obs h3
              have hready : Ready T (seen g inn bor) w rv rin ys (args.map a.eval ++ cs) := by
                refine ⟨by simpa using k1, fun i x v hx hv => k2 i x v hx (by rw [Array.getElem?_toList]; exact hv), k3, fun r root hr => ?_, fun b o r q k hg => ?_⟩
                · have hr' := hr
                  rw [i1] at hr'
                  split at hr'
                  · rename_i hc'
                    exact seen_root (h.roots r root hr') hc' (hkeys r root hr)
                  · simp at hr'
                · simp only [seen] at hg
                  split at hg
                  · rename_i r' q' k' hg'
                    split at hg
                    · rename_i hc'
                      simp only [Tag.own.injEq] at hg
                      obtain ⟨rfl, -, -⟩ := hg
                      rw [i1, if_pos hc']; exact i2 _ hc'
                    · split at hg <;> simp at hg
                  · rename_i hne
                    exact absurd hg (hne _ _ _)
              refine Calls.mono (hok w (seen g inn bor) rv _ hready) fun e w' ⟨v, g', rv', he, hl⟩ => ?_
              have hk : CallOK T ρ inn bor rin out rs K := by
                refine ⟨h2, fun r hr => ?_, ?_, outV_ok rin out obs h3 hobs, fun j hj => ?_, hkeys⟩
                · rw [List.all_eq_true] at c1
                  simpa using c1 r (by simpa using hr)
                · rcases c2 with c2 | c2
                  · exact .inl (by simpa using c2)
                  · exact .inr ⟨by simpa using c2.1, c2.2⟩
                · rw [List.all_eq_true] at c3
                  simpa using c3 j (by simpa using hj)
              obtain ⟨g2, rv2, m1, m2, m3⟩ := h.call hk hl
              exact ⟨v, g2, rv2, he, m1, m2, m3⟩
          · simp at hv
        · simp at hv
      · simp at hv
    · simp at hv
  · simp at hv

end
end Go.VI

namespace Go.VI

/-- A call under way: its function, the world as it began, what it was given and what it must leave. -/
structure Job where
  f : FuncId
  w0 : World
  g0 : Tags
  rv0 : Nat → Value
  hdr : Nat → Option (Nat × Value)
  inn : List (Nat × Root)
  res : RV
  out : List (Nat × Root)

def Job.C (J : Job) : Ctx := { w0 := J.w0, g0 := J.g0, hdr := J.hdr }

section
variable (P : Program) (T : Tab) (J : Job)

/-- From this machine on the call comes to its end, as its contract says. -/
def Reach (m : Machine) (cs : List Frame) : Prop :=
  ∃ v w' g' rv' fr, Left T J.g0 J.w0 J.rv0 g' w' rv' J.inn J.out J.res v ∧ Steps P m (lone fr cs w') ∧ fr.fn = J.f ∧ fr.leaving P w' (.returned v)

def Fin (todo : List Item) (ρ : Roots) (sl : List VV) : Prop :=
  ∀ g w rv a, R T J.C g w rv ρ sl a → ∀ (b : Frame) (cs : List Frame), b.fn = J.f → b.kind = .normal → Reach P T J (lone (b.at a todo) cs w) cs

def After (k : List Item) (e : Exit) (a : Act) (w : World) : Prop :=
  e = .normal ∧ ∀ (b : Frame) (cs : List Frame), b.fn = J.f → b.kind = .normal → Reach P T J (lone (b.at a k) cs w) cs

def FinOps (ops : Array Oper) (l : List Nat) (k : List Item) (ρ : Roots) (sl : List VV) : Prop :=
  ∀ g w rv a, R T J.C g w rv ρ sl a → wpOps P ops (After P T J k) l a w
end

def stepV (P : Program) (T : Tab) (o : Oper) (ev : Operand → VV) (ρ : Roots) (sup : Sup) : Option Res :=
  match opV T o ev ρ sup with
  | some r => some r
  | none => match o.op with
    | .call c => callV P T c ev ρ sup
    | _ => none

section
variable {P : Program} {T : Tab} (hT : TabOK P T) (hz : ∀ t, (T.ty t).isSome → 0 < T.sz t) {J : Job} {k : List Item} {ρ : Roots} {sl : List VV}

theorem Reach.of_steps {m m1 : Machine} {cs : List Frame} (h : Steps P m m1) (h' : Reach P T J m1 cs) : Reach P T J m cs := by
  obtain ⟨v, w', g', rv', fr, h1, h2, h3⟩ := h'
  exact ⟨v, w', g', rv', fr, h1, h.trans h2, h3⟩

theorem Fin.skip (h : Fin P T J k ρ sl) : Fin P T J (.code .skip :: k) ρ sl :=
  fun g w rv a hR b cs hb hk => .of_steps (.one step_skip) (h g w rv a hR b cs hb hk)

theorem Fin.label {l : Nat} (h : Fin P T J k ρ sl) : Fin P T J (.code (.label l) :: k) ρ sl :=
  fun g w rv a hR b cs hb hk => .of_steps (.one step_label) (h g w rv a hR b cs hb hk)

theorem Fin.scope {c : Code} (h : Fin P T J (.code c :: .inScope c :: k) ρ sl) : Fin P T J (.code (.scope c) :: k) ρ sl :=
  fun g w rv a hR b cs hb hk => .of_steps (.one step_scope) (h g w rv a hR b cs hb hk)

theorem Fin.inScope {c : Code} (h : Fin P T J k ρ sl) : Fin P T J (.inScope c :: k) ρ sl :=
  fun g w rv a hR b cs hb hk => .of_steps (.one step_inScope) (h g w rv a hR b cs hb hk)

theorem Fin.goto {l : Nat} {k' : List Item} (he : gotoIn l k = some k') (h : Fin P T J k' ρ sl) : Fin P T J (.code (.goto l) :: k) ρ sl :=
  fun g w rv a hR b cs hb hk => .of_steps (.one (step_goto he)) (h g w rv a hR b cs hb hk)

theorem Fin.inBlock {i : Nat} (h : Fin P T J k ρ sl) : Fin P T J (.inBlock i :: k) ρ sl :=
  fun g w rv a hR b cs hb hk => .of_steps (.one step_inBlock) (h g w rv a hR b cs hb hk)

theorem Fin.seq {x y : Code} (h : Fin P T J (.code x :: .code y :: k) ρ sl) : Fin P T J (.code (.seq x y) :: k) ρ sl :=
  fun g w rv a hR b cs hb hk => .of_steps (.one step_seq) (h g w rv a hR b cs hb hk)

theorem Fin.block {i : Nat} {c : Code} (h : Fin P T J (.code c :: .inBlock i :: k) ρ sl) : Fin P T J (.code (.block i c) :: k) ρ sl :=
  fun g w rv a hR b cs hb hk => .of_steps (.one step_block) (h g w rv a hR b cs hb hk)

theorem Fin.loop {c : Code} (h : Fin P T J (.code c :: .inLoop c :: k) ρ sl) : Fin P T J (.code (.loop c) :: k) ρ sl :=
  fun g w rv a hR b cs hb hk => .of_steps (.one step_loop) (h g w rv a hR b cs hb hk)

theorem Fin.inLoop {c : Code} (h : Fin P T J (.code c :: .inLoop c :: k) ρ sl) : Fin P T J (.inLoop c :: k) ρ sl :=
  fun g w rv a hR b cs hb hk => .of_steps (.one step_inLoop) (h g w rv a hR b cs hb hk)

theorem Fin.exit {i : Nat} {k' : List Item} (he : exitTo i k = some k') (h : Fin P T J k' ρ sl) : Fin P T J (.code (.exit i) :: k) ρ sl :=
  fun g w rv a hR b cs hb hk => .of_steps (.one (step_exit he)) (h g w rv a hR b cs hb hk)

theorem bool_of {g : Tags} {w : World} {rv : Nat → Value} {a : Act} (hR : R T J.C g w rv ρ sl a) {c : Operand} {b : Bool} (hc : unb (sval sl c) = .bool b) : a.eval c = .bool b := by
  have := unb_sr (hR.eval c).1
  rw [hc] at this
  generalize a.eval c = v at this
  cases this; rfl

theorem Fin.cond {c : Operand} {x y : Code} {t : Bool} (hc : unb (sval sl c) = .bool t) (h1 : t = true → Fin P T J (.code x :: k) ρ sl) (h2 : t = false → Fin P T J (.code y :: k) ρ sl) :
    Fin P T J (.code (.cond c x y) :: k) ρ sl :=
  fun g w rv a hR b cs hb hk => .of_steps (.one (step_cond (bool_of hR hc))) (by
    cases t
    · exact h2 rfl g w rv a hR b cs hb hk
    · exact h1 rfl g w rv a hR b cs hb hk)

theorem Fin.region {id : Nat} {ops : Array Oper} (h : FinOps P T J ops (List.range ops.size) k ρ sl) : Fin P T J (.code (.region id ops false) :: k) ρ sl := by
  intro g w rv a hR b cs hb hk
  obtain ⟨e, a', w', ⟨rfl, hq⟩, harr⟩ := wp_ops _ a w (h g w rv a hR) b k cs
  exact .of_steps (.one step_region) (.of_steps harr (hq b cs hb hk))

theorem FinOps.nil {ops : Array Oper} (h : Fin P T J k ρ sl) : FinOps P T J ops [] k ρ sl :=
  fun g w rv a hR => ⟨rfl, fun b cs hb hk => h g w rv a hR b cs hb hk⟩

/-- A slot is told in other words. -/
theorem R.turned {C : Ctx} {g : Tags} {w : World} {rv : Nat → Value} {a : Act} (h : R T C g w rv ρ sl a) {i : Nat} {y : VV} (hy : ∀ x v, sl[i]? = some x → a.tmps[i]? = some v → SR T g w rv ρ x v → Live ρ x → SR T g w rv ρ y v ∧ Live ρ y) :
    R T C g w rv ρ (sl.set i y) a := by
  have hsz : ∀ x, sl[i]? = some x → ∃ v, a.tmps[i]? = some v := by
    intro x hx
    have : i < sl.length := by
      rcases Nat.lt_or_ge i sl.length with h' | h'
      · exact h'
      · rw [List.getElem?_eq_none h'] at hx; simp at hx
    exact ⟨a.tmps[i]'(by rw [← h.len]; exact this), by simp [h.len ▸ this]⟩
  refine ⟨h.ev, h.defers, by simpa using h.len, fun j x v hx hv => ?_, fun j x hx => ?_, h.roots, h.live, h.held, h.hdr⟩
  · rw [List.getElem?_set] at hx
    by_cases hj : i = j
    · subst hj
      rw [if_pos rfl] at hx
      split at hx
      · rename_i hi
        simp only [Option.some.injEq] at hx; subst hx
        exact (hy _ v (List.getElem?_eq_getElem hi) hv (h.slots i _ v (List.getElem?_eq_getElem hi) hv) (h.names i _ (List.getElem?_eq_getElem hi))).1
      · simp at hx
    · rw [if_neg hj] at hx
      exact h.slots j x v hx hv
  · rw [List.getElem?_set] at hx
    by_cases hj : i = j
    · subst hj
      rw [if_pos rfl] at hx
      split at hx
      · rename_i hi
        simp only [Option.some.injEq] at hx; subst hx
        obtain ⟨v, hv⟩ := hsz _ (List.getElem?_eq_getElem hi)
        exact (hy _ v (List.getElem?_eq_getElem hi) hv (h.slots i _ v (List.getElem?_eq_getElem hi) hv) (h.names i _ (List.getElem?_eq_getElem hi))).2
      · simp at hx
    · rw [if_neg hj] at hx
      exact h.names j x hx

/-- A truth is laid open. -/
theorem R.lit {C : Ctx} {g : Tags} {w : World} {rv : Nat → Value} {a : Act} (h : R T C g w rv ρ sl a) {i : Nat} {b : Bool} (hi : sl.getD i .dead = .bool b) : R T C g w rv ρ (sl.set i (.con (.bool b))) a := by
  refine h.turned fun x v hx hv hs _ => ?_
  have : x = .bool b := by rw [List.getD_eq_getElem?_getD, hx] at hi; exact hi
  subst this
  cases hs
  exact ⟨.con, fun r av hn => by cases hn⟩

theorem FinOps.lit {ops : Array Oper} {l : List Nat} {i : Nat} {b : Bool} (hi : sl.getD i .dead = .bool b) (h1 : b = true → FinOps P T J ops l k ρ (sl.set i (.con (.bool true))))
    (h2 : b = false → FinOps P T J ops l k ρ (sl.set i (.con (.bool false)))) : FinOps P T J ops l k ρ sl := by
  intro g w rv a hR
  cases b
  · exact h2 rfl g w rv a (hR.lit hi)
  · exact h1 rfl g w rv a (hR.lit hi)

include hT hz in
/-- One operation, at any place. -/
theorem wpOp_step {C : Ctx} {g : Tags} {w : World} {rv : Nat → Value} {a : Act} (h : R T C g w rv ρ sl a) {ops : Array Oper} {Q : Exit → Act → World → Prop} {i : Nat} {o : Oper} (hi : ops[i]? = some o)
    (hw : Region.wanted o (yielded ops a.tmps) = true) {sup : Sup} {res : Res} (hs : stepV P T o (sval sl) ρ sup = some res) (ho : ∀ p ∈ res.obs, p) {K : Act → World → Prop}
    (hK : ∀ g w rv a, R T C g w rv (ups ρ res.ups) (setSlot sl o.dst res.x) a → K a w) : wpOp P ops Q i K a w := by
  unfold wpOp
  simp only [hi, hw, if_true]
  refine .inl ?_
  unfold Oper.wp
  unfold stepV at hs
  split at hs
  · rename_i r hr
    simp only [Option.some.injEq] at hs; subst hs
    obtain ⟨v, w', g', rv', h1, h2, h3, h4⟩ := opV_sound hT hz h o hr ho
    rcases h1 with h1 | ⟨h1, rfl⟩
    · rw [h1]; exact hK _ _ _ _ (h2.put o.dst h3 h4)
    · rw [h1]; exact hK _ _ _ _ (h2.put o.dst h3 h4)
  · split at hs
    · rename_i c hc
      obtain ⟨f, args, h1, h2⟩ := callV_sound h o hc hs ho
      rw [h1]
      refine Calls.mono h2 fun e w' ⟨v, g', rv', he, m1, m2, m3⟩ => ?_
      subst he
      exact hK _ _ _ _ (m1.put o.dst m2 m3)
    · simp at hs

theorem wpOp_skip {C : Ctx} {g : Tags} {w : World} {rv : Nat → Value} {a : Act} (h : R T C g w rv ρ sl a) {ops : Array Oper} {Q : Exit → Act → World → Prop} {i : Nat} {o : Oper} (hi : ops[i]? = some o)
    (hw : Region.wanted o (yielded ops a.tmps) = false) {K : Act → World → Prop} (hK : ∀ g w rv a, R T C g w rv ρ (setSlot sl o.dst .dead) a → K a w) : wpOp P ops Q i K a w := by
  unfold wpOp
  simp only [hi, hw]
  exact hK g w rv _ (h.put o.dst .dead (fun r av hn => by cases hn))

include hT hz in
theorem FinOps.step {ops : Array Oper} {l : List Nat} {i : Nat} {o : Oper} (hi : ops[i]? = some o) (hg : o.guard = none) {sup : Sup} {res : Res} (hs : stepV P T o (sval sl) ρ sup = some res) (ho : ∀ p ∈ res.obs, p)
    (h : FinOps P T J ops l k (ups ρ res.ups) (setSlot sl o.dst res.x)) : FinOps P T J ops (i :: l) k ρ sl := by
  intro g w rv a hR
  rw [wpOps_cons]
  refine wpOp_step hT hz hR hi ?_ hs ho fun g w rv a hR' => h g w rv a hR'
  simp [Region.wanted, hg]

theorem yielded_of {C : Ctx} {g : Tags} {w : World} {rv : Nat → Value} {a : Act} (hR : R T C g w rv ρ sl a) {ops : Array Oper} {j d : Nat} {b : Bool} (hd : (ops[j]?).bind (·.dst) = some d) (hs : sl.getD d .dead = .con (.bool b)) :
    yielded ops a.tmps j = some b := by
  unfold yielded
  rw [hd]
  have := (hR.eval (.tmp d)).1
  simp only [sval, hs, Act.eval] at this
  have hlt : d < a.tmps.size := by
    rw [← hR.len]
    rcases Nat.lt_or_ge d sl.length with h' | h'
    · exact h'
    · rw [List.getD_eq_getElem?_getD, List.getElem?_eq_none h'] at hs; simp at hs
  have e : a.tmps.getD d undef = a.tmps[d] := by simp [Array.getD_eq_getD_getElem?, hlt]
  rw [e] at this
  simp only [Option.bind_some, Array.getElem?_eq_getElem hlt]
  generalize a.tmps[d] = v at this
  cases this; rfl

include hT hz in
/-- An operation with a guard whose truth is laid open. -/
theorem FinOps.guarded {ops : Array Oper} {l : List Nat} {i j d : Nat} {o : Oper} {b : Bool} (hi : ops[i]? = some o) (hg : o.guard = some (j, b)) (hd : (ops[j]?).bind (·.dst) = some d) (hb : sl.getD d .dead = .con (.bool b))
    {sup : Sup} {res : Res} (hs : stepV P T o (sval sl) ρ sup = some res) (ho : ∀ p ∈ res.obs, p)
    (h : FinOps P T J ops l k (ups ρ res.ups) (setSlot sl o.dst res.x)) : FinOps P T J ops (i :: l) k ρ sl := by
  intro g w rv a hR
  rw [wpOps_cons]
  refine wpOp_step hT hz hR hi ?_ hs ho fun g w rv a hR' => h g w rv a hR'
  simp [Region.wanted, hg, yielded_of hR hd hb]

theorem FinOps.unwanted {ops : Array Oper} {l : List Nat} {i j d : Nat} {o : Oper} {b b' : Bool} (hi : ops[i]? = some o) (hg : o.guard = some (j, b')) (hd : (ops[j]?).bind (·.dst) = some d) (hb : sl.getD d .dead = .con (.bool b))
    (hne : b ≠ b') (h : FinOps P T J ops l k ρ (setSlot sl o.dst .dead)) : FinOps P T J ops (i :: l) k ρ sl := by
  intro g w rv a hR
  rw [wpOps_cons]
  unfold wpOp
  have : Region.wanted o (yielded ops a.tmps) = false := by simp [Region.wanted, hg, yielded_of hR hd hb, hne]
  simp only [hi, this]
  exact h g w rv _ (hR.put o.dst .dead (fun r av hn => by cases hn))

end
end Go.VI
