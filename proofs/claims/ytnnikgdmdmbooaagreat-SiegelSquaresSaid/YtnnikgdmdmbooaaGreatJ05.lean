/- What an operation looks at. A region whose order is drawn: one run in the order of the text speaks for all. Turns of the telling alone: a root is frozen, let go, or told under another key. -/
import Derived.Test.YtnnikgdmdmbooaaGreatJ04
set_option linter.unusedVariables false
set_option linter.unusedSimpArgs false
namespace Go.VI

mutual
def keysOf : VV → List Nat
  | .top r _ => [r]
  | .win r _ _ _ _ => [r]
  | .addr r _ _ _ _ => [r]
  | .fn _ caps => keysOfL caps
  | .tup vs => keysOfL vs
  | .int .. | .bool _ | .str _ | .con _ | .nils | .imm .. | .agg .. | .iaddr .. | .dead => []
def keysOfL : List VV → List Nat
  | [] => []
  | x :: l => keysOf x ++ keysOfL l
end

def supKeys : Sup → List Nat
  | .no => []
  | .key K => [K]
  | .mem K _ => [K]
  | .call K res inn _ => inn ++ (List.range res.parts.length).map (K + ·)

def foot (o : Oper) (ev : Operand → VV) (sup : Sup) : List Nat := match o.op with
  | .move _ => []
  | .assign _ => []
  | op => (op.operands.toList.flatMap fun x => keysOf (ev x)) ++ supKeys sup

def Same (ks : List Nat) (ρ ρ' : Roots) : Prop := ∀ k ∈ ks, ρ k = ρ' k

theorem Same.left {a b : List Nat} {ρ ρ' : Roots} (h : Same (a ++ b) ρ ρ') : Same a ρ ρ' := fun k hk => h k (List.mem_append_left _ hk)
theorem Same.right {a b : List Nat} {ρ ρ' : Roots} (h : Same (a ++ b) ρ ρ') : Same b ρ ρ' := fun k hk => h k (List.mem_append_right _ hk)

section
variable {P : Program} {T : Tab} {ρ ρ' : Roots}

theorem cur_congr {r av : Nat} (h : ρ r = ρ' r) : cur ρ r av = cur ρ' r av := by unfold cur; rw [h]

theorem srcV_congr {e : TypeId} {y : VV} (h : Same (keysOf y) ρ ρ') : srcV e y ρ = srcV e y ρ' := by
  cases y <;> simp only [srcV]
  · rw [cur_congr (h _ (by simp [keysOf]))]
  · rw [cur_congr (h _ (by simp [keysOf]))]

theorem loadV_congr {t : TypeId} {x : VV} {sup : Sup} (h : Same (keysOf x ++ supKeys sup) ρ ρ') : loadV T t x ρ sup = loadV T t x ρ' sup := by
  cases x <;> simp only [loadV]
  · rename_i r av i q t'
    rw [h r (by simp [keysOf])]
    cases sup <;> try rfl
    rename_i K
    simp only [h K (by simp [keysOf, supKeys])]

theorem fieldAddrV_congr {s : TypeId} {x : VV} {f : Nat} (h : Same (keysOf x) ρ ρ') : fieldAddrV T s x f ρ = fieldAddrV T s x f ρ' := by
  unfold fieldAddrV
  generalize T.ty s = ty
  rcases ty with _ | d
  · rfl
  · cases d <;> cases x <;> try rfl
    rename_i r av i q t
    simp only [cur_congr (h r (by simp [keysOf]))]

theorem indexAddrV_congr {t : TypeId} {x i : VV} (h : Same (keysOf x) ρ ρ') : indexAddrV T t x i ρ = indexAddrV T t x i ρ' := by
  unfold indexAddrV
  generalize T.ty t = ty
  rcases ty with _ | d
  · rfl
  · cases d <;> cases x <;> cases i <;> try rfl
    · rename_i r av k n
      simp only [cur_congr (h r (by simp [keysOf]))]
    · rename_i r av off len full k n
      simp only [cur_congr (h r (by simp [keysOf]))]

theorem sliceV_congr {t : TypeId} {x : VV} {lo hi mx : Option VV} (h : Same (keysOf x) ρ ρ') : sliceV T t x lo hi mx ρ = sliceV T t x lo hi mx ρ' := by
  unfold sliceV
  generalize T.ty t = ty
  rcases ty with _ | d
  · rfl
  · cases d <;> cases x <;> try rfl
    · rename_i r av
      simp only [cur_congr (h r (by simp [keysOf]))]
    · rename_i r av off len full
      simp only [cur_congr (h r (by simp [keysOf]))]

theorem lenV_congr {t : TypeId} {x : VV} (h : Same (keysOf x) ρ ρ') : lenV T t x ρ = lenV T t x ρ' := by
  unfold lenV
  generalize T.ty t = ty
  rcases ty with _ | d
  · rfl
  · cases d <;> cases x <;> try rfl
    · rename_i r av
      simp only [cur_congr (h r (by simp [keysOf]))]
    · rename_i r av off len full
      simp only [cur_congr (h r (by simp [keysOf]))]

theorem storeV_congr {t : TypeId} {x y : VV} (h : Same (keysOf x ++ keysOf y) ρ ρ') : storeV T t x y ρ = storeV T t x y ρ' := by
  unfold storeV
  cases x <;> try rfl
  rename_i r av i q t'
  have h1 : cur ρ r av = cur ρ' r av := cur_congr (h r (by simp [keysOf]))
  simp only [h1]
  cases y <;> try rfl
  rename_i K kav
  have h2 : cur ρ K kav = cur ρ' K kav := cur_congr (h K (by simp [keysOf]))
  unfold toD
  generalize T.ty t = ty
  rcases ty with _ | d
  · rfl
  · cases d <;> try rfl
    simp only [h2]

theorem appendV_congr {t t2 : TypeId} {x y : VV} {K : Nat} (h : Same (keysOf x ++ keysOf y ++ [K]) ρ ρ') : appendV T t t2 x y K ρ = appendV T t t2 x y K ρ' := by
  have hK := h K (by simp)
  unfold appendV
  simp only [srcV_congr h.left.right, hK]
  cases x <;> try rfl
  rename_i r av
  simp only [cur_congr (h r (by simp [keysOf]))]

theorem copyV_congr {t t2 : TypeId} {x y : VV} (h : Same (keysOf x ++ keysOf y) ρ ρ') : copyV T t t2 x y ρ = copyV T t t2 x y ρ' := by
  unfold copyV
  simp only [srcV_congr h.right]
  cases x <;> try rfl
  · rename_i r av
    simp only [cur_congr (h r (by simp [keysOf]))]
  · rename_i r av off len full
    simp only [cur_congr (h r (by simp [keysOf]))]

theorem argV_congr {t : TypeId} {inn : List Nat} {x : VV} (h : Same (keysOf x) ρ ρ') : argV T t inn x ρ = argV T t inn x ρ' := by
  cases x <;> simp only [argV]
  · rename_i r av
    rw [cur_congr (h r (by simp [keysOf]))]
    simp only [srcV_congr (y := .top r av) h]
  · rename_i r av off len full
    rw [cur_congr (h r (by simp [keysOf]))]
    simp only [srcV_congr (y := .win r av off len full) h]
  · rename_i r av i q t'
    rw [cur_congr (h r (by simp [keysOf]))]

theorem argsV_congr {inn : List Nat} : ∀ {xs : List VV} {ts : List TypeId}, Same (keysOfL xs) ρ ρ' → argsV T inn ρ ts xs = argsV T inn ρ' ts xs
  | [], ts, h => rfl
  | x :: xs, ts, h => by
    simp only [keysOfL] at h
    simp only [argsV, argV_congr h.left, argsV_congr (xs := xs) h.right]

theorem innRoots_congr : ∀ {inn : List Nat}, Same inn ρ ρ' → innRoots ρ inn = innRoots ρ' inn
  | [], h => rfl
  | k :: l, h => by simp only [innRoots, h k (by simp), innRoots_congr (inn := l) fun k hk => h k (by simp [hk])]

theorem keysOf_unb (x : VV) : keysOf (unb x) = keysOf x := by
  unfold unb
  split
  · simp [keysOf]
  · rfl

theorem keysOfL_append (a b : List VV) : keysOfL (a ++ b) = keysOfL a ++ keysOfL b := by
  induction a with
  | nil => simp [keysOfL]
  | cons x l ih => simp [keysOfL, ih]

theorem keysOfL_map {α : Type} (f : α → VV) (l : List α) : keysOfL (l.map f) = l.flatMap fun x => keysOf (f x) := by
  induction l with
  | nil => simp [keysOfL]
  | cons x l ih => simp [keysOfL, ih]

theorem callV_congr {c : Call} {ev : Operand → VV} {sup : Sup} (h : Same ((c.operands.toList.flatMap fun x => keysOf (ev x)) ++ supKeys sup) ρ ρ') : callV P T c ev ρ sup = callV P T c ev ρ' sup := by
  obtain ⟨callee, args, ats⟩ := c
  unfold callV
  cases callee <;> try rfl
  rename_i fo
  cases sup <;> try rfl
  rename_i K res inn out
  simp only
  cases hf : ev fo <;> try rfl
  rename_i f caps
  have h1 : Same (keysOfL ((args.toList.map fun x => unb (ev x)) ++ caps)) ρ ρ' := by
    intro k hk
    rw [keysOfL_append, keysOfL_map] at hk
    refine h k (List.mem_append_left _ ?_)
    simp only [Call.operands, Array.toList_append, List.flatMap_append, List.mem_append, keysOf_unb] at hk ⊢
    rcases hk with hk | hk
    · exact .inr hk
    · exact .inl (by simpa [hf, keysOf] using hk)
  have h2 : Same inn ρ ρ' := fun k hk => h k (List.mem_append_right _ (by simp [supKeys, hk]))
  have h3 : ((List.range res.parts.length).all fun j => (ρ (K + j)).isNone) = ((List.range res.parts.length).all fun j => (ρ' (K + j)).isNone) := by
    apply Bool.eq_iff_iff.2
    simp only [List.all_eq_true, List.mem_range]
    have : ∀ j, j < res.parts.length → ρ (K + j) = ρ' (K + j) := fun j hj => h _ (List.mem_append_right _ (by simp only [supKeys]; exact List.mem_append_right _ (List.mem_map.2 ⟨j, by simpa using hj, rfl⟩)))
    constructor
    · intro hh j hj; rw [← this j hj]; exact hh j hj
    · intro hh j hj; rw [this j hj]; exact hh j hj
  simp only [argsV_congr h1, innRoots_congr h2, h3]

theorem opV_congr {o : Oper} {ev : Operand → VV} {sup : Sup} (h : Same (foot o ev sup) ρ ρ') : opV T o ev ρ sup = opV T o ev ρ' sup := by
  obtain ⟨dst, op, type, pos, aft, guard⟩ := o
  by_cases hm : (∃ x, op = .move x) ∨ (∃ x, op = .assign x)
  · rcases hm with ⟨x, rfl⟩ | ⟨x, rfl⟩ <;> rfl
  replace h : Same ((op.operands.toList.flatMap fun x => keysOf (ev x)) ++ supKeys sup) ρ ρ' := by
    cases op <;> first | exact h | exact absurd (.inl ⟨_, rfl⟩) hm | exact absurd (.inr ⟨_, rfl⟩) hm
  have sub : ∀ {ks}, (∀ k ∈ ks, k ∈ (op.operands.toList.flatMap fun x => keysOf (ev x)) ++ supKeys sup) → Same ks ρ ρ' := fun hs k hk => h k (hs k hk)
  cases op <;> try rfl
  case makeFunc fn first caps => cases fn <;> rfl
  case alloc t =>
    simp only [opV]
    cases sup <;> try rfl
    rename_i K dep
    simp only [allocV, h K (by simp [supKeys])]
  case box t x =>
    simp only [opV]
    cases sup <;> try rfl
    rename_i K dep
    simp only [boxV, h K (by simp [supKeys])]
  case load t x => simp only [opV]; rw [loadV_congr (sub fun k hk => by simpa [Op.operands] using hk)]
  case store t x y => simp only [opV]; rw [storeV_congr (sub fun k hk => by simp only [keysOf_unb] at hk; simp [Op.operands]; simp at hk; rcases hk with hk | hk <;> simp [hk])]
  case makeSlice t x y =>
    simp only [opV]
    cases sup <;> try rfl
    rename_i K dep
    simp only [makeV, h K (by simp [supKeys])]
  case slice t x lo hi mx => simp only [opV]; rw [sliceV_congr (sub fun k hk => by simp [Op.operands, hk])]
  case fieldAddr s x f => simp only [opV]; rw [fieldAddrV_congr (sub fun k hk => by simp [Op.operands, hk])]
  case indexAddr s x f => simp only [opV]; rw [indexAddrV_congr (sub fun k hk => by simp [Op.operands, hk])]
  case call c =>
    obtain ⟨callee, args, ats⟩ := c
    cases callee <;> try rfl
    rename_i b
    cases b <;> try rfl
    · simp only [opV]
      split
      · rename_i t t2 x y h1 h2
        cases sup <;> try rfl
        rename_i K dep
        refine appendV_congr (sub fun k hk => ?_)
        simp only [Op.operands, Call.operands, Array.toList_append, List.flatMap_append, h2, List.mem_append, List.flatMap_cons, List.flatMap_nil, List.append_nil, supKeys] at hk ⊢
        rcases hk with (hk | hk) | hk
        · exact .inl (.inr (.inl hk))
        · exact .inl (.inr (.inr hk))
        · exact .inr hk
      · rfl
    · simp only [opV]
      split
      · rename_i t t2 x y h1 h2
        refine copyV_congr (sub fun k hk => ?_)
        simp only [Op.operands, Call.operands, Array.toList_append, List.flatMap_append, h2, List.mem_append, List.flatMap_cons, List.flatMap_nil, List.append_nil] at hk ⊢
        rcases hk with hk | hk
        · exact .inl (.inr (.inl hk))
        · exact .inl (.inr (.inr hk))
      · rfl
    · simp only [opV]
      split
      · rename_i t x h1 h2
        rw [lenV_congr (sub fun k hk => ?_)]
        simp only [Op.operands, Call.operands, Array.toList_append, List.flatMap_append, h2, List.mem_append, List.flatMap_cons, List.flatMap_nil, List.append_nil] at hk ⊢
        exact .inl (.inr hk)
      · rfl

theorem stepV_congr {o : Oper} {ev : Operand → VV} {sup : Sup} (h : Same (foot o ev sup) ρ ρ') : stepV P T o ev ρ sup = stepV P T o ev ρ' sup := by
  unfold stepV
  rw [opV_congr h]
  obtain ⟨dst, op, type, pos, aft, guard⟩ := o
  cases op <;> try rfl
  rename_i c
  simp only
  rw [show callV P T c ev ρ sup = callV P T c ev ρ' sup from callV_congr (fun k hk => h k (by simpa [foot, Op.operands] using hk))]

theorem stepV_ev {o : Oper} {ev ev' : Operand → VV} {sup : Sup} (h : ∀ x ∈ o.op.operands, ev x = ev' x) : stepV P T o ev ρ sup = stepV P T o ev' ρ sup := by
  obtain ⟨dst, op, type, pos, aft, guard⟩ := o
  have pairs : ∀ ps : Array (Nat × Operand), (∀ x ∈ (ps.toList.map (·.2)).toArray, ev x = ev' x) → (ps.toList.map fun p => (p.1, unb (ev p.2))) = (ps.toList.map fun p => (p.1, unb (ev' p.2))) := by
    intro ps hp
    apply List.map_congr_left
    intro p hm
    rw [hp p.2 (by simpa using ⟨p.1, by simpa using hm⟩)]
  have opts : ∀ y : Option Operand, (∀ x ∈ y.toArray, ev x = ev' x) → y.map ev = y.map ev' := by
    intro y hy
    cases y with
    | none => rfl
    | some y => simp [hy y (by simp)]
  unfold stepV
  have key : opV T ⟨dst, op, type, pos, aft, guard⟩ ev ρ sup = opV T ⟨dst, op, type, pos, aft, guard⟩ ev' ρ sup := by
    cases op <;> simp only [Op.operands] at h <;> try rfl
    case build t ps => simp only [opV]; rw [pairs ps h]
    case buildSlice t n ps => simp only [opV]; rw [pairs ps h]
    case slice t x lo hi mx =>
      simp only [opV]
      rw [opts lo fun y hy => h y (by simp [hy]), opts hi fun y hy => h y (by simp [hy]), opts mx fun y hy => h y (by simp [hy]), h x (by simp)]
    case makeFunc fn first caps =>
      cases fn <;> try rfl
      simp only [opV]
      rw [show caps.toList.map ev = caps.toList.map ev' from List.map_congr_left fun x hx => h x (by simp [Array.mem_toList_iff.1 hx])]
    case call c =>
      obtain ⟨callee, args, ats⟩ := c
      have ha : ∀ x ∈ args.toList, ev x = ev' x := fun x hx => h x (by simp [Call.operands, Array.mem_toList_iff.1 hx])
      simp only [opV]
      split
      · split
        · rename_i h2; rw [h2] at ha; rw [ha _ (by simp)]
        · rfl
      · split
        · rename_i h2; rw [h2] at ha; rw [ha _ (by simp), ha _ (by simp)]
        · rfl
      · split
        · rename_i h2; rw [h2] at ha; rw [ha _ (by simp), ha _ (by simp)]
        · rfl
      · split
        · rename_i h2; rw [h2] at ha; rw [ha _ (by simp), ha _ (by simp)]
        · rfl
      · split
        · rename_i h2; rw [h2] at ha; rw [ha _ (by simp), ha _ (by simp)]
        · rfl
      · rfl
    all_goals simp_all [opV]
  rw [key]
  cases op <;> try rfl
  rename_i c
  obtain ⟨callee, args, ats⟩ := c
  simp only [Op.operands] at h
  have : callV P T ⟨callee, args, ats⟩ ev ρ sup = callV P T ⟨callee, args, ats⟩ ev' ρ sup := by
    unfold callV
    cases callee <;> try rfl
    rename_i fo
    cases sup <;> try rfl
    simp only
    rw [h fo (by simp [Call.operands]), show (args.toList.map fun x => unb (ev x)) = (args.toList.map fun x => unb (ev' x)) from List.map_congr_left fun x hx => by
      rw [h x (by simp [Call.operands, Array.mem_toList_iff.1 hx])]]
  simp only [this]

end
end Go.VI

namespace Go.VI

structure Rec where
  dst : Option Nat
  rs : List Nat
  rk : List Nat
  wk : List Nat

def tmpsOf (o : Oper) : List Nat := o.op.operands.toList.flatMap fun | .tmp t => [t] | _ => []

/-- The slot that tells whether an operation is wanted. -/
def gTmp (ops : Array Oper) (o : Oper) : List Nat := match o.guard with
  | none => []
  | some (j, _) => match (ops[j]?).bind (·.dst) with
    | some d => [d]
    | none => []

def recOf (ops : Array Oper) (o : Oper) (ev : Operand → VV) (sup : Sup) (res : Res) : Rec := { dst := o.dst, rs := gTmp ops o ++ tmpsOf o, rk := foot o ev sup, wk := res.ups.map (·.1) }

/-- A truth that is to be laid open. -/
def conB : VV → VV
  | .bool b => .con (.bool b)
  | x => x

/-- A slot on which the region's own ways hang. -/
def condD (ops : Array Oper) (d : Option Nat) : Bool := match d with
  | none => false
  | some d => ops.toList.any fun o => (gTmp ops o).contains d || match o.op with
    | .pick (.tmp t) _ _ => eqb t d
    | _ => false

def guardV (ops : Array Oper) (o : Oper) (sl : List VV) : Option Bool := match o.guard with
  | none => some true
  | some (j, want) => match (ops[j]?).bind (·.dst) with
    | some d => match sl.getD d .dead with
      | .con (.bool b) => some (b == want)
      | _ => none
    | none => none

def stepG (P : Program) (T : Tab) (ops : Array Oper) (o : Oper) (sl : List VV) (ρ : Roots) (sup : Sup) : Option Res :=
  match guardV ops o sl with
  | some true => (stepV P T o (sval sl) ρ sup).map fun r => if condD ops o.dst then { r with x := conB r.x } else r
  | some false => some { x := .dead }
  | none => none

def disj (l l' : List Nat) : Bool := l.all fun x => !l'.contains x

def offDst (d : Option Nat) (l : List Nat) : Bool := match d with | some t => !l.contains t | none => true

def noClash (a b : Rec) : Bool := disj a.wk b.rk && disj a.wk b.wk && disj a.rk b.wk && offDst a.dst b.rs && offDst b.dst a.rs && offDst a.dst b.dst.toList

def befB (ops : Array Oper) : Nat → Nat → Nat → Bool
  | 0, _, _ => false
  | n + 1, j, i => (ops.getD j default).after.toList.any fun e => Region.binds .any e && (e.on == i || befB ops n e.on i)

def checkB (ops : Array Oper) (recs : List Rec) : Bool :=
  (List.range ops.size).all fun j => ((ops.getD j default).after.toList.all fun e => !Region.binds .any e || decide (e.on < j)) &&
    (List.range j).all fun i => noClash (recs.getD i ⟨none, [], [], []⟩) (recs.getD j ⟨none, [], [], []⟩) || befB ops (j + 1) j i

def updS (s : Roots × List VV) (o : Oper) (r : Res) : Roots × List VV := (ups s.1 r.ups, setSlot s.2 o.dst r.x)

def nores : Sup × Res := (.no, { x := .dead })

/-- The run of those operations that S names, in the order of the text. -/
def runS (ops : Array Oper) (st : List (Sup × Res)) (s0 : Roots × List VV) (S : Nat → Bool) : Nat → Roots × List VV
  | 0 => s0
  | m + 1 => if S m then updS (runS ops st s0 S m) (ops.getD m default) (st.getD m nores).2 else runS ops st s0 S m

section
variable {ops : Array Oper} {st : List (Sup × Res)} {s0 : Roots × List VV}

theorem setSlot_length (l : List VV) (d : Option Nat) (x : VV) : (setSlot l d x).length = l.length := by cases d <;> simp [setSlot]

theorem runS_length (S : Nat → Bool) : ∀ m, (runS ops st s0 S m).2.length = s0.2.length
  | 0 => rfl
  | m + 1 => by
    simp only [runS]
    split
    · simp only [updS, setSlot_length]; exact runS_length S m
    · exact runS_length S m

theorem runS_congr {S S' : Nat → Bool} : ∀ m, (∀ i, i < m → S i = S' i) → runS ops st s0 S m = runS ops st s0 S' m
  | 0, _ => rfl
  | m + 1, h => by simp only [runS, h m (by omega), runS_congr m fun i hi => h i (by omega)]

theorem runS_slot {S S' : Nat → Bool} {t : Nat} : ∀ m, (∀ i, i < m → (ops.getD i default).dst = some t → S i = S' i) → (runS ops st s0 S m).2[t]? = (runS ops st s0 S' m).2[t]?
  | 0, _ => rfl
  | m + 1, h => by
    have ih := runS_slot m fun i hi => h i (by omega)
    have one : ∀ S : Nat → Bool, (runS ops st s0 S (m + 1)).2[t]? = if S m = true then (setSlot (runS ops st s0 S m).2 (ops.getD m default).dst (st.getD m nores).2.x)[t]? else (runS ops st s0 S m).2[t]? := by
      intro S
      simp only [runS]
      split <;> rfl
    rw [one, one]
    have put : ∀ S : Nat → Bool, (setSlot (runS ops st s0 S m).2 (ops.getD m default).dst (st.getD m nores).2.x)[t]? =
        if (ops.getD m default).dst = some t then (if t < s0.2.length then some (st.getD m nores).2.x else none) else (runS ops st s0 S m).2[t]? := by
      intro S
      cases hd : (ops.getD m default).dst with
      | none => simp [setSlot]
      | some d =>
        simp only [setSlot, List.getElem?_set, runS_length, Option.some.injEq]
        by_cases e : d = t
        · subst e; simp
        · simp [e]
    rw [put, put]
    by_cases hd : (ops.getD m default).dst = some t
    · rw [h m (by omega) hd, if_pos hd, ih, if_pos hd]
    · rw [if_neg hd, if_neg hd, ih]
      split <;> split <;> rfl

theorem ofList_none : ∀ {l : List (Nat × Root)} {k : Nat}, k ∉ l.map (·.1) → ofList l k = none
  | [], k, _ => rfl
  | (j, r) :: l, k, h => by
    simp only [List.map_cons, List.mem_cons, not_or] at h
    rw [ofList_cons, ofList_none h.2, if_neg h.1]

theorem runS_root {S S' : Nat → Bool} {k : Nat} : ∀ m, (∀ i, i < m → k ∈ (st.getD i nores).2.ups.map (·.1) → S i = S' i) → (runS ops st s0 S m).1 k = (runS ops st s0 S' m).1 k
  | 0, _ => rfl
  | m + 1, h => by
    have ih := runS_root m fun i hi => h i (by omega)
    have one : ∀ S : Nat → Bool, (runS ops st s0 S (m + 1)).1 k = if S m = true then (match ofList (st.getD m nores).2.ups k with | some r => some r | none => (runS ops st s0 S m).1 k) else (runS ops st s0 S m).1 k := by
      intro S
      simp only [runS]
      split
      · simp only [updS]; rw [ups_eq]
        cases ofList (st.getD m nores).2.ups k <;> rfl
      · rfl
    rw [one, one, ih]
    by_cases hk : k ∈ (st.getD m nores).2.ups.map (·.1)
    · rw [h m (by omega) hk]
    · rw [ofList_none hk]
      cases S m <;> cases S' m <;> rfl

theorem updS_comm {s : Roots × List VV} {o o' : Oper} {r r' : Res} (hd : offDst o.dst o'.dst.toList = true) (hk : disj (r.ups.map (·.1)) (r'.ups.map (·.1)) = true) :
    updS (updS s o r) o' r' = updS (updS s o' r') o r := by
  simp only [updS, Prod.mk.injEq]
  constructor
  · funext k
    rw [ups_eq, ups_eq, ups_eq, ups_eq]
    cases h1 : ofList r.ups k with
    | none => cases ofList r'.ups k <;> rfl
    | some x =>
      have : ofList r'.ups k = none := by
        apply ofList_none
        intro hm
        have hm1 : k ∈ r.ups.map (·.1) := by
          false_or_by_contra
          rename_i hn
          rw [ofList_none hn] at h1; simp at h1
        simp only [disj, List.all_eq_true] at hk
        have := hk k hm1
        simp only [Bool.not_eq_true', List.contains_eq_mem, decide_eq_false_iff_not] at this
        exact this hm
      rw [this]
  · cases h1 : o.dst with
    | none => simp [setSlot]
    | some d =>
      cases h2 : o'.dst with
      | none => simp [setSlot]
      | some d' =>
        rw [h1, h2] at hd
        simp only [offDst, Option.toList, Bool.not_eq_true', List.contains_eq_mem, List.mem_singleton, decide_eq_false_iff_not] at hd
        simp only [setSlot]
        exact List.set_comm _ _ (fun e => hd e)

/-- What the check says. -/
structure Fits (P : Program) (T : Tab) (ops : Array Oper) (st : List (Sup × Res)) (s0 : Roots × List VV) : Prop where
  len : st.length = ops.size
  step : ∀ i, i < ops.size → stepG P T ops (ops.getD i default) (runS ops st s0 (fun _ => true) i).2 (runS ops st s0 (fun _ => true) i).1 (st.getD i nores).1 = some (st.getD i nores).2
  obs : ∀ i, i < ops.size → ∀ p ∈ (st.getD i nores).2.obs, p
  edge : ∀ j, j < ops.size → ∀ e ∈ (ops.getD j default).after, Region.binds .any e = true → e.on < j
  clash : ∀ i j, i < j → j < ops.size → befB ops (j + 1) j i = true ∨
    noClash (recOf ops (ops.getD i default) (sval (runS ops st s0 (fun _ => true) i).2) (st.getD i nores).1 (st.getD i nores).2)
      (recOf ops (ops.getD j default) (sval (runS ops st s0 (fun _ => true) j).2) (st.getD j nores).1 (st.getD j nores).2) = true

def Closed (ops : Array Oper) (S : Nat → Bool) : Prop := ∀ j, j < ops.size → S j = true → ∀ e ∈ (ops.getD j default).after, Region.binds .any e = true → S e.on = true

theorem Closed.bef {P : Program} {T : Tab} (hf : Fits P T ops st s0) {S : Nat → Bool} (h : Closed ops S) : ∀ n j i, j < ops.size → befB ops n j i = true → (∀ e ∈ (ops.getD j default).after, Region.binds .any e = true → S e.on = true) → S i = true
  | 0, j, i, _, hb, _ => by simp [befB] at hb
  | n + 1, j, i, hj, hb, hp => by
    simp only [befB, List.any_eq_true, Bool.and_eq_true, Bool.or_eq_true, beq_iff_eq] at hb
    obtain ⟨e, he, h1, h2⟩ := hb
    have he' : e ∈ (ops.getD j default).after := Array.mem_toList_iff.1 he
    rcases h2 with rfl | h2
    · exact hp e he' h1
    · have hlt := hf.edge j hj e he' h1
      exact Closed.bef hf h n e.on i (by omega) h2 (h e.on (by omega) (hp e he' h1))

section
variable {P : Program} {T : Tab} (hf : Fits P T ops st s0) {S : Nat → Bool} (hS : Closed ops S) {i : Nat} (hi : i < ops.size) (hn : S i = false)
  (hp : ∀ e ∈ (ops.getD i default).after, Region.binds .any e = true → S e.on = true)
include hf hS hi hn hp

theorem earlier {j : Nat} (hj : j < i) : S j = true ∨ noClash (recOf ops (ops.getD j default) (sval (runS ops st s0 (fun _ => true) j).2) (st.getD j nores).1 (st.getD j nores).2)
      (recOf ops (ops.getD i default) (sval (runS ops st s0 (fun _ => true) i).2) (st.getD i nores).1 (st.getD i nores).2) = true := by
  have _u := hn
  rcases hf.clash j i hj hi with h | h
  · exact .inl (hS.bef hf _ i j hi h hp)
  · exact .inr h

theorem later {j : Nat} (hj : i < j) (hjn : j < ops.size) : S j = false ∨ noClash (recOf ops (ops.getD i default) (sval (runS ops st s0 (fun _ => true) i).2) (st.getD i nores).1 (st.getD i nores).2)
      (recOf ops (ops.getD j default) (sval (runS ops st s0 (fun _ => true) j).2) (st.getD j nores).1 (st.getD j nores).2) = true := by
  have _u := hi
  have _u := hp
  rcases hf.clash i j hj hjn with h | h
  · cases hsj : S j with
    | false => exact .inl rfl
    | true =>
      have := hS.bef hf _ j i hjn h (hS j hjn hsj)
      rw [hn] at this; simp at this
  · exact .inr h

theorem before_self : ∀ m, i ≤ m → runS ops st s0 (fun j => decide (j < i)) m = runS ops st s0 (fun _ => true) i
  | m, hm => by
    have _u := hf
    have _u := hS
    have _u := hn
    have _u := hp
    have _u := hi
    clear _u
    induction m with
    | zero => have : i = 0 := by omega
              subst this; rfl
    | succ m ih =>
      rcases Nat.lt_or_ge m i with h | h
      · have : i = m + 1 := by omega
        subst this
        exact runS_congr _ fun j hj => by simp [hj]
      · simp only [runS]
        rw [if_neg (by simpa using h)]
        exact ih (by omega)

theorem ready_step : stepG P T ops (ops.getD i default) (runS ops st s0 S ops.size).2 (runS ops st s0 S ops.size).1 (st.getD i nores).1 = some (st.getD i nores).2 := by
  have hb := before_self hf hS hi hn hp ops.size (by omega)
  have hsl : ∀ t ∈ gTmp ops (ops.getD i default) ++ tmpsOf (ops.getD i default), (runS ops st s0 S ops.size).2[t]? = (runS ops st s0 (fun _ => true) i).2[t]? := by
    intro t ht
    rw [← hb]
    refine runS_slot _ fun j hj hd => ?_
    rcases Nat.lt_trichotomy j i with h | h | h
    · rw [show decide (j < i) = true by simpa using h]
      rcases earlier hf hS hi hn hp h with h' | h'
      · exact h'
      · simp only [noClash, recOf, hd, offDst, Bool.and_eq_true, Bool.not_eq_true', List.contains_eq_mem, decide_eq_false_iff_not] at h'
        exact absurd ht h'.1.1.2
    · subst h; rw [hn]; simp
    · rw [show decide (j < i) = false by simp; omega]
      rcases later hf hS hi hn hp h hj with h' | h'
      · exact h'
      · simp only [noClash, recOf, hd, offDst, Bool.and_eq_true, Bool.not_eq_true', List.contains_eq_mem, decide_eq_false_iff_not] at h'
        exact absurd ht h'.1.2
  have hev : ∀ x ∈ (ops.getD i default).op.operands, sval (runS ops st s0 S ops.size).2 x = sval (runS ops st s0 (fun _ => true) i).2 x := by
    intro x hx
    cases x <;> try rfl
    rename_i t
    simp only [sval, List.getD_eq_getElem?_getD]
    rw [hsl t]
    refine List.mem_append_right _ ?_
    simp only [tmpsOf, List.mem_flatMap]
    exact ⟨.tmp t, Array.mem_toList_iff.2 hx, by simp⟩
  have hgv : guardV ops (ops.getD i default) (runS ops st s0 S ops.size).2 = guardV ops (ops.getD i default) (runS ops st s0 (fun _ => true) i).2 := by
    unfold guardV
    cases hg : (ops.getD i default).guard with
    | none => rfl
    | some jw =>
      obtain ⟨j, want⟩ := jw
      simp only
      cases hd : (ops[j]?).bind (·.dst) with
      | none => rfl
      | some d =>
        simp only [List.getD_eq_getElem?_getD]
        rw [hsl d (List.mem_append_left _ (by unfold gTmp; rw [hg]; simp only; rw [hd]; simp))]
  rw [← hf.step i hi]
  unfold stepG
  rw [hgv]
  suffices h : stepV P T (ops.getD i default) (sval (runS ops st s0 S ops.size).2) (runS ops st s0 S ops.size).1 (st.getD i nores).1 =
      stepV P T (ops.getD i default) (sval (runS ops st s0 (fun _ => true) i).2) (runS ops st s0 (fun _ => true) i).1 (st.getD i nores).1 by rw [h]
  rw [stepV_ev hev]
  refine stepV_congr fun k hk => ?_
  rw [← hb]
  have hk' : k ∈ foot (ops.getD i default) (sval (runS ops st s0 (fun _ => true) i).2) (st.getD i nores).1 := hk
  refine runS_root _ fun j hj hd => ?_
  rcases Nat.lt_trichotomy j i with h | h | h
  · rw [show decide (j < i) = true by simpa using h]
    rcases earlier hf hS hi hn hp h with h' | h'
    · exact h'
    · simp only [noClash, recOf, Bool.and_eq_true, disj, List.all_eq_true, Bool.not_eq_true', List.contains_eq_mem, decide_eq_false_iff_not] at h'
      exact absurd hk' (h'.1.1.1.1.1 k hd)
  · subst h; rw [hn]; simp
  · rw [show decide (j < i) = false by simp; omega]
    rcases later hf hS hi hn hp h hj with h' | h'
    · exact h'
    · simp only [noClash, recOf, Bool.and_eq_true, disj, List.all_eq_true, Bool.not_eq_true', List.contains_eq_mem, decide_eq_false_iff_not] at h'
      exact absurd hd (h'.1.1.1.2 k hk')

theorem ready_upd : ∀ m, i < m → m ≤ ops.size → runS ops st s0 (fun j => S j || j == i) m = updS (runS ops st s0 S m) (ops.getD i default) (st.getD i nores).2
  | 0, h, _ => by omega
  | m + 1, h, hm => by
    rcases Nat.lt_or_ge i m with h' | h'
    · have ih := ready_upd m h' (by omega)
      have hne : (m == i) = false := by simp; omega
      simp only [runS, hne, Bool.or_false]
      cases hsm : S m with
      | false => simp only [Bool.false_eq_true, if_false]; exact ih
      | true =>
        simp only [if_true]
        rw [ih]
        rcases later hf hS hi hn hp h' (by omega) with h2 | h2
        · rw [hsm] at h2; simp at h2
        · simp only [noClash, recOf, Bool.and_eq_true] at h2
          exact updS_comm h2.2 h2.1.1.1.1.2
    · have : m = i := by omega
      subst this
      simp only [runS, hn]
      simp only [BEq.rfl, Bool.or_true, if_true, Bool.false_eq_true, if_false]
      rw [runS_congr (S := fun j => S j || j == m) (S' := S) m fun j hj => by simp; omega]

end

end

section
variable {P : Program} {T : Tab} (hT : TabOK P T) (hz : ∀ t, (T.ty t).isSome → 0 < T.sz t)

theorem least (p : Nat → Bool) : ∀ n, (∃ i, i < n ∧ p i = true) → ∃ i, i < n ∧ p i = true ∧ ∀ j, j < i → p j = false
  | 0, ⟨i, h, _⟩ => by omega
  | n + 1, ⟨i, h, hi⟩ => by
    by_cases h' : ∃ i, i < n ∧ p i = true
    · obtain ⟨k, h1, h2, h3⟩ := least p n h'
      exact ⟨k, by omega, h2, h3⟩
    · have : i = n := by
        rcases Nat.lt_or_ge i n with h2 | h2
        · exact absurd ⟨i, h2, hi⟩ h'
        · omega
      subst this
      refine ⟨i, h, hi, fun j hj => ?_⟩
      cases hpj : p j with
      | false => rfl
      | true => exact absurd ⟨j, hj, hpj⟩ h'

theorem R.con {C : Ctx} {g : Tags} {w : World} {rv : Nat → Value} {ρ : Roots} {sl : List VV} {a : Act} {d : Option Nat} {x : VV} (h : R T C g w rv ρ (setSlot sl d x) a) : R T C g w rv ρ (setSlot sl d (conB x)) a := by
  cases x <;> try exact h
  rename_i b
  cases d with
  | none => exact h
  | some d =>
    refine ⟨h.ev, h.defers, by simpa [setSlot] using h.len, fun i y v hy hv => ?_, fun i y hy => ?_, h.roots, h.live, h.held, h.hdr⟩
    · rcases set_get _ _ _ _ _ hy with ⟨rfl, rfl⟩ | ⟨hne, hy'⟩
      · have hlt : i < sl.length := by
          rcases Nat.lt_or_ge i sl.length with h' | h'
          · exact h'
          · simp only [setSlot] at hy; rw [List.getElem?_eq_none (by simpa using h')] at hy; simp at hy
        have := h.slots i (.bool b) v (by simp [setSlot, hlt]) hv
        cases this
        exact .con
      · exact h.slots i y v (by simp only [setSlot]; rw [List.getElem?_set_ne (fun e => hne e.symm)]; exact hy') hv
    · rcases set_get _ _ _ _ _ hy with ⟨rfl, rfl⟩ | ⟨hne, hy'⟩
      · exact fun r av hn => by cases hn
      · exact h.names i y (by simp only [setSlot]; rw [List.getElem?_set_ne (fun e => hne e.symm)]; exact hy')

include hT hz in
/-- One operation of a region that is drawn. -/
theorem wpOp_stepG {C : Ctx} {g : Tags} {w : World} {rv : Nat → Value} {ρ : Roots} {sl : List VV} {a : Act} (h : R T C g w rv ρ sl a) {ops : Array Oper} {Q : Exit → Act → World → Prop} {i : Nat} {o : Oper} (hi : ops[i]? = some o)
    {sup : Sup} {res : Res} (hs : stepG P T ops o sl ρ sup = some res) (ho : ∀ p ∈ res.obs, p) {K : Act → World → Prop}
    (hK : ∀ g w rv a, R T C g w rv (ups ρ res.ups) (setSlot sl o.dst res.x) a → K a w) : wpOp P ops Q i K a w := by
  have wanted : ∀ b, guardV ops o sl = some b → Region.wanted o (yielded ops a.tmps) = b := by
    intro b hb
    unfold guardV at hb
    cases hg : o.guard with
    | none =>
      rw [hg] at hb
      simp only [Option.some.injEq] at hb
      simp [Region.wanted, hg, ← hb]
    | some jw =>
      obtain ⟨j, want⟩ := jw
      rw [hg] at hb
      simp only at hb
      cases hd : (ops[j]?).bind (·.dst) with
      | none => rw [hd] at hb; simp at hb
      | some d =>
        rw [hd] at hb
        simp only at hb
        split at hb
        · rename_i c hc
          simp only [Option.some.injEq] at hb
          simp only [Region.wanted, hg, yielded_of h hd hc]
          rw [← hb]; cases c <;> cases want <;> rfl
        · simp at hb
  unfold stepG at hs
  split at hs
  · rename_i hgv
    simp only [Option.map_eq_some_iff] at hs
    obtain ⟨r, hr, hres⟩ := hs
    have hobs : res.obs = r.obs := by rw [← hres]; split <;> rfl
    have hups : res.ups = r.ups := by rw [← hres]; split <;> rfl
    refine wpOp_step hT hz h hi (wanted _ hgv) hr (by rw [← hobs]; exact ho) fun g w rv a hR => hK g w rv a ?_
    rw [hups, ← hres]
    split
    · exact hR.con
    · exact hR
  · rename_i hgv
    simp only [Option.some.injEq] at hs
    subst hs
    exact wpOp_skip h hi (wanted _ hgv) hK
  · simp at hs

include hT hz in
theorem wpAny_fits {C : Ctx} {ops : Array Oper} {st : List (Sup × Res)} {s0 : Roots × List VV} (hf : Fits P T ops st s0) {Q : Exit → Act → World → Prop}
    (hQ : ∀ g w rv a, R T C g w rv (runS ops st s0 (fun _ => true) ops.size).1 (runS ops st s0 (fun _ => true) ops.size).2 a → Q .normal a w) :
    ∀ (fuel : Nat) (listed : Array Bool), listed.size = ops.size → ((List.range ops.size).filter fun j => !listed.getD j false).length = fuel → Closed ops (fun j => listed.getD j false) →
      ∀ g w rv a, R T C g w rv (runS ops st s0 (fun j => listed.getD j false) ops.size).1 (runS ops st s0 (fun j => listed.getD j false) ops.size).2 a → wpAny P .any ops Q fuel listed a w := by
  have same : ∀ (listed : Array Bool), listed.size = ops.size → ∀ j, j < ops.size → listed.getD j true = listed.getD j false := by
    intro listed hl j hj
    simp [hl, hj]
  have full : ∀ (listed : Array Bool), (∀ j, j < ops.size → listed.getD j false = true) → runS ops st s0 (fun j => listed.getD j false) ops.size = runS ops st s0 (fun _ => true) ops.size :=
    fun listed h => runS_congr _ h
  have getop : ∀ i o, ops[i]? = some o → i < ops.size ∧ ops.getD i default = o := by
    intro i o ho
    have hlt : i < ops.size := (Array.getElem?_eq_some_iff.1 ho).1
    refine ⟨hlt, ?_⟩
    rw [Array.getD_eq_getD_getElem?, ho]; rfl
  intro fuel
  induction fuel with
  | zero =>
    intro listed hl hc hcl g w rv a hR
    have hall : ∀ j, j < ops.size → listed.getD j false = true := by
      intro j hj
      cases hb : listed.getD j false with
      | true => rfl
      | false =>
        have : j ∈ (List.range ops.size).filter fun j => !listed.getD j false := List.mem_filter.2 ⟨List.mem_range.2 hj, by simp only [hb]; rfl⟩
        rw [List.length_eq_zero_iff.1 hc] at this; simp at this
    rw [full listed hall] at hR
    refine ⟨?_, hQ g w rv a hR⟩
    cases hr : Region.ready .any ops listed with
    | nil => rfl
    | cons x xs =>
      have hx : x ∈ Region.ready .any ops listed := by rw [hr]; simp
      obtain ⟨h0, o, ho, _⟩ := mem_ready.1 hx
      obtain ⟨hlt, _⟩ := getop x o ho
      rw [same listed hl x hlt, hall x hlt] at h0; simp at h0
  | succ fuel ih =>
    intro listed hl hc hcl g w rv a hR
    refine ⟨fun hr => ?_, fun i hi => ?_⟩
    · have hex : ∃ i, i < ops.size ∧ (fun j => !listed.getD j false) i = true := by
        cases hfl : (List.range ops.size).filter fun j => !listed.getD j false with
        | nil => rw [hfl] at hc; simp at hc
        | cons x xs =>
          have hx : x ∈ (List.range ops.size).filter fun j => !listed.getD j false := by rw [hfl]; simp
          rw [List.mem_filter, List.mem_range] at hx
          exact ⟨x, hx⟩
      obtain ⟨i, h1, h2, h3⟩ := least _ _ hex
      have : i ∈ Region.ready .any ops listed := by
        rw [mem_ready]
        refine ⟨by rw [same listed hl i h1]; simpa using h2, ops[i], by simp [h1], fun e he hb => ?_⟩
        have hop : ops.getD i default = ops[i] := by simp [h1]
        have := hf.edge i h1 e (by rw [hop]; exact he) hb
        have := h3 e.on this
        simpa using this
      rw [hr] at this; simp at this
    · obtain ⟨h0, o, ho, hall⟩ := mem_ready.1 hi
      obtain ⟨hlt, hop⟩ := getop i o ho
      have hn : listed.getD i false = false := by rw [← same listed hl i hlt]; exact h0
      have hp : ∀ e ∈ (ops.getD i default).after, Region.binds .any e = true → listed.getD e.on false = true := by rw [hop]; exact hall
      have hs := ready_step hf hcl hlt hn hp
      rw [hop] at hs
      refine wpOp_stepG hT hz hR ho hs (hf.obs i hlt) fun g w rv a hR' => ?_
      have hset : ∀ j, (listed.setIfInBounds i true).getD j false = (listed.getD j false || j == i) := by
        intro j
        by_cases hj : j = i
        · subst hj; simp [hl, hlt]
        · rw [getD_set_ne false (Ne.symm hj)]
          simp [hj]
      refine ih (listed.setIfInBounds i true) (by simpa using hl) ?_ ?_ g w rv a ?_
      · have e : ((List.range ops.size).filter fun j => !(listed.setIfInBounds i true).getD j false) = ((List.range ops.size).filter fun j => !listed.getD j false).filter (fun j => !(j == i)) := by
          rw [List.filter_filter]
          apply List.filter_congr
          intro j _
          rw [hset]; simp [Bool.and_comm]
        rw [e]
        have hnd : ((List.range ops.size).filter fun j => !listed.getD j false).Nodup := List.Pairwise.filter _ List.nodup_range
        have hmem : i ∈ (List.range ops.size).filter fun j => !listed.getD j false := List.mem_filter.2 ⟨List.mem_range.2 hlt, by simp only [hn]; rfl⟩
        have he : (((List.range ops.size).filter fun j => !listed.getD j false).filter fun j => !(j == i)) = ((List.range ops.size).filter fun j => !listed.getD j false).erase i := by
          rw [hnd.erase_eq_filter]
          apply List.filter_congr
          intro j _
          simp [bne]
        rw [he, List.length_erase_of_mem hmem, hc]; rfl
      · intro j hj hsj e he hb
        simp only [hset, Bool.or_eq_true, beq_iff_eq] at hsj ⊢
        rcases hsj with h | h
        · exact .inl (hcl j hj h e he hb)
        · subst h; exact .inl (hp e he hb)
      · have hu := ready_upd hf hcl hlt hn hp ops.size hlt (Nat.le_refl _)
        have hfun : (fun j => (listed.setIfInBounds i true).getD j false) = fun j => listed.getD j false || j == i := funext hset
        rw [hfun, hu, hop]
        exact hR'

/-- A run in the order of the text, one operation after the other. -/
def ARun (P : Program) (T : Tab) (J : Job) (k : List Item) (ops : Array Oper) : List Oper → List Rec → Roots → List VV → Prop
  | [], recs, ρ, sl => checkB ops recs = true ∧ Fin P T J k ρ sl
  | o :: rest, recs, ρ, sl => ∃ sup res, stepG P T ops o sl ρ sup = some res ∧ (∀ p ∈ res.obs, p) ∧
      ARun P T J k ops rest (recs ++ [recOf ops o (sval sl) sup res]) (ups ρ res.ups) (setSlot sl o.dst res.x)

theorem runS_snoc {ops : Array Oper} {st : List (Sup × Res)} {s0 : Roots × List VV} (x : Sup × Res) : ∀ m, m ≤ st.length → runS ops (st ++ [x]) s0 (fun _ => true) m = runS ops st s0 (fun _ => true) m
  | 0, _ => rfl
  | m + 1, h => by
    simp only [runS, if_true]
    rw [runS_snoc x m (by omega)]
    have : (st ++ [x]).getD m nores = st.getD m nores := by
      simp only [List.getD_eq_getElem?_getD]
      rw [List.getElem?_append_left (by omega)]
    rw [this]

structure Goes (P : Program) (T : Tab) (ops : Array Oper) (st : List (Sup × Res)) (s0 : Roots × List VV) : Prop where
  step : ∀ i, i < st.length → stepG P T ops (ops.getD i default) (runS ops st s0 (fun _ => true) i).2 (runS ops st s0 (fun _ => true) i).1 (st.getD i nores).1 = some (st.getD i nores).2
  obs : ∀ i, i < st.length → ∀ p ∈ (st.getD i nores).2.obs, p

def recsOf (ops : Array Oper) (st : List (Sup × Res)) (s0 : Roots × List VV) : List Rec :=
  (List.range st.length).map fun i => recOf ops (ops.getD i default) (sval (runS ops st s0 (fun _ => true) i).2) (st.getD i nores).1 (st.getD i nores).2

theorem ARun.goes {J : Job} {k : List Item} {ops : Array Oper} {s0 : Roots × List VV} : ∀ (rest : List Oper) (st : List (Sup × Res)) (recs : List Rec) (ρ : Roots) (sl : List VV),
    ops.toList.drop st.length = rest → st.length ≤ ops.size → Goes P T ops st s0 → recs = recsOf ops st s0 → (ρ, sl) = runS ops st s0 (fun _ => true) st.length → ARun P T J k ops rest recs ρ sl →
      ∃ st', st'.length = ops.size ∧ Goes P T ops st' s0 ∧ checkB ops (recsOf ops st' s0) = true ∧ Fin P T J k (runS ops st' s0 (fun _ => true) ops.size).1 (runS ops st' s0 (fun _ => true) ops.size).2
  | [], st, recs, ρ, sl, hd, hle, hg, hrec, hs, h => by
    obtain ⟨h1, h2⟩ := h
    have hl : st.length = ops.size := by
      have := List.drop_eq_nil_iff.1 hd
      simp at this; omega
    refine ⟨st, hl, hg, by rw [← hrec]; exact h1, ?_⟩
    rw [← hl, ← hs]; exact h2
  | o :: rest, st, recs, ρ, sl, hd, hle, hg, hrec, hs, h => by
    obtain ⟨sup, res, h2, h3, h4⟩ := h
    have hlt : st.length < ops.size := by
      rcases Nat.lt_or_ge st.length ops.size with h' | h'
      · exact h'
      · rw [List.drop_eq_nil_iff.2 (by simpa using h')] at hd; simp at hd
    have hop : ops.getD st.length default = o := by
      have : ops.toList[st.length]? = some o := by
        have := List.head?_drop (l := ops.toList) (i := st.length)
        rw [hd] at this; simpa using this.symm
      rw [Array.getD_eq_getD_getElem?, ← Array.getElem?_toList, this]; rfl
    have hget : ∀ i, i < st.length → (st ++ [(sup, res)]).getD i nores = st.getD i nores := by
      intro i hi
      simp only [List.getD_eq_getElem?_getD]
      rw [List.getElem?_append_left hi]
    have hlast : (st ++ [(sup, res)]).getD st.length nores = (sup, res) := by simp [List.getD_eq_getElem?_getD]
    have hrun : ∀ i, i ≤ st.length → runS ops (st ++ [(sup, res)]) s0 (fun _ => true) i = runS ops st s0 (fun _ => true) i := fun i hi => runS_snoc _ i hi
    have hgoes : Goes P T ops (st ++ [(sup, res)]) s0 := by
      refine ⟨fun i hi => ?_, fun i hi => ?_⟩ <;> simp only [List.length_append, List.length_cons, List.length_nil] at hi <;> rcases Nat.lt_or_ge i st.length with h' | h'
      · rw [hget i h', hrun i (by omega)]; exact hg.step i h'
      · have : i = st.length := by omega
        subst this
        rw [hlast, hrun _ (Nat.le_refl _), hop, ← hs]; exact h2
      · rw [hget i h']; exact hg.obs i h'
      · have : i = st.length := by omega
        subst this; rw [hlast]; exact h3
    refine ARun.goes rest (st ++ [(sup, res)]) _ _ _ ?_ (by simp; omega) hgoes ?_ ?_ h4
    · simp only [List.length_append, List.length_cons, List.length_nil]
      rw [← List.drop_drop, hd]; rfl
    · rw [hrec]
      unfold recsOf
      simp only [List.length_append, List.length_cons, List.length_nil, Nat.zero_add, List.range_succ, List.map_append, List.map_cons, List.map_nil]
      rw [hlast, hrun _ (Nat.le_refl _), hop, ← hs]
      congr 1
      apply List.map_congr_left
      intro i hi
      rw [hget i (by simpa using hi), hrun i (by have := List.mem_range.1 hi; omega)]
    · simp only [List.length_append, List.length_cons, List.length_nil, Nat.zero_add]
      simp only [runS, if_true]
      rw [hlast, hrun _ (Nat.le_refl _), hop, ← hs]; rfl

include hT hz in
theorem Fin.drawn (hm : P.follows .mixedOrders = true) {J : Job} {k : List Item} {ρ : Roots} {sl : List VV} {id : Nat} {ops : Array Oper} (h : ARun P T J k ops ops.toList [] ρ sl) :
    Fin P T J (.code (.region id ops true) :: k) ρ sl := by
  obtain ⟨st, h1, h2, h3, h4⟩ := ARun.goes (s0 := (ρ, sl)) ops.toList [] [] ρ sl rfl (Nat.zero_le _) ⟨fun i hi => by simp at hi, fun i hi => by simp at hi⟩ rfl rfl h
  simp only [checkB, List.all_eq_true, List.mem_range, Bool.and_eq_true] at h3
  have hf : Fits P T ops st (ρ, sl) := by
    refine ⟨h1, fun i hi => h2.step i (by omega), fun i hi => h2.obs i (by omega), fun j hj e he hb => ?_, fun i j hij hj => ?_⟩
    · have := (h3 j hj).1 e (Array.mem_toList_iff.2 he)
      simpa [hb] using this
    · have := (h3 j hj).2 i hij
      rw [Bool.or_eq_true] at this
      rcases this with h | h
      · refine .inr ?_
        have e : ∀ i, i < ops.size → (recsOf ops st (ρ, sl)).getD i ⟨none, [], [], []⟩ = recOf ops (ops.getD i default) (sval (runS ops st (ρ, sl) (fun _ => true) i).2) (st.getD i nores).1 (st.getD i nores).2 := by
          intro i hi
          simp [recsOf, List.getD_eq_getElem?_getD, h1, hi]
        rw [e i (by omega), e j hj] at h
        exact h
      · exact .inl h
  intro g w rv a hR b cs hb hk
  have hwp : (Code.region id ops true).wp P (After P T J k) a w := by
    refine wp_region_any hm (wpAny_fits (C := J.C) hT hz hf (fun g w rv a hR => ⟨rfl, fun b cs hb hk => h4 g w rv a hR b cs hb hk⟩) ops.size _ (by simp) ?_ ?_ g _ rv a ?_)
    · rw [List.filter_eq_self.2]
      · simp
      · intro j hj
        have := List.mem_range.1 hj
        simp [this]
    · intro j hj hs
      simp [hj] at hs
    · have : runS ops st (ρ, sl) (fun j => (Array.replicate ops.size false).getD j false) ops.size = (ρ, sl) := by
        rw [runS_congr (S' := fun _ => false) ops.size (fun i hi => by simp [hi])]
        have : ∀ m, runS ops st (ρ, sl) (fun _ => false) m = (ρ, sl) := by
          intro m
          induction m with
          | zero => rfl
          | succ m ih => simp only [runS]; rw [if_neg (by simp)]; exact ih
        exact this _
      rw [this]
      exact hR.heap_same rfl rfl rfl rfl
  obtain ⟨e, a', w', ⟨rfl, hq⟩, harr⟩ := hwp b k cs
  exact .of_steps harr (hq b cs hb hk)

end
end Go.VI

namespace Go.VI

inductive How where
  | frz
  | hid
  | mv (s : Nat)

def How.tag : How → List Nat → Nat → Tag
  | .frz, _, _ => .imm
  | .hid, _, _ => .hid
  | .mv s, q, k => .own s q k

def tell1 (how : How) (r : Nat) (root : Root) : VV → VV
  | .top r' av => if r' = r then (if av = root.av then (match how with
      | .frz => .imm root.e root.full root.els
      | .hid => .dead
      | .mv s => .top s 0) else .dead) else .top r' av
  | .win r' av off len full => if r' = r then (if av = root.av then (match how with
      | .frz => .imm root.e full ((root.els.drop off).take len)
      | .hid => .dead
      | .mv s => .win s 0 off len full) else .dead) else .win r' av off len full
  | .addr r' av i q t => if r' = r then (if av = root.av then (match how with
      | .frz => .iaddr t ((root.els.getD i .nil).at q)
      | .hid => .dead
      | .mv s => .addr s 0 i q t) else .dead) else .addr r' av i q t
  | .fn f caps => if (keysOfL caps).contains r then .dead else .fn f caps
  | .tup vs => if (keysOfL vs).contains r then .dead else .tup vs
  | x => x

def tellV (how : How) (r : Nat) (root : Root) : VV → VV
  | .fn f caps => .fn f (caps.map (tell1 how r root))
  | x => tell1 how r root x

def Roots.del (ρ : Roots) (r : Nat) : Roots := fun k => if k = r then none else ρ k

def How.roots (how : How) (ρ : Roots) (r : Nat) (root : Root) : Roots :=
  match how with
  | .mv s => (ρ.del r).set s { root with av := 0 }
  | _ => ρ.del r

section
variable {P : Program} {T : Tab} (hT : TabOK P T) {C : Ctx} {g : Tags} {w : World} {rv : Nat → Value} {ρ : Roots} {sl : List VV} {a : Act}

theorem mem_keysOfL {x : VV} {k : Nat} : ∀ {l : List VV}, x ∈ l → k ∈ keysOf x → k ∈ keysOfL l
  | y :: l, hx, hk => by
    simp only [List.mem_cons] at hx
    simp only [keysOfL, List.mem_append]
    rcases hx with rfl | hx
    · exact .inl hk
    · exact .inr (mem_keysOfL hx hk)

theorem names_keys {x : VV} {r av : Nat} (h : Names r av x) : r ∈ keysOf x := by
  induction h with
  | top => simp [keysOf]
  | win => simp [keysOf]
  | addr => simp [keysOf]
  | fn hm _ ih => simp only [keysOf]; exact mem_keysOfL hm ih
  | tup hm _ ih => simp only [keysOf]; exact mem_keysOfL hm ih

def gTags (g : Tags) (how : How) (r : Nat) : Tags := fun b o => match g b o with
  | .own r' q k => if r' = r then how.tag q k else .own r' q k
  | t => t

def gRv (rv : Nat → Value) (how : How) (r : Nat) : Nat → Value := match how with
  | .mv s => fun k => if k = s then rv r else rv k
  | _ => rv

/-- The whole row, as nobody's. -/
theorem RootR.frozen {r : Nat} {root : Root} (h : RootR T g w rv r root) (hk : root.keys = []) : DR T (gTags g .frz r) w rv imms .imm (.slc root.e) (.list root.els) [rv r] := by
  refine h.dr.retag .imm (.inr (.inl ⟨r, [], root.dep, rfl, rfl, fun K hK => by rw [hk] at hK; simp at hK⟩)) fun b o hc => ?_
  unfold gTags
  cases hg : g b o with
  | imm => simp [Retag]
  | hid => rw [hg] at hc; simp [Cov] at hc
  | own r' q k =>
    rw [hg] at hc
    have : r' = r := hc.1
    subst this
    simp [Retag, How.tag]

variable {r : Nat} {root : Root} (hr : ρ r = some root) (hR : ∀ k rk, ρ k = some rk → RootR T g w rv k rk) (hk : root.keys = [])

theorem gTags_imm {how : How} {b o : Nat} (h : g b o = .imm) : gTags g how r b o = .imm := by simp [gTags, h]

include hT hr hR hk in
theorem tell1_sr {how : How} (hs : ∀ s, how = .mv s → s = r ∨ ρ s = none) {x : VV} {v : Value} (hx : SR T g w rv ρ x v) (hl : Live ρ x) :
    SR T (gTags g how r) w (gRv rv how r) (how.roots ρ r root) (tell1 how r root x) v ∧ Live (how.roots ρ r root) (tell1 how r root x) := by
  have hRr := hR r root hr
  -- a value that does not name r
  have other : ∀ {x : VV}, SR T g w rv ρ x v → Live ρ x → r ∉ keysOf x → SR T (gTags g how r) w (gRv rv how r) (how.roots ρ r root) x v ∧ Live (how.roots ρ r root) x := by
    intro x hx hl hn
    have look : ∀ r' av', Names r' av' x → ∃ root', ρ r' = some root' ∧ av' ≤ root'.av ∧ how.roots ρ r root r' = some root' ∧ gRv rv how r r' = rv r' := by
      intro r' av' hn'
      obtain ⟨root', h1, h2⟩ := hl r' av' hn'
      have hne : r' ≠ r := fun e => hn (e ▸ names_keys hn')
      refine ⟨root', h1, h2, ?_, ?_⟩
      · cases how with
        | frz => simp [How.roots, Roots.del, hne, h1]
        | hid => simp [How.roots, Roots.del, hne, h1]
        | mv s =>
          have hs' : r' ≠ s := by
            rcases hs s rfl with e | e
            · rw [e]; exact hne
            · intro e'; rw [← e', h1] at e; simp at e
          simp [How.roots, Roots.set, Roots.del, hne, hs', h1]
      · cases how with
        | frz => rfl
        | hid => rfl
        | mv s =>
          have hs' : r' ≠ s := by
            rcases hs s rfl with e | e
            · rw [e]; exact hne
            · intro e'; rw [← e', h1] at e; simp at e
          simp [gRv, hs']
    refine ⟨hx.keep (fun b o u hi hu => ⟨gTags_imm hi, hu, rfl⟩) hl (fun r' av' hn' => ⟨fun root1 root2 h1 h2 => .inl ?_⟩), fun r' av' hn' => ?_⟩
    · obtain ⟨root', k1, _, k3, k4⟩ := look r' av' hn'
      rw [k1] at h1
      rw [k3] at h2
      simp only [Option.some.injEq] at h1 h2
      subst h1; subst h2
      exact ⟨rfl, rfl, rfl, k4⟩
    · obtain ⟨root', k1, k2, k3, _⟩ := look r' av' hn'
      exact ⟨root', k3, k2⟩
  have dead : SR T (gTags g how r) w (gRv rv how r) (how.roots ρ r root) .dead v ∧ Live (how.roots ρ r root) .dead := ⟨.dead, fun r av hn => by cases hn⟩
  have mvs : ∀ s, how = .mv s → how.roots ρ r root s = some { root with av := 0 } ∧ gRv rv how r s = rv r := by
    intro s e
    subst e
    exact ⟨set_self _ _ _, by simp [gRv]⟩
  cases x with
  | top r' av =>
    simp only [tell1]
    by_cases e : r' = r
    · subst e
      rw [if_pos rfl]
      by_cases hav : av = root.av
      · rw [if_pos hav]
        cases hx with
        | top hx =>
          have hv := hx root hr hav
          subst hv
          cases how with
          | hid => exact dead
          | frz =>
            refine ⟨.imm (hRr.frozen hk) hRr.full, fun r av hn => by cases hn⟩
          | mv s =>
            obtain ⟨m1, m2⟩ := mvs s rfl
            exact ⟨.top fun _ _ _ => m2.symm, fun r av hn => by cases hn; exact ⟨_, m1, Nat.le_refl _⟩⟩
      · rw [if_neg hav]; exact dead
    · rw [if_neg e]
      exact other hx hl (by simp [keysOf]; exact fun e' => e e'.symm)
  | win r' av off len full =>
    simp only [tell1]
    by_cases e : r' = r
    · subst e
      rw [if_pos rfl]
      by_cases hav : av = root.av
      · rw [if_pos hav]
        cases hx with
        | win hx =>
          obtain ⟨k1, A', c', k2, k3, k4, k5⟩ := hx root hr hav
          subst k2
          cases how with
          | hid => exact dead
          | frz =>
            have hf := hRr.frozen hk
            obtain ⟨A, c, b, o, us, h1, h2, h3, h4, h5, h6⟩ := hf.node_inv
            simp only [List.cons.injEq, and_true] at h1
            simp only [D.els] at *
            have hlen : ((root.els.drop off).take len).length = len := by simp; omega
            refine ⟨.imm ?_ fun hf => ⟨A', by rw [hlen, k4 hf]⟩, fun r av hn => by cases hn⟩
            have key := DR.node (T := T) (g := gTags g .frz r') (w := w) (rv := rv) (ks := imms) (m := .imm) (e := root.e) (d := .list ((root.els.drop off).take len)) A' c' b (o + off * T.sz root.e) (fun i => us (off + i))
              (fun hne => by
                simp only [D.els] at hne
                have hpos : 0 < len := by rw [← hlen]; exact List.length_pos_iff.2 hne
                obtain ⟨b2, o2, ⟨c2, hb2⟩, hA⟩ := k5 hpos
                have hne' : root.els ≠ [] := by intro e; rw [e] at k1; simp at k1; omega
                have hA' := h2 hne'
                rw [h1, hA'] at hb2
                simp only [Value.slice.injEq, Option.some.injEq, Addr.mk.injEq] at hb2
                obtain ⟨⟨rfl, rfl, -⟩, -, -⟩ := hb2
                exact hA)
              (by simp only [D.els]; rw [hlen]; exact k3)
              (fun i hi => h4 _ (by simp only [D.els, hlen] at hi; omega))
              (fun i k v hi hv => by
                simp only [D.els, hlen] at hi
                have := h5 (off + i) k v (by omega) hv
                rw [Nat.add_mul] at this
                rw [show o + off * T.sz root.e + i * T.sz root.e + k = o + (off * T.sz root.e + i * T.sz root.e) + k from by omega]
                exact ⟨this.1, this.2.1, fun hm => absurd rfl hm⟩)
              (fun i hi => by
                simp only [D.els, hlen] at hi ⊢
                have := h6 (off + i) (by omega)
                have e : ((root.els.drop off).take len).getD i .nil = root.els.getD (off + i) .nil := by
                  simp only [List.getD_eq_getElem?_getD, List.getElem?_take, List.getElem?_drop]
                  rw [if_pos hi]
                rw [e]; exact this)
            simp only [D.els, hlen] at key
            exact key
          | mv s =>
            obtain ⟨m1, m2⟩ := mvs s rfl
            refine ⟨.win fun root2 h1 _ => ?_, fun r av hn => by cases hn; exact ⟨_, m1, Nat.le_refl _⟩⟩
            rw [m1] at h1
            simp only [Option.some.injEq] at h1; subst h1
            refine ⟨k1, A', c', rfl, k3, k4, fun hl => ?_⟩
            obtain ⟨b, o, ⟨c2, hb⟩, hA⟩ := k5 hl
            exact ⟨b, o, ⟨c2, by rw [m2, hb]⟩, hA⟩
      · rw [if_neg hav]; exact dead
    · rw [if_neg e]
      exact other hx hl (by simp [keysOf]; exact fun e' => e e'.symm)
  | addr r' av i q t =>
    simp only [tell1]
    by_cases e : r' = r
    · subst e
      rw [if_pos rfl]
      by_cases hav : av = root.av
      · rw [if_pos hav]
        cases hx with
        | addr hx =>
          obtain ⟨k1, fo, b, o, k2, hb, rfl⟩ := hx root hr hav
          cases how with
          | hid => exact dead
          | frz =>
            obtain ⟨q', κ, hobj, _⟩ := hRr.at hT k1 hb k2
            obtain ⟨vs, hd, hcell⟩ := hobj.ex
            refine ⟨.iaddr (vs := vs) ?_ (fun k v hv => ?_), fun r av hn => by cases hn⟩
            · refine (hd.retag (g' := gTags g .frz r') (ks' := imms) .imm (.inr (.inl ⟨r', _, _, rfl, rfl, fun K hK => by rw [hk] at hK; simp at hK⟩)) fun b o hc => ?_)
              unfold gTags
              cases hg : g b o with
              | imm => simp [Retag]
              | hid => rw [hg] at hc; simp [Cov] at hc
              | own r2 q2 k2 =>
                rw [hg] at hc
                have : r2 = r' := hc.1
                subst this
                simp [Retag, How.tag]
            · obtain ⟨c1, c2, _⟩ := hcell k v hv
              exact ⟨c1, by simp [gTags, c2, How.tag]⟩
          | mv s =>
            obtain ⟨m1, m2⟩ := mvs s rfl
            refine ⟨.addr fun root2 h1 _ => ?_, fun r av hn => by cases hn; exact ⟨_, m1, Nat.le_refl _⟩⟩
            rw [m1] at h1
            simp only [Option.some.injEq] at h1; subst h1
            obtain ⟨c2, hb⟩ := hb
            exact ⟨k1, fo, b, o, k2, ⟨c2, by rw [m2, hb]⟩, rfl⟩
      · rw [if_neg hav]; exact dead
    · rw [if_neg e]
      exact other hx hl (by simp [keysOf]; exact fun e' => e e'.symm)
  | fn f caps =>
    simp only [tell1]
    split
    · exact dead
    · rename_i hc
      exact other hx hl (by simpa [keysOf] using hc)
  | tup vs =>
    simp only [tell1]
    split
    · exact dead
    · rename_i hc
      exact other hx hl (by simpa [keysOf] using hc)
  | int k n => exact other hx hl (List.not_mem_nil)
  | bool b => exact other hx hl (List.not_mem_nil)
  | str s => exact other hx hl (List.not_mem_nil)
  | con v => exact other hx hl (List.not_mem_nil)
  | nils => exact other hx hl (List.not_mem_nil)
  | imm e f l => exact other hx hl (List.not_mem_nil)
  | agg t d => exact other hx hl (List.not_mem_nil)
  | iaddr t d => exact other hx hl (List.not_mem_nil)
  | dead => exact other hx hl (List.not_mem_nil)

include hT hr hR hk in
theorem tellV_sr {how : How} (hs : ∀ s, how = .mv s → s = r ∨ ρ s = none) {x : VV} {v : Value} (hx : SR T g w rv ρ x v) (hl : Live ρ x) :
    SR T (gTags g how r) w (gRv rv how r) (how.roots ρ r root) (tellV how r root x) v ∧ Live (how.roots ρ r root) (tellV how r root x) := by
  cases x <;> try exact tell1_sr hT hr hR hk hs hx hl
  rename_i f caps
  simp only [tellV]
  cases hx with
  | @fn _ _ cs h1 h2 =>
    have one : ∀ (i : Nat) x v, caps[i]? = some x → cs[i]? = some v → SR T (gTags g how r) w (gRv rv how r) (how.roots ρ r root) (tell1 how r root x) v ∧ Live (how.roots ρ r root) (tell1 how r root x) :=
      fun i x v hx hv => tell1_sr hT hr hR hk hs (h2 i x v hx hv) (fun r' av' hn => hl r' av' (.fn (List.mem_of_getElem? hx) hn))
    refine ⟨.fn (by simpa using h1) fun i x v hx hv => ?_, fun r' av' hn => ?_⟩
    · simp only [List.getElem?_map, Option.map_eq_some_iff] at hx
      obtain ⟨y, hy, rfl⟩ := hx
      exact (one i y v hy hv).1
    · cases hn with
      | fn hm hn =>
        obtain ⟨y, hy, rfl⟩ := List.mem_map.1 hm
        obtain ⟨i, hi⟩ := List.mem_iff_getElem?.1 hy
        have hlt : i < caps.length := by
          rcases Nat.lt_or_ge i caps.length with h' | h'
          · exact h'
          · rw [List.getElem?_eq_none h'] at hi; simp at hi
        exact (one i y cs[i] hi (by simp [show i < cs.size by omega])).2 r' av' hn

include hT in
/-- A root is frozen, let go, or told under another key. -/
theorem R.tell (h : R T C g w rv ρ sl a) {r : Nat} {root : Root} (hr : ρ r = some root) (hk : root.keys = []) (hheld : root.held = false) (hh : C.hdr r = none) (hown : ∀ b o r q k, C.g0 b o = .own r q k → (C.hdr r).isSome)
    (how : How) (hs : ∀ s, how = .mv s → s = r ∨ ρ s = none) :
    R T C (gTags g how r) w (gRv rv how r) (how.roots ρ r root) (sl.map (tellV how r root)) a := by
  have hne : ∀ k rk, ρ k = some rk → k ≠ r → how.roots ρ r root k = some rk ∧ gRv rv how r k = rv k := by
    intro k rk h1 hn
    cases how with
    | frz => exact ⟨by simp [How.roots, Roots.del, hn, h1], rfl⟩
    | hid => exact ⟨by simp [How.roots, Roots.del, hn, h1], rfl⟩
    | mv s =>
      have hs' : k ≠ s := by
        rcases hs s rfl with e | e
        · rw [e]; exact hn
        · intro e'; rw [← e', h1] at e; simp at e
      exact ⟨by simp [How.roots, Roots.set, Roots.del, hn, hs', h1], by simp [gRv, hs']⟩
  have inv : ∀ k rk, how.roots ρ r root k = some rk → (k ≠ r ∧ ρ k = some rk ∧ (∀ s, how = .mv s → k ≠ s)) ∨ (how = .mv k ∧ rk = { root with av := 0 }) := by
    intro k rk h1
    cases how with
    | frz =>
      simp only [How.roots, Roots.del] at h1
      split at h1
      · simp at h1
      · rename_i hn; exact .inl ⟨hn, h1, fun s e => by cases e⟩
    | hid =>
      simp only [How.roots, Roots.del] at h1
      split at h1
      · simp at h1
      · rename_i hn; exact .inl ⟨hn, h1, fun s e => by cases e⟩
    | mv s =>
      simp only [How.roots, Roots.set, Roots.del] at h1
      split at h1
      · rename_i e
        simp only [Option.some.injEq] at h1
        exact .inr ⟨by rw [e], h1.symm⟩
      · rename_i e
        split at h1
        · simp at h1
        · rename_i hn; exact .inl ⟨hn, h1, fun s' e' => by cases e'; exact e⟩
  refine ⟨⟨h.ev.os, h.ev.tape, h.ev.output, h.ev.size, h.ev.blk, h.ev.cell, h.ev.froz, h.ev.has, fun b o hb => ?_⟩, h.defers, by simpa using h.len, fun i x v hx hv => ?_, fun i x hx => ?_, fun k rk hk' => ?_, fun b o k q j hg => ?_, fun k rk hk' K hK => ?_, ?_⟩
  · rw [← h.ev.tags b o hb]
    unfold gTags
    cases hg : g b o with
    | imm => rfl
    | hid => rfl
    | own r' q k =>
      have : r' ≠ r := by
        rintro rfl
        have := hown b o r' q k (by rw [← h.ev.tags b o hb]; exact hg)
        rw [hh] at this; simp at this
      simp [this]
  · simp only [List.getElem?_map, Option.map_eq_some_iff] at hx
    obtain ⟨y, hy, rfl⟩ := hx
    exact (tellV_sr hT hr h.roots hk hs (h.slots i y v hy hv) (h.names i y hy)).1
  · simp only [List.getElem?_map, Option.map_eq_some_iff] at hx
    obtain ⟨y, hy, rfl⟩ := hx
    have hlt : i < a.tmps.size := by
      rw [← h.len]
      rcases Nat.lt_or_ge i sl.length with h' | h'
      · exact h'
      · rw [List.getElem?_eq_none h'] at hy; simp at hy
    exact (tellV_sr hT hr h.roots hk hs (h.slots i y a.tmps[i] hy (by simp [hlt])) (h.names i y hy)).2
  · rcases inv k rk hk' with ⟨hn, h1, _⟩ | ⟨e, rfl⟩
    · have hRk := h.roots k rk h1
      have hrv := (hne k rk h1 hn).2
      have own : ∀ b o q j, g b o = .own k q j → gTags g how r b o = .own k q j := fun b o q j hg => by simp [gTags, hg, hn]
      refine ⟨hRk.dep, ?_, by rw [hrv]; exact hRk.full, fun b o c h2 j h3 h4 => ?_, by rw [hrv]; exact hRk.form⟩
      · rw [hrv]
        refine hRk.dr.agree (fun b o v hc hv => ⟨?_, hv, rfl⟩) (fun K hK => ⟨hK, ?_⟩)
        · cases hg : g b o with
          | imm => exact gTags_imm hg
          | hid => rw [hg] at hc; simp [Cov] at hc
          | own r' q j =>
            rw [hg] at hc
            have : r' = k := hc.1
            subst this
            exact own b o q j hg
        · obtain ⟨rK, e1, e2⟩ := h.held k rk h1 K hK
          refine (hne K rK e1 ?_).2
          rintro rfl
          rw [hr] at e1
          simp only [Option.some.injEq] at e1
          rw [← e1, hheld] at e2; simp at e2
      · rw [hrv] at h2
        obtain ⟨m1, m2, m3⟩ := hRk.spare b o c h2 j h3 h4
        exact ⟨m1, own _ _ _ _ m2, m3⟩
    · subst e
      have hRr := h.roots r root hr
      have hrv : gRv rv (.mv k) r k = rv r := by simp [gRv]
      have own : ∀ b o q j, g b o = .own r q j → gTags g (.mv k) r b o = .own k q j := fun b o q j hg => by simp [gTags, hg, How.tag]
      refine ⟨hRr.dep, ?_, by rw [hrv]; exact hRr.full, fun b o c h2 j h3 h4 => ?_, by rw [hrv]; exact hRr.form⟩
      · rw [hrv]
        have hd := hRr.dr.retag (g' := gTags g (.mv k) r) (ks' := (· ∈ root.keys)) (.own k [] root.dep) (.inr (.inr ⟨r, [], root.dep, k, [], rfl, rfl, fun h => h, fun _ h => h⟩)) (fun b o hc => by
          cases hg : g b o with
          | imm => simp only [Retag]; exact gTags_imm hg
          | hid => rw [hg] at hc; simp [Cov] at hc
          | own r' q j =>
            rw [hg] at hc
            simp only [Cov] at hc
            simp only [Retag]
            intro e1 _ s e2
            subst e1
            rw [own b o q j hg, e2])
        exact hd.agree (fun _ _ _ _ hv => ⟨rfl, hv, rfl⟩) (fun K hK => by simp only [hk] at hK; simp at hK)
      · rw [hrv] at h2
        obtain ⟨m1, m2, m3⟩ := hRr.spare b o c h2 j h3 h4
        exact ⟨m1, own _ _ _ _ m2, m3⟩
  · unfold gTags at hg
    cases hg' : g b o with
    | imm => rw [hg'] at hg; simp at hg
    | hid => rw [hg'] at hg; simp at hg
    | own r' q' k' =>
      rw [hg'] at hg
      simp only at hg
      by_cases e : r' = r
      · rw [if_pos e] at hg
        cases how with
        | frz => simp [How.tag] at hg
        | hid => simp [How.tag] at hg
        | mv s =>
          simp only [How.tag, Tag.own.injEq] at hg
          rw [← hg.1]
          simp [How.roots, set_self]
      · rw [if_neg e] at hg
        simp only [Tag.own.injEq] at hg
        obtain ⟨rfl, -, -⟩ := hg
        obtain ⟨rk, h1⟩ := Option.isSome_iff_exists.1 (h.live b o r' q' k' hg')
        rw [(hne r' rk h1 e).1]; rfl
  · have find : ∀ k rk, ρ k = some rk → K ∈ rk.keys → ∃ rK, how.roots ρ r root K = some rK ∧ rK.held = true := by
      intro k rk h1 hK
      obtain ⟨rK, e1, e2⟩ := h.held k rk h1 K hK
      refine ⟨rK, (hne K rK e1 ?_).1, e2⟩
      rintro rfl
      rw [hr] at e1
      simp only [Option.some.injEq] at e1
      rw [← e1, hheld] at e2; simp at e2
    rcases inv k rk hk' with ⟨hn, h1, _⟩ | ⟨e, rfl⟩
    · exact find k rk h1 hK
    · exact find r root hr hK
  · intro k av v hkv
    obtain ⟨rk, h1, h2, h3⟩ := h.hdr k av v hkv
    have hn : k ≠ r := by rintro rfl; rw [hh] at hkv; simp at hkv
    obtain ⟨m1, m2⟩ := hne k rk h1 hn
    exact ⟨rk, m1, h2, fun e => by rw [m2]; exact h3 e⟩

/-- A slot is let go. -/
theorem R.kill (h : R T C g w rv ρ sl a) (p : Nat → Bool) : R T C g w rv ρ (sl.mapIdx fun i x => if p i then x else .dead) a := by
  refine ⟨h.ev, h.defers, by simpa using h.len, fun i x v hx hv => ?_, fun i x hx => ?_, h.roots, h.live, h.held, h.hdr⟩
  · simp only [List.getElem?_mapIdx, Option.map_eq_some_iff] at hx
    obtain ⟨y, hy, rfl⟩ := hx
    split
    · exact h.slots i y v hy hv
    · exact .dead
  · simp only [List.getElem?_mapIdx, Option.map_eq_some_iff] at hx
    obtain ⟨y, hy, rfl⟩ := hx
    split
    · exact h.names i y hy
    · intro r av hn; cases hn

end
end Go.VI
