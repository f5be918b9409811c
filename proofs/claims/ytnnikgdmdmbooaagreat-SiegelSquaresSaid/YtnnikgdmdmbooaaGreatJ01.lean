/- What a place of memory holds, told as pure data: the data, the marks of the cells, and what it means that cells read as data. Objects inside a root: how a path leads to one, and that a store into one leaves the others as they are. The state of a call, told without addresses, and what it means that a frame and a world are in that state. What each operation does to a state that is told without addresses: a function, with the facts that it asks for. The operations that leave memory as it is. -/
import Derived.Orders
import Derived.Below
import Derived.Laws.Entries
import Derived.Laws.Small
import Derived.Laws.Slices
import Derived.Laws.ByValue
set_option linter.unusedVariables false
set_option linter.unusedSimpArgs false
namespace Go.VI

/-- Comparisons that are evaluated at once. -/
def eqb (a b : Nat) : Bool := decide (a = b)
def ltb (a b : Nat) : Bool := decide (a < b)
theorem eq_of_eqb {a b : Nat} (h : eqb a b = true) : a = b := of_decide_eq_true h
theorem eqb_refl (a : Nat) : eqb a a = true := decide_eq_true rfl
theorem ltb_eq {a b : Nat} : (ltb a b = true) = (a < b) := by simp [ltb]

/-- Pure data: what a value leads to, with no address in it. 'key K': the header of the row that is kept as the root K. -/
inductive D where
  | nil
  | int (n : Int)
  | bool (b : Bool)
  | str (s : ByteArray)
  | list (l : List D)
  | agg (l : List D)
  | con (v : Value)
  | key (K : Nat)

instance : Inhabited D := ⟨.nil⟩

def D.toInt : D → Int | .int n => n | _ => 0
def D.toBool : D → Bool | .bool b => b | _ => false
def D.toStr : D → ByteArray | .str s => s | _ => ByteArray.empty
def D.els : D → List D | .list l => l | _ => []
def D.kid : D → Nat → D
  | .list l, i => l.getD i .nil
  | .agg l, i => l.getD i .nil
  | _, _ => .nil

/-- What is known of a type. -/
inductive TyD where
  | int (k : IntKind)
  | bool
  | str
  | slice (e : TypeId)
  | struct (fs : List TypeId)
  | plain

structure Tab where
  ty : TypeId → Option TyD
  sz : TypeId → Nat
  bytes : TypeId → Nat
  zero : TypeId → D

def Tab.offs (T : Tab) (fs : List TypeId) (j : Nat) : Nat := ((fs.take j).map T.sz).sum

/-- The table is well made: a cell for whatever is no struct. -/
structure Tab.Fit (T : Tab) : Prop where
  int : ∀ t k, T.ty t = some (.int k) → T.sz t = 1
  bool : ∀ t, T.ty t = some .bool → T.sz t = 1
  str : ∀ t, T.ty t = some .str → T.sz t = 1
  slice : ∀ t e, T.ty t = some (.slice e) → T.sz t = 1
  plain : ∀ t, T.ty t = some .plain → T.sz t = 1
  struct : ∀ t fs, T.ty t = some (.struct fs) → T.sz t = (fs.map T.sz).sum

/-- Who may write a cell: nobody in this call (imm: it may be read; hid: another call's), or the root r, in its row q, at place k. -/
inductive Tag where
  | imm
  | hid
  | own (r : Nat) (q : List Nat) (k : Nat)

abbrev Tags := Nat → Nat → Tag

inductive Mode where
  | imm
  | own (r : Nat) (p : List Nat) (d : Nat)

def Mode.kid : Mode → Nat → Mode
  | .imm, _ => .imm
  | .own r p d, i => .own r (p ++ [i]) d
def Mode.elem : Mode → Nat → Mode
  | .own r p (d + 1), i => .own r (p ++ [i]) d
  | _, _ => .imm
def Mode.tag : Mode → Nat → Tag
  | .own r p (_ + 1), k => .own r p k
  | _, _ => .imm

/-- How long a row may be behind its elements: a row within a row of the call's own is full. -/
def Mode.Cap : Mode → Nat → Nat → Prop
  | .own _ p (_ + 1), n, c => match p with
    | [] => n ≤ c
    | _ :: _ => c = n
  | _, n, c => n ≤ c
theorem Mode.Cap.le {m : Mode} {n c : Nat} (h : m.Cap n c) : n ≤ c := by
  cases m with
  | imm => exact h
  | own r p d => cases d with
    | zero => exact h
    | succ d => cases p with
      | nil => exact h
      | cons a l => exact Nat.le_of_eq (Eq.symm h)
theorem Mode.Cap.refl (m : Mode) (n : Nat) : m.Cap n n := by
  cases m with
  | imm => exact Nat.le_refl n
  | own r p d => cases d with
    | zero => exact Nat.le_refl n
    | succ d => cases p with
      | nil => exact Nat.le_refl n
      | cons a l => rfl
theorem Mode.Cap.top {r d n c : Nat} (h : n ≤ c) : (Mode.own r [] d).Cap n c := by cases d <;> exact h

/-- The shape of what is read: a value of a type, or a slice's header with elements of a type. -/
inductive Sh where
  | val (t : TypeId)
  | slc (e : TypeId)

def cellOf (w : World) (b o : Nat) : Option Value := w.cell? ⟨b, o, none⟩
def frozenOf (w : World) (b o : Nat) : Bool := w.frozen? ⟨b, o, none⟩

/-- These cells, in this mode, read as this data. -/
inductive DR (T : Tab) (g : Tags) (w : World) (rv : Nat → Value) (ks : Nat → Prop) : Mode → Sh → D → List Value → Prop
  | int {m : Mode} {t : TypeId} {k : IntKind} {d : D} : T.ty t = some (.int k) → DR T g w rv ks m (.val t) d [.int k d.toInt]
  | bool {m : Mode} {t : TypeId} {d : D} : T.ty t = some .bool → DR T g w rv ks m (.val t) d [.bool d.toBool]
  | str {m : Mode} {t : TypeId} {d : D} : T.ty t = some .str → DR T g w rv ks m (.val t) d [.string d.toStr]
  | plain {m : Mode} {t : TypeId} {v : Value} : T.ty t = some .plain → v.oneCell' = true → DR T g w rv ks m (.val t) (.con v) [v]
  | key {r : Nat} {p : List Nat} {n : Nat} {t e : TypeId} {K : Nat} : T.ty t = some (.slice e) → ks K →
      DR T g w rv ks (.own r p (n + 1)) (.val t) (.key K) [rv K]
  | sl {m : Mode} {t e : TypeId} {d : D} {vs : List Value} : T.ty t = some (.slice e) → (∀ K, d ≠ .key K) → DR T g w rv ks m (.slc e) d vs →
      DR T g w rv ks m (.val t) d vs
  | node {m : Mode} {e : TypeId} {d : D} (A : Option Addr) (c b o : Nat) (vs : Nat → List Value) :
      (d.els ≠ [] → A = some ⟨b, o, none⟩) → m.Cap d.els.length c →
      (∀ i, i < d.els.length → (vs i).length = T.sz e) →
      (∀ i k v, i < d.els.length → (vs i)[k]? = some v → cellOf w b (o + i * T.sz e + k) = some v ∧ g b (o + i * T.sz e + k) = m.tag (i * T.sz e + k) ∧
        (m.tag 0 ≠ .imm → frozenOf w b (o + i * T.sz e + k) = false)) →
      (∀ i, i < d.els.length → DR T g w rv ks (m.elem i) (.val e) (d.els.getD i .nil) (vs i)) →
      DR T g w rv ks m (.slc e) d [.slice A d.els.length c]
  | struct {m : Mode} {t : TypeId} {fs : List TypeId} {d : D} (vs : Nat → List Value) : T.ty t = some (.struct fs) →
      (∀ j, j < fs.length → DR T g w rv ks (m.kid j) (.val (fs.getD j 0)) (d.kid j) (vs j)) →
      DR T g w rv ks m (.val t) d ((List.range fs.length).flatMap vs)

/-- The marks that a reading in this mode may meet. -/
def Cov : Mode → Tag → Prop
  | _, .imm => True
  | .own r p _, .own r' q _ => r' = r ∧ ∃ s, q = p ++ s
  | _, _ => False

theorem Cov.kid {m : Mode} {i : Nat} {t : Tag} (h : Cov (m.kid i) t) : Cov m t := by
  cases m with
  | imm => exact h
  | own r p d =>
    cases t with
    | imm => trivial
    | hid => exact h
    | own r' q k => obtain ⟨h1, s, h2⟩ := h; exact ⟨h1, i :: s, by simp [h2]⟩

theorem Cov.elem {m : Mode} {i : Nat} {t : Tag} (h : Cov (m.elem i) t) : Cov m t := by
  cases m with
  | imm => exact h
  | own r p d =>
    cases d with
    | zero => cases t <;> first | trivial | exact h.elim
    | succ d => cases t with
      | imm => trivial
      | hid => exact h
      | own r' q k => obtain ⟨h1, s, h2⟩ := h; exact ⟨h1, i :: s, by simp [h2]⟩

theorem Cov.tag (m : Mode) (k : Nat) : Cov m (m.tag k) := by
  cases m with
  | imm => trivial
  | own r p d => cases d with
    | zero => trivial
    | succ d => exact ⟨rfl, [], by simp⟩

/-- The same reading where all that it meets is as it was. -/
theorem DR.agree {T : Tab} {g g' : Tags} {w w' : World} {rv rv' : Nat → Value} {ks ks' : Nat → Prop} {m : Mode} {s : Sh} {d : D} {vs : List Value} (h : DR T g w rv ks m s d vs)
    (hc : ∀ b o v, Cov m (g b o) → cellOf w b o = some v → g' b o = g b o ∧ cellOf w' b o = some v ∧ frozenOf w' b o = frozenOf w b o)
    (hk : ∀ K, ks K → ks' K ∧ rv' K = rv K) : DR T g' w' rv' ks' m s d vs := by
  induction h with
  | int h => exact .int h
  | bool h => exact .bool h
  | str h => exact .str h
  | plain h h2 => exact .plain h h2
  | key h h' => rw [← (hk _ h').2]; exact .key h (hk _ h').1
  | sl h h' _ ih => exact .sl h h' (ih hc)
  | node A c b o vs hA hcap hl hcell _ ih =>
    refine .node A c b o vs hA hcap hl ?_ ?_
    · intro i k v hi hv
      obtain ⟨h1, h2, h3⟩ := hcell i k v hi hv
      obtain ⟨e1, e2, e3⟩ := hc _ _ _ (by rw [h2]; exact Cov.tag _ _) h1
      exact ⟨e2, by rw [e1, h2], fun hm => by rw [e3]; exact h3 hm⟩
    · exact fun i hi => ih i hi (fun b o v hcv => hc b o v (Cov.elem hcv))
  | struct vs h _ ih => exact .struct vs h fun j hj => ih j hj (fun b o v hcv => hc b o v (Cov.kid hcv))

/-- Marks renamed: what the mode m meets under g, the mode m' meets under g'. -/
def Retag : Mode → Mode → Tag → Tag → Prop
  | .own r p d, .own r' p' d', .own a q k, y => a = r → d = d' → ∀ s, q = p ++ s → y = .own r' (p' ++ s) k
  | .own r p _, .imm, .own a q _, y => a = r → ∀ s, q = p ++ s → y = .imm
  | _, _, .imm, y => y = .imm
  | _, _, _, _ => True

theorem DR.retag {T : Tab} {g g' : Tags} {w : World} {rv : Nat → Value} {ks ks' : Nat → Prop} {m : Mode} {s : Sh} {d : D} {vs : List Value} (h : DR T g w rv ks m s d vs) :
    ∀ m', ((m = .imm ∧ m' = .imm) ∨ (∃ r p d, m = .own r p d ∧ m' = .imm ∧ ∀ K, ¬ ks K) ∨ ∃ r p d r' p', m = .own r p d ∧ m' = .own r' p' d ∧ (p = [] → p' = []) ∧ ∀ K, ks K → ks' K) →
    (∀ b o, Cov m (g b o) → Retag m m' (g b o) (g' b o)) → DR T g' w rv ks' m' s d vs := by
  induction h with
  | int h => intro m' _ _; exact .int h
  | bool h => intro m' _ _; exact .bool h
  | str h => intro m' _ _; exact .str h
  | plain h h2 => intro m' _ _; exact .plain h h2
  | key h h' =>
    intro m' hm _
    rcases hm with ⟨h1, _⟩ | ⟨r, p, d, h1, _, h3⟩ | ⟨r, p, d, r', p', h1, h2, _, h3⟩
    · exact absurd h1 (by simp)
    · exact absurd h' (h3 _)
    · cases h1; subst h2; exact .key h (h3 _ h')
  | sl h h' _ ih => intro m' hm hc; exact .sl h h' (ih m' hm hc)
  | @node m e d A c b o vs hA hcap hl hcell _ ih =>
    intro m' hm hc
    refine .node A c b o vs hA ?_ hl ?_ ?_
    · rcases hm with ⟨rfl, rfl⟩ | ⟨r, p, d, rfl, rfl, _⟩ | ⟨r, p, d, r', p', rfl, rfl, hp, _⟩
      · exact hcap
      · exact hcap.le
      · cases d with
        | zero => exact hcap
        | succ d => cases p with
          | nil => rw [hp rfl]; exact hcap
          | cons a l => cases p' with
            | nil => exact hcap.le
            | cons _ _ => exact hcap
    · intro i k v hi hv
      obtain ⟨h1, h2, h3⟩ := hcell i k v hi hv
      have hr := hc b (o + i * T.sz e + k) (by rw [h2]; exact Cov.tag _ _)
      rw [h2] at hr
      rcases hm with ⟨rfl, rfl⟩ | ⟨r, p, d, rfl, rfl, _⟩ | ⟨r, p, d, r', p', rfl, rfl, _, _⟩
      · exact ⟨h1, hr, fun hh => absurd rfl hh⟩
      · refine ⟨h1, ?_, fun hh => absurd rfl hh⟩
        cases d with
        | zero => exact hr
        | succ d => exact hr rfl [] (by simp)
      · cases d with
        | zero => exact ⟨h1, hr, fun hh => absurd rfl hh⟩
        | succ d => exact ⟨h1, by have := hr rfl rfl [] (by simp); simpa [Mode.tag] using this, fun _ => h3 (by simp [Mode.tag])⟩
    · intro i hi
      rcases hm with ⟨rfl, rfl⟩ | ⟨r, p, d, rfl, rfl, hk⟩ | ⟨r, p, d, r', p', rfl, rfl, _, hk⟩
      · exact ih i hi .imm (.inl ⟨rfl, rfl⟩) hc
      · cases d with
        | zero => exact ih i hi .imm (.inl ⟨rfl, rfl⟩) (fun b o hcv => by
            have := hc b o (Cov.elem (i := i) hcv)
            revert this hcv; simp only [Mode.elem]; cases g b o <;> simp [Cov, Retag])
        | succ d => exact ih i hi .imm (.inr (.inl ⟨r, p ++ [i], d, rfl, rfl, hk⟩)) (fun b o hcv => by
            have := hc b o (Cov.elem (i := i) hcv)
            revert this hcv; simp only [Mode.elem]; cases g b o with
            | imm => simp [Cov, Retag]
            | hid => simp [Cov, Retag]
            | own a q k => intro _ hr ha s hs; exact hr ha (i :: s) (by simp [hs]))
      · cases d with
        | zero => exact ih i hi .imm (.inl ⟨rfl, rfl⟩) (fun b o hcv => by
            have := hc b o (Cov.elem (i := i) hcv)
            revert this hcv; simp only [Mode.elem]; cases g b o <;> simp [Cov, Retag])
        | succ d => exact ih i hi (.own r' (p' ++ [i]) d) (.inr (.inr ⟨r, p ++ [i], d, r', p' ++ [i], rfl, rfl, by simp, hk⟩)) (fun b o hcv => by
            have := hc b o (Cov.elem (i := i) hcv)
            revert this hcv; simp only [Mode.elem]; cases g b o with
            | imm => simp [Cov, Retag]
            | hid => simp [Cov, Retag]
            | own a q k => intro _ hr ha hd s hs; have := hr ha rfl (i :: s) (by simp [hs]); simpa using this)
  | @struct m t fs d vs h _ ih =>
    intro m' hm hc
    refine .struct vs h fun j hj => ?_
    rcases hm with ⟨rfl, rfl⟩ | ⟨r, p, d, rfl, rfl, hk⟩ | ⟨r, p, d, r', p', rfl, rfl, _, hk⟩
    · exact ih j hj .imm (.inl ⟨rfl, rfl⟩) hc
    · exact ih j hj .imm (.inr (.inl ⟨r, p ++ [j], d, rfl, rfl, hk⟩)) (fun b o hcv => by
        have := hc b o (Cov.kid (i := j) hcv)
        revert this hcv; simp only [Mode.kid]; cases g b o with
        | imm => simp [Cov, Retag]
        | hid => simp [Cov, Retag]
        | own a q k => intro _ hr ha s hs; exact hr ha (j :: s) (by simp [hs]))
    · exact ih j hj (.own r' (p' ++ [j]) d) (.inr (.inr ⟨r, p ++ [j], d, r', p' ++ [j], rfl, rfl, by simp, hk⟩)) (fun b o hcv => by
        have := hc b o (Cov.kid (i := j) hcv)
        revert this hcv; simp only [Mode.kid]; cases g b o with
        | imm => simp [Cov, Retag]
        | hid => simp [Cov, Retag]
        | own a q k => intro _ hr ha hd s hs; have := hr ha rfl (j :: s) (by simp [hs]); simpa using this)

/-- Where no row is the call's own any more, the reading is of what nobody writes. -/
theorem DR.imm_of_zero {T : Tab} {g : Tags} {w : World} {rv : Nat → Value} {ks : Nat → Prop} {m : Mode} {s : Sh} {d : D} {vs : List Value} (h : DR T g w rv ks m s d vs) :
    ∀ (_ : m = .imm ∨ ∃ r p, m = .own r p 0) (rv' : Nat → Value) (ks' : Nat → Prop), DR T g w rv' ks' .imm s d vs := by
  induction h with
  | int h => intro _ _ _; exact .int h
  | bool h => intro _ _ _; exact .bool h
  | str h => intro _ _ _; exact .str h
  | plain h h2 => intro _ _ _; exact .plain h h2
  | key h h' => intro hm; rcases hm with h | ⟨_, _, h⟩ <;> exact absurd h (by simp)
  | sl h h' _ ih => intro hm rv' ks'; exact .sl h h' (ih hm rv' ks')
  | @node m e d A c b o vs hA hcap hl hcell _ ih =>
    intro hm rv' ks'
    have ht : ∀ k, m.tag k = .imm := by rcases hm with rfl | ⟨_, _, rfl⟩ <;> intro k <;> rfl
    have he : ∀ i, m.elem i = .imm := by rcases hm with rfl | ⟨_, _, rfl⟩ <;> intro k <;> rfl
    refine .node A c b o vs hA hcap.le hl ?_ fun i hi => ih i hi (.inl (he i)) rv' ks'
    intro i k v hi hv
    obtain ⟨h1, h2, _⟩ := hcell i k v hi hv
    exact ⟨h1, by rw [h2, ht]; rfl, fun hh => absurd rfl hh⟩
  | @struct m t fs d vs h _ ih =>
    intro hm rv' ks'
    refine .struct vs h fun j hj => ?_
    have hj' : m.kid j = .imm ∨ ∃ r p, m.kid j = .own r p 0 := by
      rcases hm with rfl | ⟨r, p, rfl⟩
      · exact .inl rfl
      · exact .inr ⟨r, p ++ [j], rfl⟩
    exact ih j hj hj' rv' ks'

theorem sum_range_flat (fs : List TypeId) (f : TypeId → Nat) (vs : Nat → List Value) (h : ∀ j, j < fs.length → (vs j).length = f (fs.getD j 0)) :
    ((List.range fs.length).flatMap vs).length = (fs.map f).sum := by
  induction fs generalizing vs with
  | nil => simp
  | cons a l ih =>
    have h0 := h 0 (by simp)
    have := ih (fun j => vs (j + 1)) (fun j hj => by simpa using h (j + 1) (by simpa using hj))
    simp only [List.length_cons, List.range_succ_eq_map, List.flatMap_cons, List.length_append, List.map_cons, List.sum_cons]
    rw [h0]
    have e : (List.map Nat.succ (List.range l.length)).flatMap vs = (List.range l.length).flatMap (fun j => vs (j + 1)) := by
      rw [List.flatMap_map]
    rw [e, this]; simp

theorem DR.length {T : Tab} (hT : T.Fit) {g : Tags} {w : World} {rv : Nat → Value} {ks : Nat → Prop} {m : Mode} {s : Sh} {d : D} {vs : List Value} (h : DR T g w rv ks m s d vs) :
    vs.length = match s with | .val t => T.sz t | .slc _ => 1 := by
  induction h with
  | int h => simp [hT.int _ _ h]
  | bool h => simp [hT.bool _ h]
  | str h => simp [hT.str _ h]
  | plain h _ => simp [hT.plain _ h]
  | key h _ => simp [hT.slice _ _ h]
  | sl h _ _ ih => simp only at ih ⊢; rw [hT.slice _ _ h]; exact ih
  | node => rfl
  | struct vs h _ ih => simp only at ih ⊢; rw [hT.struct _ _ h]; exact sum_range_flat _ _ _ ih

end Go.VI

namespace Go.VI

def D.at : D → List Nat → D
  | d, [] => d
  | d, i :: p => (d.kid i).at p
def D.put : D → List Nat → D → D
  | _, [], x => x
  | .list l, i :: p, x => .list (l.set i ((l.getD i .nil).put p x))
  | .agg l, i :: p, x => .agg (l.set i ((l.getD i .nil).put p x))
  | d, _ :: _, _ => d
def D.PutOk : D → List Nat → Prop
  | _, [] => True
  | .list l, i :: p => i < l.length ∧ (l.getD i .nil).PutOk p
  | .agg l, i :: p => i < l.length ∧ (l.getD i .nil).PutOk p
  | _, _ :: _ => False

theorem D.kid_eq_els (d : D) (i : Nat) (h : i < d.els.length) : d.els.getD i .nil = d.kid i := by
  cases d <;> simp [D.els, D.kid] at *

/-- The way along a path: through fields, and through rows of the call's own. -/
def nav (T : Tab) : TypeId → D → Nat → List Nat → Option (TypeId × D × Nat)
  | t, d, n, [] => some (t, d, n)
  | t, d, n, i :: p =>
    match T.ty t, n with
    | some (.struct fs), n => if i < fs.length then nav T (fs.getD i 0) (d.kid i) n p else none
    | some (.slice e), n + 1 => if i < d.els.length then nav T e (d.kid i) n p else none
    | _, _ => none

/-- Where it leads to in memory. -/
def loc (T : Tab) (w : World) : TypeId → Nat → Nat → List Nat → Option (TypeId × Nat × Nat)
  | t, b, o, [] => some (t, b, o)
  | t, b, o, i :: p =>
    match T.ty t with
    | some (.struct fs) => loc T w (fs.getD i 0) b (o + T.offs fs i) p
    | some (.slice e) =>
      match cellOf w b o with
      | some (.slice (some a) _ _) => loc T w e a.block (a.off + i * T.sz e) p
      | _ => none
    | _ => none

/-- An object of the root r at its path p: it lies in the row q, at place κ. -/
structure Obj (T : Tab) (g : Tags) (w : World) (rv : Nat → Value) (ks : Nat → Prop) (r : Nat) (q : List Nat) (κ : Nat) (p : List Nat) (n : Nat) (t : TypeId) (d : D) (b o : Nat) : Prop where
  ex : ∃ vs, DR T g w rv ks (.own r p n) (.val t) d vs ∧
    ∀ k v, vs[k]? = some v → cellOf w b (o + k) = some v ∧ g b (o + k) = .own r q (κ + k) ∧ frozenOf w b (o + k) = false

theorem flat_get (n : Nat) (f : Nat → Nat) (vs : Nat → List Value) (hf : ∀ j, j < n → (vs j).length = f j) (j : Nat) (hj : j < n) (k : Nat) (v : Value) (hv : (vs j)[k]? = some v) :
    ((List.range n).flatMap vs)[((List.range j).map f).sum + k]? = some v := by
  induction n generalizing j vs f with
  | zero => omega
  | succ n ih =>
    rw [List.range_succ_eq_map, List.flatMap_cons, List.flatMap_map]
    cases j with
    | zero =>
      simp only [List.range_zero, List.map_nil, List.sum_nil, Nat.zero_add]
      have hk : k < (vs 0).length := by
        rcases Nat.lt_or_ge k (vs 0).length with h | h
        · exact h
        · rw [List.getElem?_eq_none h] at hv; simp at hv
      rw [List.getElem?_append_left hk]; exact hv
    | succ j =>
      have h0 := hf 0 (by omega)
      rw [List.range_succ_eq_map]
      simp only [List.map_cons, List.sum_cons, List.map_map]
      rw [List.getElem?_append_right (by rw [h0]; omega)]
      have := ih (fun j => f (j + 1)) (fun j => vs (j + 1)) (fun j hj => hf (j + 1) (by omega)) j (by omega) hv
      rw [h0]
      have e : f 0 + ((List.range j).map (f ∘ Nat.succ)).sum + k - f 0 = ((List.range j).map (fun j => f (j + 1))).sum + k := by
        simp only [Function.comp_def, Nat.succ_eq_add_one]; omega
      rw [e]; exact this

theorem flat_inv (n : Nat) (f : Nat → Nat) (vs : Nat → List Value) (hf : ∀ j, j < n → (vs j).length = f j) (k : Nat) (v : Value)
    (hv : ((List.range n).flatMap vs)[k]? = some v) : ∃ j k', j < n ∧ (vs j)[k']? = some v ∧ k = ((List.range j).map f).sum + k' := by
  induction n generalizing vs f k with
  | zero => simp at hv
  | succ n ih =>
    rw [List.range_succ_eq_map, List.flatMap_cons, List.flatMap_map] at hv
    rcases Nat.lt_or_ge k (vs 0).length with h | h
    · rw [List.getElem?_append_left h] at hv
      exact ⟨0, k, by omega, hv, by simp⟩
    · rw [List.getElem?_append_right h] at hv
      obtain ⟨j, k', hj, hv', e⟩ := ih (fun j => f (j + 1)) (fun j => vs (j + 1)) (fun j hj => hf (j + 1) (by omega)) _ hv
      refine ⟨j + 1, k', by omega, hv', ?_⟩
      have h0 := hf 0 (by omega)
      rw [List.range_succ_eq_map]
      simp only [List.map_cons, List.sum_cons, List.map_map, Function.comp_def]
      simp only [Nat.succ_eq_add_one] at *
      omega

theorem offs_range (T : Tab) (fs : List TypeId) (j : Nat) (hj : j ≤ fs.length) : T.offs fs j = ((List.range j).map (fun i => T.sz (fs.getD i 0))).sum := by
  unfold Tab.offs
  congr 1
  apply List.ext_getElem
  · simp; omega
  · intro i h1 h2
    have hi : i < fs.length := by simp at h1; omega
    simp [List.getD_eq_getElem?_getD, List.getElem?_eq_getElem hi]

theorem offs_succ (T : Tab) (fs : List TypeId) (j : Nat) (hj : j < fs.length) : T.offs fs (j + 1) = T.offs fs j + T.sz (fs.getD j 0) := by
  rw [offs_range T fs _ (by omega), offs_range T fs _ (by omega), List.range_succ]
  simp

theorem offs_mono (T : Tab) (fs : List TypeId) (i j : Nat) (h : i ≤ j) (hj : j ≤ fs.length) : T.offs fs i ≤ T.offs fs j := by
  induction j with
  | zero => have : i = 0 := by omega
            subst this; exact Nat.le_refl _
  | succ j ih =>
    rcases Nat.lt_or_ge i (j + 1) with h' | h'
    · rw [offs_succ T fs j (by omega)]; have := ih (by omega) (by omega); omega
    · have : i = j + 1 := by omega
      subst this; exact Nat.le_refl _

section
variable {T : Tab} (hT : T.Fit) {g : Tags} {w : World} {rv : Nat → Value} {ks : Nat → Prop} {r : Nat} {q : List Nat} {κ : Nat} {p : List Nat} {n : Nat} {t : TypeId} {d : D} {b o : Nat}

theorem DR.struct_inv {m : Mode} {fs : List TypeId} {vs : List Value} (h : DR T g w rv ks m (.val t) d vs) (ht : T.ty t = some (.struct fs)) :
    ∃ us : Nat → List Value, vs = (List.range fs.length).flatMap us ∧ ∀ j, j < fs.length → DR T g w rv ks (m.kid j) (.val (fs.getD j 0)) (d.kid j) (us j) := by
  cases h with
  | int h => rw [ht] at h; simp at h
  | bool h => rw [ht] at h; simp at h
  | str h => rw [ht] at h; simp at h
  | plain h => rw [ht] at h; simp at h
  | key h => rw [ht] at h; simp at h
  | sl h => rw [ht] at h; simp at h
  | struct us h hrec =>
    rw [ht] at h; simp only [Option.some.injEq, TyD.struct.injEq] at h; subst h
    exact ⟨us, rfl, hrec⟩

theorem DR.slice_inv {m : Mode} {e : TypeId} {vs : List Value} (h : DR T g w rv ks m (.val t) d vs) (ht : T.ty t = some (.slice e)) (hd : ∀ K, d ≠ .key K) :
    DR T g w rv ks m (.slc e) d vs := by
  cases h with
  | int h => rw [ht] at h; simp at h
  | bool h => rw [ht] at h; simp at h
  | str h => rw [ht] at h; simp at h
  | plain h => rw [ht] at h; simp at h
  | key h => exact absurd rfl (hd _)
  | sl h _ h' => rw [ht] at h; simp only [Option.some.injEq, TyD.slice.injEq] at h; subst h; exact h'
  | struct us h hrec => rw [ht] at h; simp at h

theorem DR.int_inv {m : Mode} {k : IntKind} {vs : List Value} (h : DR T g w rv ks m (.val t) d vs) (ht : T.ty t = some (.int k)) : vs = [.int k d.toInt] := by
  cases h with
  | int h => rw [ht] at h; simp only [Option.some.injEq, TyD.int.injEq] at h; subst h; rfl
  | bool h => rw [ht] at h; simp at h
  | str h => rw [ht] at h; simp at h
  | plain h => rw [ht] at h; simp at h
  | key h => rw [ht] at h; simp at h
  | sl h => rw [ht] at h; simp at h
  | struct us h hrec => rw [ht] at h; simp at h

theorem DR.bool_inv {m : Mode} {vs : List Value} (h : DR T g w rv ks m (.val t) d vs) (ht : T.ty t = some .bool) : vs = [.bool d.toBool] := by
  cases h with
  | int h => rw [ht] at h; simp at h
  | bool h => rfl
  | str h => rw [ht] at h; simp at h
  | plain h => rw [ht] at h; simp at h
  | key h => rw [ht] at h; simp at h
  | sl h => rw [ht] at h; simp at h
  | struct us h hrec => rw [ht] at h; simp at h

theorem DR.str_inv {m : Mode} {vs : List Value} (h : DR T g w rv ks m (.val t) d vs) (ht : T.ty t = some .str) : vs = [.string d.toStr] := by
  cases h with
  | int h => rw [ht] at h; simp at h
  | bool h => rw [ht] at h; simp at h
  | str h => rfl
  | plain h => rw [ht] at h; simp at h
  | key h => rw [ht] at h; simp at h
  | sl h => rw [ht] at h; simp at h
  | struct us h hrec => rw [ht] at h; simp at h

theorem DR.plain_inv {m : Mode} {vs : List Value} (h : DR T g w rv ks m (.val t) d vs) (ht : T.ty t = some .plain) : ∃ v, d = .con v ∧ vs = [v] ∧ v.oneCell' = true := by
  cases h with
  | int h => rw [ht] at h; simp at h
  | bool h => rw [ht] at h; simp at h
  | str h => rw [ht] at h; simp at h
  | plain h h2 => exact ⟨_, rfl, rfl, h2⟩
  | key h => rw [ht] at h; simp at h
  | sl h => rw [ht] at h; simp at h
  | struct us h hrec => rw [ht] at h; simp at h

theorem DR.key_inv {m : Mode} {e K : Nat} {vs : List Value} (h : DR T g w rv ks m (.val t) (.key K) vs) (ht : T.ty t = some (.slice e)) : vs = [rv K] ∧ ks K := by
  cases h with
  | int h => rw [ht] at h; simp at h
  | bool h => rw [ht] at h; simp at h
  | str h => rw [ht] at h; simp at h
  | key h h' => exact ⟨rfl, h'⟩
  | sl h h' => exact absurd rfl (h' K)
  | struct us h hrec => rw [ht] at h; simp at h

/-- A slice's header, laid open. -/
theorem DR.node_invC {m : Mode} {e : TypeId} {vs : List Value} (h : DR T g w rv ks m (.slc e) d vs) :
    ∃ (A : Option Addr) (c b o : Nat) (us : Nat → List Value), vs = [.slice A d.els.length c] ∧ (d.els ≠ [] → A = some ⟨b, o, none⟩) ∧ m.Cap d.els.length c ∧
      (∀ i, i < d.els.length → (us i).length = T.sz e) ∧
      (∀ i k v, i < d.els.length → (us i)[k]? = some v → cellOf w b (o + i * T.sz e + k) = some v ∧ g b (o + i * T.sz e + k) = m.tag (i * T.sz e + k) ∧
        (m.tag 0 ≠ .imm → frozenOf w b (o + i * T.sz e + k) = false)) ∧
      (∀ i, i < d.els.length → DR T g w rv ks (m.elem i) (.val e) (d.els.getD i .nil) (us i)) := by
  cases h with
  | node A c b o us h1 h2 h3 h4 h5 => exact ⟨A, c, b, o, us, rfl, h1, h2, h3, h4, h5⟩

/-- A slice's header, laid open. -/
theorem DR.node_inv {m : Mode} {e : TypeId} {vs : List Value} (h : DR T g w rv ks m (.slc e) d vs) :
    ∃ (A : Option Addr) (c b o : Nat) (us : Nat → List Value), vs = [.slice A d.els.length c] ∧ (d.els ≠ [] → A = some ⟨b, o, none⟩) ∧ d.els.length ≤ c ∧
      (∀ i, i < d.els.length → (us i).length = T.sz e) ∧
      (∀ i k v, i < d.els.length → (us i)[k]? = some v → cellOf w b (o + i * T.sz e + k) = some v ∧ g b (o + i * T.sz e + k) = m.tag (i * T.sz e + k) ∧
        (m.tag 0 ≠ .imm → frozenOf w b (o + i * T.sz e + k) = false)) ∧
      (∀ i, i < d.els.length → DR T g w rv ks (m.elem i) (.val e) (d.els.getD i .nil) (us i)) := by
  cases h with
  | node A c b o us h1 h2 h3 h4 h5 => exact ⟨A, c, b, o, us, rfl, h1, h2.le, h3, h4, h5⟩

include hT in
theorem Obj.field (h : Obj T g w rv ks r q κ p n t d b o) {fs : List TypeId} (ht : T.ty t = some (.struct fs)) {j : Nat} (hj : j < fs.length) :
    Obj T g w rv ks r q (κ + T.offs fs j) (p ++ [j]) n (fs.getD j 0) (d.kid j) b (o + T.offs fs j) := by
  obtain ⟨vs, hd, hc⟩ := h.ex
  obtain ⟨us, rfl, hrec⟩ := hd.struct_inv ht
  refine ⟨us j, hrec j hj, fun k v hv => ?_⟩
  have := hc (T.offs fs j + k) v (by
    rw [offs_range T fs j (by omega)]
    exact flat_get fs.length _ us (fun i hi => (hrec i hi).length hT) j hj k v hv)
  simpa [Nat.add_assoc] using this

/-- The elements of a row of the call's own, behind its header. -/
theorem Obj.row (h : Obj T g w rv ks r q κ p (n + 1) t d b o) {e : TypeId} (ht : T.ty t = some (.slice e)) {i : Nat} (hi : i < d.els.length) :
    ∃ a c, cellOf w b o = some (.slice (some a) d.els.length c) ∧ a.spot = none ∧ Obj T g w rv ks r p (i * T.sz e) (p ++ [i]) n e (d.kid i) a.block (a.off + i * T.sz e) := by
  obtain ⟨vs, hd, hc⟩ := h.ex
  have hk : ∀ K, d ≠ .key K := by intro K e; rw [e] at hi; simp [D.els] at hi
  obtain ⟨A, c, b', o', us, rfl, hA, hcap, hl, hcell, hrec⟩ := (hd.slice_inv ht hk).node_inv
  have hne : d.els ≠ [] := by intro e; rw [e] at hi; simp at hi
  obtain rfl := hA hne
  refine ⟨⟨b', o', none⟩, c, by simpa using (hc 0 _ rfl).1, rfl, us i, ?_, fun k v hv => ?_⟩
  · rw [← D.kid_eq_els d i hi]; exact hrec i hi
  · obtain ⟨h1, h2, h3⟩ := hcell i k v hi hv
    exact ⟨h1, h2, h3 (by simp [Mode.tag])⟩

/-- Along a path: the object that it leads to. -/
theorem Obj.nav_loc (hT : T.Fit) : ∀ (pp : List Nat) {q : List Nat} {κ : Nat} {p : List Nat} {n : Nat} {t : TypeId} {d : D} {b o : Nat} {t' : TypeId} {d' : D} {n' : Nat},
    Obj T g w rv ks r q κ p n t d b o → nav T t d n pp = some (t', d', n') →
    ∃ b' o' q' κ', loc T w t b o pp = some (t', b', o') ∧ Obj T g w rv ks r q' κ' (p ++ pp) n' t' d' b' o' ∧
      ((q' = q ∧ κ ≤ κ' ∧ κ' + T.sz t' ≤ κ + T.sz t) ∨ ∃ s, q' = p ++ s)
  | [], q, κ, p, n, t, d, b, o, t', d', n', h, hn => by
    simp only [nav, Option.some.injEq, Prod.mk.injEq] at hn
    obtain ⟨rfl, rfl, rfl⟩ := hn
    exact ⟨b, o, q, κ, rfl, by simpa using h, .inl ⟨rfl, Nat.le_refl _, Nat.le_refl _⟩⟩
  | i :: pp, q, κ, p, n, t, d, b, o, t', d', n', h, hn => by
    simp only [nav] at hn
    split at hn
    · rename_i fs ht
      split at hn
      · rename_i hi
        obtain ⟨b', o', q', κ', h1, h2, h3⟩ := Obj.nav_loc hT pp (h.field hT ht hi) hn
        refine ⟨b', o', q', κ', by simp only [loc, ht]; exact h1, by simpa using h2, ?_⟩
        rcases h3 with ⟨h3, h4, h5⟩ | ⟨s, h3⟩
        · refine .inl ⟨h3, by omega, ?_⟩
          rw [hT.struct _ _ ht]
          have e1 := offs_succ T fs i hi
          have e2 := offs_mono T fs (i + 1) fs.length (by omega) (Nat.le_refl _)
          have e3 : T.offs fs fs.length = (fs.map T.sz).sum := by simp [Tab.offs]
          omega
        · exact .inr ⟨[i] ++ s, by simp [h3]⟩
      · simp at hn
    · rename_i e m ht
      split at hn
      · rename_i hi
        obtain ⟨a, c, h1, h2, h3⟩ := h.row ht hi
        obtain ⟨b', o', q', κ', h4, h5, h6⟩ := Obj.nav_loc hT pp h3 hn
        refine ⟨b', o', q', κ', by simp only [loc, ht, h1]; exact h4, by simpa using h5, .inr ?_⟩
        rcases h6 with ⟨h6, _, _⟩ | ⟨s, h6⟩
        · exact ⟨[], by simp [h6]⟩
        · exact ⟨[i] ++ s, by simp [h6]⟩
      · simp at hn
    · simp at hn

/-- A world in which only cells of the root r, row q, places κ .. κ + s - 1 may hold other values. -/
structure Upd (g : Tags) (w w' : World) (r : Nat) (q : List Nat) (κ s : Nat) : Prop where
  cell : ∀ b o v, (∀ k, k < s → g b o ≠ .own r q (κ + k)) → cellOf w b o = some v → cellOf w' b o = some v
  froz : ∀ b o, frozenOf w' b o = frozenOf w b o

/-- What does not meet those cells reads as before. -/
theorem DR.upd {w' : World} {m : Mode} {s : Sh} {vs : List Value} {R : Nat} {Q : List Nat} {K S : Nat} (h : DR T g w rv ks m s d vs) (hu : Upd g w w' R Q K S)
    (hm : ∀ k, k < S → ¬ Cov m (.own R Q (K + k))) : DR T g w' rv ks m s d vs :=
  h.agree (fun b o v hc hv => ⟨rfl, hu.cell b o v (fun k hk e => hm k hk (e ▸ hc)) hv, hu.froz b o⟩) (fun _ h => ⟨h, rfl⟩)

theorem getD_set (l : List D) (i j : Nat) (x : D) : (l.set i x).getD j .nil = if i = j ∧ j < l.length then x else l.getD j .nil := by
  simp only [List.getD_eq_getElem?_getD, List.getElem?_set]
  split
  · rename_i h; subst h
    split
    · rename_i h2; simp [h2]
    · rename_i h2; rw [if_neg (by omega), List.getElem?_eq_none (by omega)]
  · rename_i h; rw [if_neg (by omega)]

/-- A struct put together again, one of its fields anew. -/
theorem Obj.field_upd (hT : T.Fit) {w' : World} (h : Obj T g w rv ks r q κ p n t d b o) {fs : List TypeId} (ht : T.ty t = some (.struct fs)) {j : Nat} (hj : j < fs.length)
    {Q : List Nat} {K S : Nat} (hu : Upd g w w' r Q K S)
    (htgt : (Q = q ∧ κ + T.offs fs j ≤ K ∧ K + S ≤ κ + T.offs fs j + T.sz (fs.getD j 0)) ∨ ∃ s, Q = p ++ [j] ++ s) (hqp : ∃ s, p = q ++ s ∧ s ≠ []) {x d2 : D}
    (hx : Obj T g w' rv ks r q (κ + T.offs fs j) (p ++ [j]) n (fs.getD j 0) x b (o + T.offs fs j))
    (hd2 : ∀ i, d2.kid i = if i = j then x else d.kid i) : Obj T g w' rv ks r q κ p n t d2 b o := by
  obtain ⟨vs, hd, hc⟩ := h.ex
  obtain ⟨us, rfl, hrec⟩ := hd.struct_inv ht
  obtain ⟨ux, hdx, hcx⟩ := hx.ex
  have hlen : ∀ i, i < fs.length → (us i).length = T.sz (fs.getD i 0) := fun i hi => (hrec i hi).length hT
  have hlx : ux.length = T.sz (fs.getD j 0) := hdx.length hT
  refine ⟨⟨(List.range fs.length).flatMap (fun i => if i = j then ux else us i), .struct _ ht fun i hi => ?_, fun k v hv => ?_⟩⟩
  · rw [hd2]
    by_cases hij : i = j
    · subst hij; rw [if_pos rfl, if_pos rfl]; exact hdx
    · rw [if_neg hij, if_neg hij]
      refine (hrec i hi).upd hu fun k hk hcov => ?_
      obtain ⟨_, s, hs⟩ := hcov
      obtain ⟨s0, hs0, hne⟩ := hqp
      rcases htgt with ⟨h1, _, _⟩ | ⟨s', h1⟩
      · rw [h1, hs0] at hs
        have := congrArg List.length hs
        simp at this
      · rw [h1] at hs
        simp at hs
        exact hij hs.1.symm
  · obtain ⟨i, k', hi, hv', rfl⟩ := flat_inv fs.length (fun i => T.sz (fs.getD i 0)) _ (fun i hi => by
      by_cases hij : i = j
      · subst hij; simpa using hlx
      · rw [if_neg hij]; exact hlen i hi) k v hv
    rw [← offs_range T fs i (by omega)]
    by_cases hij : i = j
    · subst hij
      rw [if_pos rfl] at hv'
      simpa [Nat.add_assoc] using hcx k' v hv'
    · rw [if_neg hij] at hv'
      have hk' : k' < T.sz (fs.getD i 0) := by
        rw [← hlen i hi]
        rcases Nat.lt_or_ge k' (us i).length with h | h
        · exact h
        · rw [List.getElem?_eq_none h] at hv'; simp at hv'
      obtain ⟨c1, c2, c3⟩ := hc (T.offs fs i + k') v (by
        rw [offs_range T fs i (by omega)]
        exact flat_get fs.length _ us hlen i hi k' v hv')
      refine ⟨hu.cell _ _ _ (fun k hk e => ?_) c1, c2, by rw [hu.froz]; exact c3⟩
      rw [c2] at e
      simp only [Tag.own.injEq, true_and] at e
      obtain ⟨e1, e2⟩ := e
      rcases htgt with ⟨h1, h2, h3⟩ | ⟨s', h1⟩
      · rcases Nat.lt_or_ge i j with hlt | hge
        · have a1 := offs_succ T fs i hi
          have a2 := offs_mono T fs (i + 1) j (by omega) (by omega)
          omega
        · have a1 := offs_succ T fs j hj
          have a2 := offs_mono T fs (j + 1) i (by omega) (by omega)
          omega
      · obtain ⟨s0, hs0, hne⟩ := hqp
        rw [h1, hs0] at e1
        have := congrArg List.length e1
        simp at this

/-- A row's header and elements put together again, one element anew. -/
theorem node_upd {w' : World} {e : TypeId} {v : Value} {rv : Nat → Value} {ks : Nat → Prop} {p : List Nat} {n : Nat} (hT : T.Fit) (h : DR T g w rv ks (.own r p (n + 1)) (.slc e) d [v]) {i : Nat} (hi : i < d.els.length)
    {Q : List Nat} {K S : Nat} (hu : Upd g w w' r Q K S)
    (htgt : (Q = p ∧ i * T.sz e ≤ K ∧ K + S ≤ i * T.sz e + T.sz e) ∨ ∃ s, Q = p ++ [i] ++ s) {x d2 : D} {a : Addr} {c : Nat} (hv : v = .slice (some a) d.els.length c)
    (hx : Obj T g w' rv ks r p (i * T.sz e) (p ++ [i]) n e x a.block (a.off + i * T.sz e))
    (hd2 : d2.els = d.els.set i x) : DR T g w' rv ks (.own r p (n + 1)) (.slc e) d2 [v] := by
  obtain ⟨A, c', b', o', us, hvs, hA, hcap, hl, hcell, hrec⟩ := h.node_invC
  have hne : d.els ≠ [] := by intro e; rw [e] at hi; simp at hi
  obtain rfl := hA hne
  simp only [List.cons.injEq, and_true] at hvs
  rw [hv] at hvs
  simp only [Value.slice.injEq, Option.some.injEq] at hvs
  obtain ⟨rfl, -, rfl⟩ := hvs
  obtain ⟨ux, hdx, hcx⟩ := hx.ex
  have hlx : ux.length = T.sz e := hdx.length hT
  have hlen2 : d2.els.length = d.els.length := by rw [hd2]; simp
  subst hv
  rw [← hlen2]
  refine .node (some ⟨b', o', none⟩) c b' o' (fun j => if j = i then ux else us j) (fun _ => rfl) (by rw [hlen2]; exact hcap) ?_ ?_ ?_
  · intro j hj
    split
    · exact hlx
    · exact hl j (by omega)
  · intro j k v hj hv
    by_cases hij : j = i
    · subst hij
      rw [if_pos rfl] at hv
      obtain ⟨c1, c2, c3⟩ := hcx k v hv
      exact ⟨c1, c2, fun _ => c3⟩
    · rw [if_neg hij] at hv
      obtain ⟨c1, c2, c3⟩ := hcell j k v (by omega) hv
      have hk : k < T.sz e := by
        rw [← hl j (by omega)]
        rcases Nat.lt_or_ge k (us j).length with h | h
        · exact h
        · rw [List.getElem?_eq_none h] at hv; simp at hv
      refine ⟨hu.cell _ _ _ (fun k' hk' e' => ?_) c1, c2, fun hm => by rw [hu.froz]; exact c3 hm⟩
      rw [c2] at e'
      simp only [Mode.tag, Tag.own.injEq, true_and] at e'
      obtain ⟨e1, e2⟩ := e'
      rcases htgt with ⟨h1, h2, h3⟩ | ⟨s', h1⟩
      · rcases Nat.lt_or_ge j i with hlt | hge
        · have : (j + 1) * T.sz e ≤ i * T.sz e := Nat.mul_le_mul_right _ hlt
          rw [Nat.add_mul] at this; omega
        · have : (i + 1) * T.sz e ≤ j * T.sz e := Nat.mul_le_mul_right _ (by omega)
          rw [Nat.add_mul] at this; omega
      · rw [h1] at e1
        have := congrArg List.length e1
        simp at this
  · intro j hj
    rw [hd2, getD_set]
    by_cases hij : i = j
    · subst hij
      rw [if_pos ⟨rfl, hi⟩]
      simpa [Mode.elem] using hdx
    · rw [if_neg (fun h => hij h.1), if_neg (fun e => hij e.symm)]
      refine (hrec j (by omega)).upd hu fun k hk hcov => ?_
      obtain ⟨_, s, hs⟩ := hcov
      rcases htgt with ⟨h1, _, _⟩ | ⟨s', h1⟩
      · rw [h1] at hs
        have := congrArg List.length hs
        simp at this
      · rw [h1] at hs
        simp at hs
        exact hij hs.1

theorem D.put_kid (d : D) (i : Nat) (pp : List Nat) (x : D) (h : d.PutOk (i :: pp)) : ∀ j, (d.put (i :: pp) x).kid j = if j = i then (d.kid i).put pp x else d.kid j := by
  intro j
  cases d <;> simp only [D.PutOk] at h
  all_goals
    simp only [D.put, D.kid, getD_set]
    by_cases hj : j = i
    · subst hj; simp [h.1]
    · rw [if_neg (fun e => hj e.1.symm), if_neg hj]

theorem D.put_els (d : D) (i : Nat) (pp : List Nat) (x : D) (h : d.PutOk (i :: pp)) (hi : i < d.els.length) : (d.put (i :: pp) x).els = d.els.set i ((d.kid i).put pp x) := by
  cases d <;> simp only [D.PutOk] at h
  · simp [D.put, D.els, D.kid]
  · simp [D.els] at hi

theorem D.PutOk.tail {d : D} {i : Nat} {pp : List Nat} (h : d.PutOk (i :: pp)) : (d.kid i).PutOk pp := by
  cases d <;> simp only [D.PutOk] at h <;> exact h.2

/-- A store along a path: the whole reads as the data with that place put anew. -/
theorem Obj.put (hT : T.Fit) {w' : World} {Q : List Nat} {K : Nat} {x : D} : ∀ (pp : List Nat) {q : List Nat} {κ : Nat} {p : List Nat} {n : Nat} {t : TypeId} {d : D} {b o : Nat} {t' : TypeId} {d' : D} {n' : Nat} {b' o' : Nat},
    Obj T g w rv ks r q κ p n t d b o → (∃ s, p = q ++ s ∧ s ≠ []) → nav T t d n pp = some (t', d', n') → loc T w t b o pp = some (t', b', o') →
    Obj T g w rv ks r Q K (p ++ pp) n' t' d' b' o' →
    ((Q = q ∧ κ ≤ K ∧ K + T.sz t' ≤ κ + T.sz t) ∨ ∃ s, Q = p ++ s) → 0 < T.sz t' →
    Upd g w w' r Q K (T.sz t') → Obj T g w' rv ks r Q K (p ++ pp) n' t' x b' o' → d.PutOk pp → (pp ≠ [] → ∃ s, Q = p ++ s ∨ True) →
    Obj T g w' rv ks r q κ p n t (d.put pp x) b o
  | [], q, κ, p, n, t, d, b, o, t', d', n', b', o', h, hqp, hn, hl, hold, htgt, hsz, hu, hx, hok, _ => by
    simp only [nav, Option.some.injEq, Prod.mk.injEq] at hn
    obtain ⟨rfl, rfl, rfl⟩ := hn
    simp only [loc, Option.some.injEq, Prod.mk.injEq] at hl
    obtain ⟨-, rfl, rfl⟩ := hl
    have hQ : Q = q ∧ K = κ := by
      obtain ⟨vs, hd, hc⟩ := h.ex
      obtain ⟨vs', hd', hc'⟩ := hold.ex
      have e1 := hd.length hT
      have e2 := hd'.length hT
      simp only at e1 e2
      have h0 : 0 < vs.length := by omega
      have h0' : 0 < vs'.length := by omega
      have a1 := (hc 0 vs[0] (by simp [h0])).2.1
      have a2 := (hc' 0 vs'[0] (by simp [h0'])).2.1
      simp only [Nat.add_zero] at a1 a2
      rw [a1] at a2
      simp only [Tag.own.injEq, true_and] at a2
      exact ⟨a2.1.symm, a2.2.symm⟩
    obtain ⟨rfl, rfl⟩ := hQ
    simpa [D.put] using hx
  | i :: pp, q, κ, p, n, t, d, b, o, t', d', n', b', o', h, hqp, hn, hl, hold, htgt, hsz, hu, hx, hok, _ => by
    simp only [nav] at hn
    split at hn
    · rename_i fs ht
      split at hn
      · rename_i hi
        simp only [loc, ht] at hl
        obtain ⟨b2, o2, q2, κ2, hl2, hobj2, htgt2⟩ := Obj.nav_loc hT pp (h.field hT ht hi) hn
        rw [hl] at hl2
        simp only [Option.some.injEq, Prod.mk.injEq, true_and] at hl2
        obtain ⟨rfl, rfl⟩ := hl2
        have hQ : Q = q2 ∧ K = κ2 := by
          obtain ⟨vs, hd, hc⟩ := hobj2.ex
          obtain ⟨vs', hd', hc'⟩ := hold.ex
          have e1 := hd.length hT
          have e2 := hd'.length hT
          simp only at e1 e2
          have h0 : 0 < vs.length := by omega
          have h0' : 0 < vs'.length := by omega
          have a1 := (hc 0 vs[0] (by simp [h0])).2.1
          have a2 := (hc' 0 vs'[0] (by simp [h0'])).2.1
          simp only [Nat.add_zero] at a1 a2
          rw [a1] at a2
          simp only [Tag.own.injEq, true_and] at a2
          exact ⟨a2.1.symm, a2.2.symm⟩
        obtain ⟨rfl, rfl⟩ := hQ
        have hx' := Obj.put hT pp (h.field hT ht hi) (by
            obtain ⟨s, hs, hne⟩ := hqp; exact ⟨s ++ [i], by simp [hs], by simp⟩) hn hl (by simpa using hold) (by simpa using htgt2) hsz hu (by simpa using hx) hok.tail (fun _ => ⟨[], .inr trivial⟩)
        exact h.field_upd hT ht hi hu (by simpa using htgt2) hqp hx' (D.put_kid d i pp x hok)
      · simp at hn
    · rename_i e m ht
      split at hn
      · rename_i hi
        obtain ⟨a, c, h1, h2, h3⟩ := h.row ht hi
        simp only [loc, ht, h1] at hl
        obtain ⟨b2, o2, q2, κ2, hl2, hobj2, htgt2⟩ := Obj.nav_loc hT pp h3 hn
        rw [hl] at hl2
        simp only [Option.some.injEq, Prod.mk.injEq, true_and] at hl2
        obtain ⟨rfl, rfl⟩ := hl2
        have hQ : Q = q2 ∧ K = κ2 := by
          obtain ⟨vs, hd, hc⟩ := hobj2.ex
          obtain ⟨vs', hd', hc'⟩ := hold.ex
          have e1 := hd.length hT
          have e2 := hd'.length hT
          simp only at e1 e2
          have h0 : 0 < vs.length := by omega
          have h0' : 0 < vs'.length := by omega
          have a1 := (hc 0 vs[0] (by simp [h0])).2.1
          have a2 := (hc' 0 vs'[0] (by simp [h0'])).2.1
          simp only [Nat.add_zero] at a1 a2
          rw [a1] at a2
          simp only [Tag.own.injEq, true_and] at a2
          exact ⟨a2.1.symm, a2.2.symm⟩
        obtain ⟨rfl, rfl⟩ := hQ
        have hx' := Obj.put hT pp h3 ⟨[i], rfl, by simp⟩ hn hl (by simpa using hold) (by simpa using htgt2) hsz hu (by simpa using hx) hok.tail (fun _ => ⟨[], .inr trivial⟩)
        obtain ⟨vs, hd, hc⟩ := h.ex
        have hk : ∀ K, d ≠ .key K := by intro K e; rw [e] at hi; simp [D.els] at hi
        have hnode := hd.slice_inv ht hk
        obtain ⟨A, c', b3, o3, us, rfl, _⟩ := hnode.node_inv
        have hc0 := hc 0 _ rfl
        simp only [Nat.add_zero] at hc0
        rw [h1] at hc0
        have hval : Value.slice A d.els.length c' = .slice (some a) d.els.length c := by have := hc0.1; simpa using this.symm
        have hd2 := D.put_els d i pp x hok hi
        have hnode2 := node_upd hT hnode hi hu (by simpa using htgt2) hval (by simpa using hx') hd2
        refine ⟨_, .sl ht (fun K e => ?_) hnode2, fun k v hv => ?_⟩
        · have e2 : (d.put (i :: pp) x).els = [] := by rw [e]; rfl
          rw [hd2] at e2
          have e3 := congrArg List.length e2
          rw [List.length_set, List.length_nil] at e3
          omega
        · have hk0 : k = 0 := by
            cases k with
            | zero => rfl
            | succ k => simp at hv
          subst hk0
          simp only [List.getElem?_cons_zero, Option.some.injEq] at hv
          subst hv
          refine ⟨?_, hc0.2.1, by rw [hu.froz]; exact hc0.2.2⟩
          rw [hval]
          refine hu.cell _ _ _ (fun k hk e' => ?_) h1
          have h2' := hc0.2.1
          simp only [Nat.add_zero] at h2' e'
          rw [h2'] at e'
          simp only [Tag.own.injEq, true_and] at e'
          obtain ⟨s, hs, hne⟩ := hqp
          have hQp : ∃ s', Q = p ++ s' := by
            rcases htgt2 with ⟨h, _⟩ | ⟨s', h⟩
            · exact ⟨[], by simp [h]⟩
            · exact ⟨[i] ++ s', by simp [h]⟩
          obtain ⟨s', hs'⟩ := hQp
          have l1 := congrArg List.length e'.1
          rw [hs'] at l1
          have l2 := congrArg List.length hs
          simp only [List.length_append] at l1 l2
          have : s.length ≠ 0 := fun e => hne (List.length_eq_zero_iff.1 e)
          omega
      · simp at hn
    · simp at hn
end

end Go.VI

namespace Go.VI

/-- A row (or a variable) of the call's own: the type of its elements, the elements, how many levels of rows in it are its own, whether its capacity is its length, a counter (its header turned), whether another root holds it, and the roots that it holds. -/
structure Root where
  e : TypeId
  els : List D
  dep : Nat
  full : Bool
  av : Nat
  held : Bool
  keys : List Nat
  one : Bool := false

abbrev Roots := Nat → Option Root

inductive VV where
  | int (k : IntKind) (n : Int)
  | bool (b : Bool)
  | str (s : ByteArray)
  | con (v : Value)
  | nils
  | imm (e : TypeId) (full : Bool) (els : List D)
  | agg (t : TypeId) (d : D)
  | top (r av : Nat)
  | win (r av off len : Nat) (full : Bool)
  | addr (r av i : Nat) (q : List Nat) (t : TypeId)
  | iaddr (t : TypeId) (d : D)
  | fn (f : FuncId) (caps : List VV)
  | tup (vs : List VV)
  | dead

instance : Inhabited VV := ⟨.dead⟩

/-- A way through fields alone: the type at its end, and how far on it lies. -/
def flat (T : Tab) : TypeId → List Nat → Option (TypeId × Nat)
  | t, [] => some (t, 0)
  | t, i :: p => match T.ty t with
    | some (.struct fs) => if i < fs.length then (flat T (fs.getD i 0) p).map fun r => (r.1, T.offs fs i + r.2) else none
    | _ => none

def imms : Nat → Prop := fun _ => False

/-- The header h of the row root begins at block b, cell o. -/
def Base (h : Value) (root : Root) (b o : Nat) : Prop := ∃ c, h = .slice (some ⟨b, o, none⟩) root.els.length c

inductive SR (T : Tab) (g : Tags) (w : World) (rv : Nat → Value) (ρ : Roots) : VV → Value → Prop
  | int {k : IntKind} {n : Int} : SR T g w rv ρ (.int k n) (.int k n)
  | bool {b : Bool} : SR T g w rv ρ (.bool b) (.bool b)
  | str {s : ByteArray} : SR T g w rv ρ (.str s) (.string s)
  | con {v : Value} : SR T g w rv ρ (.con v) v
  | nils : SR T g w rv ρ .nils (.slice none 0 0)
  | imm {e : TypeId} {full : Bool} {els : List D} {v : Value} : DR T g w rv imms .imm (.slc e) (.list els) [v] → (full = true → ∃ A, v = .slice A els.length els.length) →
      SR T g w rv ρ (.imm e full els) v
  | agg {t : TypeId} {d : D} {vs : Array Value} : (∃ fs, T.ty t = some (.struct fs)) → DR T g w rv imms .imm (.val t) d vs.toList → SR T g w rv ρ (.agg t d) (.agg vs)
  | top {r av : Nat} {v : Value} : (∀ root, ρ r = some root → av = root.av → v = rv r) → SR T g w rv ρ (.top r av) v
  | win {r av off len : Nat} {full : Bool} {v : Value} : (∀ root, ρ r = some root → av = root.av → off + len ≤ root.els.length ∧
        ∃ A c, v = .slice A len c ∧ len ≤ c ∧ (full = true → c = len) ∧ (0 < len → ∃ b o, Base (rv r) root b o ∧ A = some ⟨b, o + off * T.sz root.e, none⟩)) →
      SR T g w rv ρ (.win r av off len full) v
  | addr {r av i : Nat} {q : List Nat} {t : TypeId} {v : Value} : (∀ root, ρ r = some root → av = root.av → i < root.els.length ∧
        ∃ fo b o, flat T root.e q = some (t, fo) ∧ Base (rv r) root b o ∧ v = .pointer (some ⟨b, o + i * T.sz root.e + fo, none⟩)) → SR T g w rv ρ (.addr r av i q t) v
  | iaddr {t : TypeId} {d : D} {vs : List Value} {b o : Nat} : DR T g w rv imms .imm (.val t) d vs →
      (∀ k v, vs[k]? = some v → cellOf w b (o + k) = some v ∧ g b (o + k) = .imm) → SR T g w rv ρ (.iaddr t d) (.pointer (some ⟨b, o, none⟩))
  | fn {f : FuncId} {caps : List VV} {cs : Array Value} : caps.length = cs.size → (∀ (i : Nat) x v, caps[i]? = some x → cs[i]? = some v → SR T g w rv ρ x v) → SR T g w rv ρ (.fn f caps) (.func (.func f) #[] cs)
  | tup {vs : List VV} {cs : Array Value} : vs.length = cs.size → (∀ (i : Nat) x v, vs[i]? = some x → cs[i]? = some v → SR T g w rv ρ x v) → SR T g w rv ρ (.tup vs) (.tuple cs)
  | dead {v : Value} : SR T g w rv ρ .dead v

/-- The roots that a value names. -/
inductive Names (r av : Nat) : VV → Prop
  | top : Names r av (.top r av)
  | win {off len : Nat} {full : Bool} : Names r av (.win r av off len full)
  | addr {i : Nat} {q : List Nat} {t : TypeId} : Names r av (.addr r av i q t)
  | fn {f : FuncId} {caps : List VV} {x : VV} : x ∈ caps → Names r av x → Names r av (.fn f caps)
  | tup {vs : List VV} {x : VV} : x ∈ vs → Names r av x → Names r av (.tup vs)

/-- Whatever root a value names is there; its counter is not behind. -/
def Live (ρ : Roots) (x : VV) : Prop := ∀ r av, Names r av x → ∃ root, ρ r = some root ∧ av ≤ root.av

structure RootR (T : Tab) (g : Tags) (w : World) (rv : Nat → Value) (r : Nat) (root : Root) : Prop where
  dep : 0 < root.dep
  dr : DR T g w rv (· ∈ root.keys) (.own r [] root.dep) (.slc root.e) (.list root.els) [rv r]
  full : root.full = true → ∃ A, rv r = .slice A root.els.length root.els.length
  spare : ∀ b o c, rv r = .slice (some ⟨b, o, none⟩) root.els.length c → ∀ k, root.els.length * T.sz root.e ≤ k → k < c * T.sz root.e →
    (cellOf w b (o + k)).isSome ∧ g b (o + k) = .own r [] k ∧ frozenOf w b (o + k) = false
  form : (∃ b o c, rv r = .slice (some ⟨b, o, none⟩) root.els.length c) ∨ ∃ A, rv r = .slice A 0 0

/-- How a world and its marks may turn from a call's begin on. -/
structure Ev (w0 : World) (g0 : Tags) (w : World) (g : Tags) : Prop where
  os : w.os = w0.os
  tape : w.tape = w0.tape
  output : w.output = w0.output
  size : w0.heap.size ≤ w.heap.size
  blk : ∀ b, b < w0.heap.size → (∀ o r q k, g0 b o ≠ .own r q k) → w.heap[b]? = w0.heap[b]?
  cell : ∀ b o, b < w0.heap.size → (∀ r q k, g0 b o ≠ .own r q k) → cellOf w b o = cellOf w0 b o
  froz : ∀ b o, b < w0.heap.size → frozenOf w b o = frozenOf w0 b o
  has : ∀ b o v, b < w0.heap.size → cellOf w0 b o = some v → (cellOf w b o).isSome
  tags : ∀ b o, b < w0.heap.size → g b o = g0 b o

structure Ctx where
  w0 : World
  g0 : Tags
  hdr : Nat → Option (Nat × Value) := fun _ => none

/-- The frame a and the world w are in the state (ρ, sl). -/
structure R (T : Tab) (C : Ctx) (g : Tags) (w : World) (rv : Nat → Value) (ρ : Roots) (sl : List VV) (a : Act) : Prop where
  ev : Ev C.w0 C.g0 w g
  defers : a.defers = []
  len : sl.length = a.tmps.size
  slots : ∀ (i : Nat) x v, sl[i]? = some x → a.tmps[i]? = some v → SR T g w rv ρ x v
  names : ∀ (i : Nat) x, sl[i]? = some x → Live ρ x
  roots : ∀ r root, ρ r = some root → RootR T g w rv r root
  live : ∀ b o r q k, g b o = .own r q k → (ρ r).isSome
  held : ∀ r root, ρ r = some root → ∀ K ∈ root.keys, ∃ rk, ρ K = some rk ∧ rk.held = true
  hdr : ∀ r av v, C.hdr r = some (av, v) → ∃ root, ρ r = some root ∧ av ≤ root.av ∧ (root.av = av → rv r = v)

theorem Ev.refl (w : World) (g : Tags) : Ev w g w g := ⟨rfl, rfl, rfl, Nat.le_refl _, fun _ _ _ => rfl, fun _ _ _ _ => rfl, fun _ _ _ => rfl, fun _ _ _ _ h => by rw [h]; rfl, fun _ _ _ => rfl⟩

theorem Ev.below {w0 w : World} {g0 g : Tags} (h : Ev w0 g0 w g) (hg : ∀ b o r q k, g0 b o ≠ .own r q k) : RowKit.Below w0.heap.size w0 w :=
  ⟨h.os, h.tape, h.output, h.size, fun k hk => h.blk k hk (fun o r q k' => hg k o r q k')⟩

theorem hdr_keep {hdr : Nat → Option (Nat × Value)} {ρ ρ' : Roots} {rv rv' : Nat → Value} (h : ∀ r av v, hdr r = some (av, v) → ∃ root, ρ r = some root ∧ av ≤ root.av ∧ (root.av = av → rv r = v))
    (hs : ∀ r root, ρ r = some root → ∃ root', ρ' r = some root' ∧ root.av ≤ root'.av ∧ (root'.av = root.av → rv' r = rv r)) :
    ∀ r av v, hdr r = some (av, v) → ∃ root, ρ' r = some root ∧ av ≤ root.av ∧ (root.av = av → rv' r = v) := by
  intro r av v hr
  obtain ⟨root, h1, h2, h3⟩ := h r av v hr
  obtain ⟨root', k1, k2, k3⟩ := hs r root h1
  exact ⟨root', k1, by omega, fun e => by rw [k3 (by omega)]; exact h3 (by omega)⟩

theorem cellOf_lt {w : World} {b o : Nat} {v : Value} (h : cellOf w b o = some v) : b < w.heap.size := by
  unfold cellOf World.cell? at h
  rcases Nat.lt_or_ge b w.heap.size with h' | h'
  · exact h'
  · simp [Array.getElem?_eq_none h'] at h

/-- What turns of the roots without a slot's noticing: a root that is there has its header, its elements' type and number as it had, or its counter has turned. -/
structure SameRoots (ρ ρ' : Roots) (rv rv' : Nat → Value) (r : Nat) : Prop where
  same : ∀ root root', ρ r = some root → ρ' r = some root' → (root.e = root'.e ∧ root.els.length = root'.els.length ∧ root.av = root'.av ∧ rv' r = rv r) ∨ root.av < root'.av

theorem SameRoots.refl (ρ : Roots) (rv : Nat → Value) (r : Nat) : SameRoots ρ ρ rv rv r := ⟨fun root root' h h' => by
  rw [h] at h'; simp only [Option.some.injEq] at h'; subst h'; exact .inl ⟨rfl, rfl, rfl, rfl⟩⟩

theorem SR.keep {T : Tab} {g g' : Tags} {w w' : World} {rv rv' : Nat → Value} {ρ ρ' : Roots} {x : VV} {v : Value} (h : SR T g w rv ρ x v)
    (himm : ∀ b o u, g b o = .imm → cellOf w b o = some u → g' b o = .imm ∧ cellOf w' b o = some u ∧ frozenOf w' b o = frozenOf w b o)
    (hl : Live ρ x) (hr : ∀ r av, Names r av x → SameRoots ρ ρ' rv rv' r) : SR T g' w' rv' ρ' x v := by
  have hdr : ∀ {s : Sh} {d : D} {vs : List Value}, DR T g w rv imms .imm s d vs → DR T g' w' rv' imms .imm s d vs := fun hd =>
    hd.agree (fun b o u hc hu => by
      have hi : g b o = .imm := by
        revert hc; cases g b o <;> simp [Cov]
      obtain ⟨h1, h2, h3⟩ := himm b o u hi hu
      exact ⟨by rw [h1, hi], h2, h3⟩) (fun _ h => h.elim)
  induction h with
  | int => exact .int
  | bool => exact .bool
  | str => exact .str
  | con => exact .con
  | nils => exact .nils
  | imm h1 h2 => exact .imm (hdr h1) h2
  | agg h1 h2 => exact .agg h1 (hdr h2)
  | top h1 =>
    refine .top fun root' hroot' hav => ?_
    obtain ⟨root, e1, ele⟩ := hl _ _ .top
    obtain ⟨e2, e3, e4, e5⟩ := ((hr _ _ .top).same root root' e1 hroot').resolve_right (by omega)
    rw [e5]; exact h1 root e1 (by rw [hav, e4])
  | win h1 =>
    refine .win fun root' hroot' hav => ?_
    obtain ⟨root, e1, ele⟩ := hl _ _ .win
    obtain ⟨e2, e3, e4, e5⟩ := ((hr _ _ .win).same root root' e1 hroot').resolve_right (by omega)
    obtain ⟨k1, A, c, k2, k3, k4, k5⟩ := h1 root e1 (by rw [hav, e4])
    refine ⟨by omega, A, c, k2, k3, k4, fun hl => ?_⟩
    obtain ⟨b, o, ⟨c', hb⟩, hA⟩ := k5 hl
    exact ⟨b, o, ⟨c', by rw [e5, hb, e3]⟩, by rw [hA, e2]⟩
  | addr h1 =>
    refine .addr fun root' hroot' hav => ?_
    obtain ⟨root, e1, ele⟩ := hl _ _ .addr
    obtain ⟨e2, e3, e4, e5⟩ := ((hr _ _ .addr).same root root' e1 hroot').resolve_right (by omega)
    obtain ⟨k1, fo, b, o, k2, ⟨c', hb⟩, k4⟩ := h1 root e1 (by rw [hav, e4])
    exact ⟨by omega, fo, b, o, by rw [← e2]; exact k2, ⟨c', by rw [e5, hb, e3]⟩, by rw [k4, e2]⟩
  | iaddr h1 h2 =>
    refine .iaddr (hdr h1) fun k u hk => ?_
    obtain ⟨k1, k2⟩ := h2 k u hk
    obtain ⟨k3, k4, _⟩ := himm _ _ _ k2 k1
    exact ⟨k4, k3⟩
  | fn h1 _ ih => exact .fn h1 fun i x v hx hv => ih i x v hx hv (fun r av hn => hl r av (.fn (List.mem_of_getElem? hx) hn)) (fun r av hn => hr r av (.fn (List.mem_of_getElem? hx) hn))
  | tup h1 _ ih => exact .tup h1 fun i x v hx hv => ih i x v hx hv (fun r av hn => hl r av (.tup (List.mem_of_getElem? hx) hn)) (fun r av hn => hr r av (.tup (List.mem_of_getElem? hx) hn))
  | dead => exact .dead

theorem put_get (a : Act) (d i : Nat) (v u : Value) (h : (a.put (some d) v).tmps[i]? = some u) : (i = d ∧ u = v) ∨ (i ≠ d ∧ a.tmps[i]? = some u) := by
  simp only [Act.put, Array.getElem?_setIfInBounds] at h
  by_cases hd : d = i
  · subst hd
    rw [if_pos rfl] at h
    split at h
    · simp only [Option.some.injEq] at h; exact .inl ⟨rfl, h.symm⟩
    · simp at h
  · rw [if_neg hd] at h; exact .inr ⟨fun e => hd e.symm, h⟩

theorem set_get {α : Type} (l : List α) (d i : Nat) (x y : α) (h : (l.set d x)[i]? = some y) : (i = d ∧ y = x) ∨ (i ≠ d ∧ l[i]? = some y) := by
  rw [List.getElem?_set] at h
  by_cases hd : d = i
  · subst hd
    rw [if_pos rfl] at h
    split at h
    · simp only [Option.some.injEq] at h; exact .inl ⟨rfl, h.symm⟩
    · simp at h
  · rw [if_neg hd] at h; exact .inr ⟨fun e => hd e.symm, h⟩

def setSlot (sl : List VV) : Option Nat → VV → List VV
  | some d, x => sl.set d x
  | none, _ => sl

/-- A slot is written. -/
theorem R.put {T : Tab} {C : Ctx} {g : Tags} {w : World} {rv : Nat → Value} {ρ : Roots} {sl : List VV} {a : Act} (h : R T C g w rv ρ sl a) {x : VV} {v : Value} (dst : Option Nat)
    (hx : SR T g w rv ρ x v) (hn : Live ρ x) : R T C g w rv ρ (setSlot sl dst x) (a.put dst v) := by
  cases dst with
  | none => exact h
  | some d =>
    refine ⟨h.ev, h.defers, by simp [setSlot, Act.put, h.len], ?_, ?_, h.roots, h.live, h.held, h.hdr⟩
    · intro i y u hy hu
      rcases set_get _ _ _ _ _ hy with ⟨rfl, rfl⟩ | ⟨hi, hy'⟩
      · rcases put_get _ _ _ _ _ hu with ⟨_, rfl⟩ | ⟨hi, _⟩
        · exact hx
        · exact absurd rfl hi
      · rcases put_get _ _ _ _ _ hu with ⟨rfl, _⟩ | ⟨_, hu'⟩
        · exact absurd rfl hi
        · exact h.slots i y u hy' hu'
    · intro i y hy
      rcases set_get _ _ _ _ _ hy with ⟨rfl, rfl⟩ | ⟨hi, hy'⟩
      · exact hn
      · exact h.names i y hy'

/-- Nothing of the heap has turned. -/
theorem R.heap_same {T : Tab} {C : Ctx} {g : Tags} {w w' : World} {rv : Nat → Value} {ρ : Roots} {sl : List VV} {a : Act} (h : R T C g w rv ρ sl a)
    (hh : w'.heap = w.heap) (ho : w'.os = w.os) (ht : w'.tape = w.tape) (hp : w'.output = w.output) : R T C g w' rv ρ sl a := by
  have hc : ∀ b o, cellOf w' b o = cellOf w b o := fun b o => by simp [cellOf, World.cell?, hh]
  have hf : ∀ b o, frozenOf w' b o = frozenOf w b o := fun b o => by simp [frozenOf, World.frozen?, hh]
  refine ⟨⟨ho ▸ h.ev.os, ht ▸ h.ev.tape, hp ▸ h.ev.output, by rw [hh]; exact h.ev.size, fun b hb hg => by rw [hh]; exact h.ev.blk b hb hg,
    fun b o hb hg => by rw [hc]; exact h.ev.cell b o hb hg, fun b o hb => by rw [hf]; exact h.ev.froz b o hb, fun b o v hb hv => by rw [hc]; exact h.ev.has b o v hb hv, h.ev.tags⟩, h.defers, h.len, ?_, h.names, ?_, h.live, h.held, h.hdr⟩
  · intro i x v hx hv
    exact (h.slots i x v hx hv).keep (fun b o u h1 h2 => ⟨h1, by rw [hc]; exact h2, hf b o⟩) (h.names i x hx) (fun r _ _ => .refl _ _ _)
  · intro r root hr
    have := h.roots r root hr
    exact ⟨this.dep, this.dr.agree (fun b o v _ hv => ⟨rfl, by rw [hc]; exact hv, hf b o⟩) (fun _ h => ⟨h, rfl⟩), this.full,
      fun b o c h1 k h2 h3 => by rw [hc, hf]; exact this.spare b o c h1 k h2 h3, this.form⟩

end Go.VI

namespace Go.VI

structure TabOK (P : Program) (T : Tab) : Prop where
  fit : T.Fit
  int : ∀ t k, T.ty t = some (.int k) → P.underlying t = some (.int k)
  bool : ∀ t, T.ty t = some .bool → P.underlying t = some .bool
  str : ∀ t, T.ty t = some .str → P.underlying t = some .string
  slice : ∀ t e, T.ty t = some (.slice e) → P.underlying t = some (.slice e) ∧ (T.ty e).isSome
  struct : ∀ t fs, T.ty t = some (.struct fs) → ∃ fields, P.underlying t = some (.struct fields) ∧ fields.size = fs.length ∧
    ∀ j f, fields[j]? = some f → f.type = fs.getD j 0 ∧ f.offset = T.offs fs j ∧ (T.ty (fs.getD j 0)).isSome
  plain : ∀ t, T.ty t = some .plain → ∃ u, P.underlying t = some u ∧ (∀ a b, u ≠ .array a b) ∧ (∀ f, u ≠ .struct f)
  info : ∀ t, (T.ty t).isSome → ∃ i z, P.info? t = some i ∧ i.size = T.sz t ∧ i.bytes = T.bytes t ∧ i.zero = some z ∧
    ∀ (m : Mode) g w rv ks, DR T g w rv ks m (.val t) (T.zero t) z.cells.toList

structure Res where
  x : VV
  ups : List (Nat × Root) := []
  obs : List Prop := []

/-- The result of a call: a value with no root in it, or a row of its own, new. -/
inductive RV where
  | v (x : VV)
  | own (root : Root)
  | tup (l : List RV)

/-- What an operation is handed beside its operands: the result of a call, a key. -/
inductive Sup where
  | no
  | key (K : Nat)
  | mem (K dep : Nat)
  | call (K : Nat) (res : RV) (inn : List Nat) (out : List (Nat × Root))

def fromD (T : Tab) (t : TypeId) (d : D) : Option VV :=
  match T.ty t with
  | some (.int k) => some (.int k d.toInt)
  | some .bool => some (.bool d.toBool)
  | some .str => some (.str d.toStr)
  | some (.slice e) => some (.imm e false d.els)
  | some (.struct _) => some (.agg t d)
  | some .plain => match d with
    | .con v => some (.con v)
    | _ => none
  | none => none

def toD (T : Tab) (t : TypeId) (x : VV) : Option D :=
  match T.ty t, x with
  | some (.int k), .int k' n => if k = k' then some (.int n) else none
  | some .bool, .bool b => some (.bool b)
  | some .str, .str s => some (.str s)
  | some (.slice e), .imm e' _ els => if e = e' then some (.list els) else none
  | some (.slice _), .nils => some (.list [])
  | some (.struct _), .agg t' d => if t = t' then some d else none
  | some .plain, .con v => if v.oneCell' then some (.con v) else none
  | _, _ => none

def scalar (T : Tab) (t : TypeId) : Bool :=
  match T.ty t with
  | some (.int _) | some .bool | some .str | some .plain => true
  | _ => false

theorem toD_dr {P : Program} {T : Tab} (hT : TabOK P T) {g : Tags} {w : World} {rv : Nat → Value} {ρ : Roots} {t : TypeId} {x : VV} {v : Value} {d : D}
    (hx : SR T g w rv ρ x v) (hd : toD T t x = some d) : DR T g w rv imms .imm (.val t) d v.cells.toList ∧ v.cells.toList.length = T.sz t := by
  have key : DR T g w rv imms .imm (.val t) d v.cells.toList := by
    unfold toD at hd
    split at hd
    · split at hd
      · rename_i k k' n ht e
        subst e
        simp only [Option.some.injEq] at hd; subst hd
        cases hx; exact .int (d := .int n) ht
      · simp at hd
    · rename_i b ht
      simp only [Option.some.injEq] at hd; subst hd
      cases hx; exact .bool (d := .bool b) ht
    · rename_i s ht
      simp only [Option.some.injEq] at hd; subst hd
      cases hx; exact .str (d := .str s) ht
    · split at hd
      · rename_i e e' full els ht he
        subst he
        simp only [Option.some.injEq] at hd; subst hd
        cases hx with
        | imm h1 h2 =>
          have hv : v.cells.toList = [v] := by
            obtain ⟨A, c, b, o, us, h3, _⟩ := h1.node_inv
            simp only [List.cons.injEq, and_true] at h3
            subst h3; rfl
          rw [hv]; exact .sl ht (fun K h => by cases h) h1
      · simp at hd
    · rename_i e ht
      simp only [Option.some.injEq] at hd; subst hd
      cases hx
      refine .sl ht (fun K h => by cases h) ?_
      exact .node (d := .list []) none 0 0 0 (fun _ => []) (fun h => absurd rfl h) (Nat.le_refl _) (fun i hi => absurd hi (by simp [D.els])) (fun i k v hi => absurd hi (by simp [D.els])) (fun i hi => absurd hi (by simp [D.els]))
    · split at hd
      · rename_i fs t' d' ht he
        subst he
        simp only [Option.some.injEq] at hd; subst hd
        cases hx with
        | agg h1 h2 => exact h2
      · simp at hd
    · split at hd
      · rename_i v' ht hone
        simp only [Option.some.injEq] at hd; subst hd
        cases hx
        have hv : v.cells.toList = [v] := by cases v <;> first | rfl | simp [Value.oneCell'] at hone
        rw [hv]; exact .plain ht hone
      · simp at hd
    · simp at hd
  exact ⟨key, key.length hT.fit⟩

theorem fromD_sr {P : Program} {T : Tab} (hT : TabOK P T) {g : Tags} {w : World} {rv : Nat → Value} {ρ : Roots} {t : TypeId} {x : VV} {d : D} {vs : List Value}
    (hd : DR T g w rv imms .imm (.val t) d vs) (hx : fromD T t d = some x) :
    ∃ v, SR T g w rv ρ x v ∧ (∀ r av, ¬ Names r av x) ∧ ((∃ fs, T.ty t = some (.struct fs)) → v = .agg vs.toArray) ∧ ((∀ fs, T.ty t ≠ some (.struct fs)) → vs = [v] ∧ v.oneCell' = true) := by
  unfold fromD at hx
  split at hx
  · rename_i k ht
    simp only [Option.some.injEq] at hx; subst hx
    have := hd.int_inv ht; subst this
    exact ⟨_, .int, fun r av h => (by cases h), fun ⟨fs, h⟩ => (by rw [ht] at h; simp at h), fun _ => ⟨rfl, rfl⟩⟩
  · rename_i ht
    simp only [Option.some.injEq] at hx; subst hx
    have := hd.bool_inv ht; subst this
    exact ⟨_, .bool, fun r av h => (by cases h), fun ⟨fs, h⟩ => (by rw [ht] at h; simp at h), fun _ => ⟨rfl, rfl⟩⟩
  · rename_i ht
    simp only [Option.some.injEq] at hx; subst hx
    have := hd.str_inv ht; subst this
    exact ⟨_, .str, fun r av h => (by cases h), fun ⟨fs, h⟩ => (by rw [ht] at h; simp at h), fun _ => ⟨rfl, rfl⟩⟩
  · rename_i e ht
    simp only [Option.some.injEq] at hx; subst hx
    have hk : ∀ K, d ≠ .key K := by intro K e; subst e; exact (hd.key_inv ht).2.elim
    have h1 := hd.slice_inv ht hk
    obtain ⟨A, c, b, o, us, h3, h4, h5, h6, h7, h8⟩ := h1.node_inv
    subst h3
    refine ⟨_, .imm ?_ (fun h => by simp at h), fun r av h => (by cases h), fun ⟨fs, h⟩ => (by rw [ht] at h; simp at h), fun _ => ⟨rfl, rfl⟩⟩
    have := DR.node (T := T) (g := g) (w := w) (rv := rv) (ks := imms) (m := .imm) (e := e) (d := .list d.els) A c b o us h4 h5 h6 h7 h8
    exact this
  · rename_i fs ht
    simp only [Option.some.injEq] at hx; subst hx
    exact ⟨.agg vs.toArray, .agg ⟨fs, ht⟩ (by simpa using hd), fun r av h => (by cases h), fun _ => rfl, fun h => absurd ht (h fs)⟩
  · rename_i ht
    obtain ⟨v, rfl, rfl, h1⟩ := hd.plain_inv ht
    simp only [Option.some.injEq] at hx; subst hx
    exact ⟨_, .con, fun r av h => (by cases h), fun ⟨fs, h⟩ => (by rw [ht] at h; simp at h), fun _ => ⟨rfl, h1⟩⟩
  · simp at hx

end Go.VI

namespace Go.VI

def constV : Value → VV
  | .int k n => .int k n
  | .bool b => .bool b
  | .string s => .str s
  | .slice none 0 0 => .nils
  | v => .con v

def sval (sl : List VV) : Operand → VV
  | .tmp t => sl.getD t .dead
  | .const v => constV v
  | .func f => .fn f []
  | .global _ => .dead

theorem constV_sr {T : Tab} {g : Tags} {w : World} {rv : Nat → Value} {ρ : Roots} (v : Value) : SR T g w rv ρ (constV v) v ∧ ∀ r av, ¬ Names r av (constV v) := by
  cases v with
  | slice a n c =>
    cases a with
    | none =>
      cases n with
      | zero => cases c with
        | zero => exact ⟨.nils, fun r av h => by cases h⟩
        | succ c => exact ⟨.con, fun r av h => by cases h⟩
      | succ n => exact ⟨.con, fun r av h => by cases h⟩
    | some a => exact ⟨.con, fun r av h => by cases h⟩
  | int k n => exact ⟨.int, fun r av h => by cases h⟩
  | bool b => exact ⟨.bool, fun r av h => by cases h⟩
  | string s => exact ⟨.str, fun r av h => by cases h⟩
  | _ => exact ⟨.con, fun r av h => by cases h⟩

theorem R.eval {T : Tab} {C : Ctx} {g : Tags} {w : World} {rv : Nat → Value} {ρ : Roots} {sl : List VV} {a : Act} (h : R T C g w rv ρ sl a) (o : Operand) :
    SR T g w rv ρ (sval sl o) (a.eval o) ∧ Live ρ (sval sl o) := by
  cases o with
  | tmp t =>
    simp only [sval, Act.eval]
    rcases Nat.lt_or_ge t sl.length with ht | ht
    · have ht' : t < a.tmps.size := by rw [← h.len]; exact ht
      have e1 : sl[t]? = some sl[t] := by simp [ht]
      have e2 : a.tmps[t]? = some a.tmps[t] := by simp [ht']
      have e3 : sl.getD t .dead = sl[t] := by simp [List.getD_eq_getElem?_getD, ht]
      have e4 : a.tmps.getD t undef = a.tmps[t] := by simp [Array.getD_eq_getD_getElem?, ht']
      rw [e3, e4]
      exact ⟨h.slots t _ _ e1 e2, h.names t _ e1⟩
    · have e3 : sl.getD t .dead = .dead := by simp [List.getD_eq_getElem?_getD, ht]
      rw [e3]
      exact ⟨.dead, fun r av hr => by cases hr⟩
  | const v => exact ⟨(constV_sr v).1, fun r av hr => absurd hr ((constV_sr (T := T) (g := g) (w := w) (rv := rv) (ρ := ρ) v).2 r av)⟩
  | func f => exact ⟨.fn rfl (fun i x v hx => by simp at hx), fun r av hr => by cases hr with | fn h _ => simp at h⟩
  | global n => exact ⟨.dead, fun r av hr => by cases hr⟩

/-! ### Numbers -/

def bitsV (op : BinOp) (k : IntKind) (x y : Int) : Int :=
  let a := BitVec.ofInt k.bits x
  let b := BitVec.ofInt k.bits y
  k.wrap ((match op with | .and => a &&& b | .or => a ||| b | .xor => a ^^^ b | _ => a &&& ~~~b).toNat)

def binV (T : Tab) (op : BinOp) (t : TypeId) (x y : VV) : Option (VV × List Prop) :=
  match x, y with
  | .int k a, .int k' b =>
    match op with
    | .shl => some (.int k (k.wrap (a * 2 ^ min b.toNat k.bits)), [0 ≤ b])
    | .shr => some (.int k (a.fdiv (2 ^ min b.toNat k.bits)), [0 ≤ b])
    | _ =>
      if k = k' then
        match op with
        | .add => some (.int k (k.wrap (a + b)), [])
        | .sub => some (.int k (k.wrap (a - b)), [])
        | .mul => some (.int k (k.wrap (a * b)), [])
        | .quo => some (.int k (k.wrap (a.tdiv b)), [b ≠ 0])
        | .rem => some (.int k (a.tmod b), [b ≠ 0])
        | .and => some (.int k (bitsV .and k a b), [])
        | .or => some (.int k (bitsV .or k a b), [])
        | .xor => some (.int k (bitsV .xor k a b), [])
        | .andNot => some (.int k (bitsV .andNot k a b), [])
        | .eql => some (.bool (a == b), [])
        | .neq => some (.bool (a != b), [])
        | .lss => some (.bool (decide (a < b)), [])
        | .leq => some (.bool (decide (a ≤ b)), [])
        | .gtr => some (.bool (decide (a > b)), [])
        | .geq => some (.bool (decide (a ≥ b)), [])
        | _ => none
      else none
  | .bool a, .bool b =>
    match T.ty t, op with
    | some .bool, .eql => some (.bool (a == b), [])
    | some .bool, .neq => some (.bool (!(a == b)), [])
    | _, _ => none
  | .str a, .str b =>
    match op with
    | .eql => some (.bool (a.toList == b.toList), [])
    | .neq => some (.bool (!(a.toList == b.toList)), [])
    | .add => some (.str (a ++ b), [((a.size + b.size : Nat) : Int) ≤ IntKind.i64.max])
    | _ => none
  | _, _ => none

theorem all_cons {p : Prop} {l : List Prop} (h : ∀ q ∈ p :: l, q) : p ∧ ∀ q ∈ l, q := ⟨h p (.head _), fun q hq => h q (.tail _ hq)⟩

theorem binV_sound {P : Program} {T : Tab} (hT : TabOK P T) {g : Tags} {w : World} {rv : Nat → Value} {ρ : Roots} {op : BinOp} {t : TypeId} {ox oy : Operand} {x y z : VV} {u v : Value} {obs : List Prop}
    (hx : SR T g w rv ρ x u) (hy : SR T g w rv ρ y v) (h : binV T op t x y = some (z, obs)) (ho : ∀ p ∈ obs, p) :
    ∃ r, (do eqGuard op t ox oy u v; binOp op t u v : Sem Value).run P w = .ok r w ∧ SR T g w rv ρ z r ∧ ∀ r av, ¬ Names r av z := by
  unfold binV at h
  split at h
  · rename_i k a k' b
    cases hx; cases hy
    have hg : ∀ op, (eqGuard op t ox oy (.int k a) (.int k' b)).run P w = .ok () w := by
      intro op; cases op <;> rfl
    split at h
    · simp only [Option.some.injEq, Prod.mk.injEq] at h
      obtain ⟨rfl, rfl⟩ := h
      obtain ⟨h0, _⟩ := all_cons ho
      exact ⟨_, by simp [hg, binOp, Op.shift, show ¬ b < 0 by omega], .int, fun r av h => by cases h⟩
    · simp only [Option.some.injEq, Prod.mk.injEq] at h
      obtain ⟨rfl, rfl⟩ := h
      obtain ⟨h0, _⟩ := all_cons ho
      exact ⟨_, by simp [hg, binOp, Op.shift, show ¬ b < 0 by omega], .int, fun r av h => by cases h⟩
    · split at h
      · rename_i hk
        subst hk
        split at h <;> simp only [Option.some.injEq, Prod.mk.injEq, reduceCtorEq] at h <;> obtain ⟨rfl, rfl⟩ := h
        · exact ⟨_, by simp [hg, binOp, Op.intArith], .int, fun r av h => by cases h⟩
        · exact ⟨_, by simp [hg, binOp, Op.intArith], .int, fun r av h => by cases h⟩
        · exact ⟨_, by simp [hg, binOp, Op.intArith], .int, fun r av h => by cases h⟩
        · obtain ⟨h0, _⟩ := all_cons ho
          exact ⟨_, by simp [hg, binOp, Op.intDiv, h0], .int, fun r av h => by cases h⟩
        · obtain ⟨h0, _⟩ := all_cons ho
          exact ⟨_, by simp [hg, binOp, Op.intDiv, h0], .int, fun r av h => by cases h⟩
        · exact ⟨_, by simp [hg, binOp, Op.intBits, bitsV], .int, fun r av h => by cases h⟩
        · exact ⟨_, by simp [hg, binOp, Op.intBits, bitsV], .int, fun r av h => by cases h⟩
        · exact ⟨_, by simp [hg, binOp, Op.intBits, bitsV], .int, fun r av h => by cases h⟩
        · exact ⟨_, by simp [hg, binOp, Op.intBits, bitsV], .int, fun r av h => by cases h⟩
        · exact ⟨_, by simp [hg, binOp, Op.intCmp], .bool, fun r av h => by cases h⟩
        · exact ⟨_, by simp [hg, binOp, Op.intCmp], .bool, fun r av h => by cases h⟩
        · exact ⟨_, by simp [hg, binOp, Op.intCmp], .bool, fun r av h => by cases h⟩
        · exact ⟨_, by simp [hg, binOp, Op.intCmp], .bool, fun r av h => by cases h⟩
        · exact ⟨_, by simp [hg, binOp, Op.intCmp], .bool, fun r av h => by cases h⟩
        · exact ⟨_, by simp [hg, binOp, Op.intCmp], .bool, fun r av h => by cases h⟩
      · simp at h
  · rename_i a b
    cases hx; cases hy
    have hg : ∀ op, (eqGuard op t ox oy (.bool a) (.bool b)).run P w = .ok () w := by
      intro op; cases op <;> rfl
    split at h
    · rename_i ht
      simp only [Option.some.injEq, Prod.mk.injEq] at h
      obtain ⟨rfl, rfl⟩ := h
      exact ⟨_, by simp [hg, run_eql_bool w t a b (hT.bool _ ht)], .bool, fun r av h => by cases h⟩
    · rename_i ht
      simp only [Option.some.injEq, Prod.mk.injEq] at h
      obtain ⟨rfl, rfl⟩ := h
      exact ⟨_, by simp [hg, binOp, run_equal_bool w t a b (hT.bool _ ht)], .bool, fun r av h => by cases h⟩
    · simp at h
  · rename_i a b
    cases hx; cases hy
    have hg : ∀ op, (eqGuard op t ox oy (.string a) (.string b)).run P w = .ok () w := by
      intro op; cases op <;> rfl
    split at h <;> simp only [Option.some.injEq, Prod.mk.injEq, reduceCtorEq] at h <;> obtain ⟨rfl, rfl⟩ := h
    · exact ⟨_, by simp [hg, binOp, Op.stringOp], .bool, fun r av h => by cases h⟩
    · exact ⟨_, by simp [hg, binOp, Op.stringOp], .bool, fun r av h => by cases h⟩
    · obtain ⟨h0, _⟩ := all_cons ho
      refine ⟨.string (a ++ b), ?_, .str, fun r av h => by cases h⟩
      simp only [Sem.run_bind, hg, Result.andThen_ok, binOp, Op.stringOp]
      rw [if_neg (by omega)]; rfl
  · simp at h

def unV (op : UnOp) (x : VV) : Option VV :=
  match op, x with
  | .neg, .int k n => some (.int k (k.wrap (0 - n)))
  | .xor, .int k n => some (.int k (bitsV .xor k (if k.signed then -1 else k.max) n))
  | .not, .bool b => some (.bool !b)
  | _, _ => none

theorem unV_sound {P : Program} {T : Tab} {g : Tags} {w : World} {rv : Nat → Value} {ρ : Roots} {op : UnOp} {x z : VV} {u : Value}
    (hx : SR T g w rv ρ x u) (h : unV op x = some z) : ∃ r, (Op.unary op u).run P w = .ok r w ∧ SR T g w rv ρ z r ∧ ∀ r av, ¬ Names r av z := by
  unfold unV at h
  split at h <;> simp only [Option.some.injEq, reduceCtorEq] at h <;> subst h <;> cases hx
  · exact ⟨_, by simp [Op.unary, Op.intArith], .int, fun r av h => by cases h⟩
  · exact ⟨_, by simp [Op.unary, Op.intBits, bitsV], .int, fun r av h => by cases h⟩
  · exact ⟨_, by simp [Op.unary], .bool, fun r av h => by cases h⟩

end Go.VI
