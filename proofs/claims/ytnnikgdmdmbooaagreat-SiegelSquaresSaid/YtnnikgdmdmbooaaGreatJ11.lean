/- A nil slice as a row of the call's own, with nothing in it. A long run in two parts: the rest is run behind the first part's end. Determinants by elimination: what the program reckons. Minors. Fraction-free elimination: what the program reckons. -/
import Derived.Test.YtnnikgdmdmbooaaGreatJ08
import Derived.Test.YtnnikgdmdmbooaaGreatJ10
set_option linter.unusedVariables false
set_option linter.unusedSimpArgs false
namespace Go.VI

def bornR (e : Nat) : Root := { e := e, els := [], dep := 1, full := false, av := 0, held := false, keys := [] }

section
variable {P : Program} {T : Tab} {C : Ctx} {g : Tags} {w : World} {rv : Nat → Value} {ρ : Roots} {sl : List VV} {a : Act}

theorem R.born (h : R T C g w rv ρ sl a) {K e j : Nat} (hK : ρ K = none) (hj : sl[j]? = some .nils) :
    R T C g w (newRv rv K (.slice none 0 0)) (ρ.set K (bornR e)) (sl.set j (.top K 0)) a := by
  have rvo : ∀ k, k ≠ K → newRv rv K (.slice none 0 0) k = rv k := fun k hk => by simp [newRv, hk]
  have rvK : newRv rv K (.slice none 0 0) K = .slice none 0 0 := by simp [newRv]
  have lookK : (ρ.set K (bornR e)) K = some (bornR e) := by simp [Roots.set]
  have look : ∀ k rk', ρ k = some rk' → k ≠ K ∧ (ρ.set K (bornR e)) k = some rk' := by
    intro k rk' h1
    have : k ≠ K := by rintro rfl; rw [hK] at h1; simp at h1
    exact ⟨this, by simp [Roots.set, this, h1]⟩
  have inv : ∀ k rk', (ρ.set K (bornR e)) k = some rk' → (k = K ∧ rk' = bornR e) ∨ (k ≠ K ∧ ρ k = some rk') := by
    intro k rk' h1
    simp only [Roots.set] at h1
    split at h1
    · rename_i e; simp only [Option.some.injEq] at h1; exact .inl ⟨e, h1.symm⟩
    · rename_i e; exact .inr ⟨e, h1⟩
  have keepL : ∀ {x : VV}, Live ρ x → Live (ρ.set K (bornR e)) x := by
    intro x hl r av hn
    obtain ⟨root, k1, k2⟩ := hl r av hn
    exact ⟨root, (look r root k1).2, k2⟩
  have keep : ∀ {x : VV} {v : Value}, SR T g w rv ρ x v → Live ρ x → SR T g w (newRv rv K (.slice none 0 0)) (ρ.set K (bornR e)) x v := by
    intro x v hx hl
    refine hx.keep (fun b o u hb hu => ⟨hb, hu, rfl⟩) hl (fun r av hn => ⟨fun root1 root2 k1 k2 => .inl ?_⟩)
    obtain ⟨hne, hk⟩ := look r root1 k1
    rw [hk] at k2
    simp only [Option.some.injEq] at k2; subst k2
    exact ⟨rfl, rfl, rfl, rvo r hne⟩
  refine ⟨h.ev, h.defers, by simpa using h.len, fun i x v hx hv => ?_, fun i x hx => ?_, fun r root hr => ?_, fun b o r q k hg => ?_, fun r root hr K' hK' => ?_, ?_⟩
  · rcases set_get sl j i _ x hx with ⟨rfl, rfl⟩ | ⟨hne, hx'⟩
    · refine .top fun root hroot hav => ?_
      have := h.slots i .nils v hj hv
      cases this
      exact rvK.symm
    · exact keep (h.slots i x v hx' hv) (h.names i x hx')
  · rcases set_get sl j i _ x hx with ⟨rfl, rfl⟩ | ⟨hne, hx'⟩
    · intro r av hn
      cases hn
      exact ⟨_, lookK, Nat.le_refl _⟩
    · exact keepL (h.names i x hx')
  · rcases inv r root hr with ⟨rfl, rfl⟩ | ⟨hne, hr'⟩
    · refine ⟨Nat.one_pos, ?_, fun hf => by simp [bornR] at hf, fun b o c h2 => ?_, .inr ⟨none, rvK⟩⟩
      · rw [rvK]
        exact DR.node (d := .list []) none 0 0 0 (fun _ => []) (fun hn => absurd rfl hn) (Nat.le_refl _) (fun i hi => by simp [D.els] at hi) (fun i k v hi => by simp [D.els] at hi) (fun i hi => by simp [D.els] at hi)
      · rw [rvK] at h2; simp at h2
    · have hR := h.roots r root hr'
      rw [show RootR T g w (newRv rv K (.slice none 0 0)) r root ↔ RootR T g w (newRv rv K (.slice none 0 0)) r root from Iff.rfl]
      refine ⟨hR.dep, ?_, fun hf => ?_, fun b o c h2 => ?_, ?_⟩
      · rw [rvo r hne]
        refine hR.dr.agree (fun b o v hc hv => ⟨rfl, hv, rfl⟩) (fun K' hK' => ⟨hK', rvo K' ?_⟩)
        rintro rfl
        obtain ⟨rK, m1, _⟩ := h.held r root hr' K' hK'
        rw [hK] at m1; simp at m1
      · rw [rvo r hne]; exact hR.full hf
      · rw [rvo r hne] at h2; exact hR.spare b o c h2
      · rw [rvo r hne]; exact hR.form
  · obtain ⟨rk', h3⟩ := Option.isSome_iff_exists.1 (h.live b o r q k hg)
    rw [(look r rk' h3).2]; rfl
  · rcases inv r root hr with ⟨rfl, rfl⟩ | ⟨hne, hr'⟩
    · simp [bornR] at hK'
    · obtain ⟨rK, m1, m2⟩ := h.held r root hr' K' hK'
      exact ⟨rK, (look K' rK m1).2, m2⟩
  · refine hdr_keep h.hdr fun r root hr => ⟨root, (look r root hr).2, Nat.le_refl _, fun _ => rvo r (look r root hr).1⟩

/-- A nil slice, taken for a row of the call's own. -/
theorem Means.born {J : Job} {n : Nat} {todo : List Item} {rl : RL} {sl : SL} (j K e : Nat) (hK : getR rl K = none) (hj : getS sl j = .nils) (hjn : Nat.blt j n = true)
    (h : Means P T J n (.fin todo) (setR rl K (bornR e)) (setS sl j (.top K 0))) : Means P T J n (.fin todo) rl sl := by
  intro g w rv a hR
  have hjn' : j < n := Nat.blt_eq ▸ hjn
  have hs : (slots n sl)[j]? = some .nils := by
    have := slots_get n sl j
    rw [if_pos hjn', hj] at this
    rw [List.getD_eq_getElem?_getD] at this
    have hl : j < (slots n sl).length := by rw [slots_length]; exact hjn'
    rw [List.getElem?_eq_getElem hl] at this ⊢
    simpa using this
  have h1 := R.born hR (K := K) (e := e) hK hs
  refine h g w (newRv rv K (.slice none 0 0)) a ?_
  rw [toRoots_set, ← slots_set]
  exact h1

end
end Go.VI

namespace Go.VI

section
variable {P : Program} {T : Tab} {J : Job} {X : Cfg}

theorem allOb_to {n : Nat} {pos : Pos → RL → SL → Prop} : ∀ {l : List Prop} {q q' : Prop}, (q → q') → allOb { deep P T J n with pos := pos } l q → allOb (deep P T J n) l q'
  | [], _, _, h, h' => h h'
  | _ :: _, _, _, h, h' => ⟨h'.1, allOb_to h h'.2⟩

theorem vc_to {L : Leaf} {n : Nat} {pos : Pos → RL → SL → Prop} (hpos : ∀ p rl sl, pos p rl sl → Means P T J n p rl sl) :
    ∀ (fuel : Nat) {p : Pos} {rl : RL} {sl : SL} {cs : List Cmd}, vc L { deep P T J n with pos := pos } T X fuel p rl sl cs → vc L (deep P T J n) T X fuel p rl sl cs
  | 0, p, rl, sl, cs, h => hpos p rl sl h
  | f + 1, p, rl, sl, cs, h => by
    simp only [vc] at h ⊢
    cases hx : next L (deep P T J n).ok T X p rl sl cs with
    | go obs p' rl' sl' cs' =>
      rw [hx] at h
      exact allOb_to (fun h => vc_to hpos f h) h
    | split b p' rl' sl1 sl2 cs' =>
      rw [hx] at h
      exact ⟨fun e => vc_to hpos f (h.1 e), fun e => vc_to hpos f (h.2 e)⟩
    | splitO obs b p' rl' sl1 sl2 cs' =>
      rw [hx] at h
      exact allOb_to (fun h => ⟨fun e => vc_to hpos f (h.1 e), fun e => vc_to hpos f (h.2 e)⟩) h
    | splitP b p1 p2 rl' sl' cs1' cs2' =>
      rw [hx] at h
      exact ⟨fun e => vc_to hpos f (h.1 e), fun e => vc_to hpos f (h.2 e)⟩
    | stop => rw [hx] at h; exact hpos p rl sl h
    | haltAt p' rl' sl' => rw [hx] at h; exact hpos p' rl' sl' h
    | bad i => rw [hx] at h; exact h
    | done obs => rw [hx] at h; exact allOb_to (fun h => h) h

/-- As 'Means.go', but the commands cs2 are run where the first part's fuel ends: 'conv => cbv', 'subst hY', 'dsimp only', 'conv => cbv', 'subst hL hZ', 'dsimp only [std, deep]'. -/
theorem Means.go2 (hP : ProgOK P T) (hX : CfgOK P J X) {p : Pos} {rl : RL} {sl : SL} (cs1 : List Cmd) (f1 : Nat) (cs2 : List Cmd) (f2 : Nat)
    (h : ∀ (L : Leaf) (Z : Deep), std = L → deep P T J X.n = Z → ∀ Y : Deep, { Z with pos := fun p rl sl => vc L Z T X f2 p rl sl cs2 } = Y → vc L Y T X f1 p rl sl cs1) : Means P T J X.n p rl sl :=
  Means.run hP hX cs1 f1 (vc_to (fun p rl sl h' => Means.run hP hX cs2 f2 h') f1 (h std _ rfl rfl _ rfl))
end
end Go.VI

namespace Go.VI
open Go.Proofs
set_option maxRecDepth 20000

def pivGo (F : Nat → Nat → Int) (k n : Nat) : Nat → Nat → Nat
  | 0, p => p
  | f + 1, p => if p < n ∧ F p k = 0 then pivGo F k n f (p + 1) else p
def piv (F : Nat → Nat → Int) (k n : Nat) : Nat := pivGo F k n (n - k) k
def swapF (F : Nat → Nat → Int) (p k : Nat) : Nat → Nat → Int := fun i j => if i = p then F k j else if i = k then F p j else F i j
def stepF (F : Nat → Nat → Int) (k : Nat) (last : Int) : Nat → Nat → Int := fun i j => if k < i ∧ k < j then (F k k * F i j - F i k * F k j) / last else F i j
def pivotF (F : Nat → Nat → Int) (p k : Nat) : Nat → Nat → Int := if p = k then F else swapF F p k
def detGo (n : Nat) : Nat → Nat → (Nat → Nat → Int) → Bool → Int → Int
  | 0, _, _, odd, last => if odd then -last else last
  | f + 1, k, F, odd, last => if piv F k n = n then 0 else
      detGo n f (k + 1) (stepF (pivotF F (piv F k n) k) k last) (if piv F k n = k then odd else !odd) (pivotF F (piv F k n) k k k)
def det (n : Nat) (F : Nat → Nat → Int) : Int := detGo n n 0 F false 1

theorem pivGo_le (F : Nat → Nat → Int) (k n : Nat) : ∀ f p, p ≤ n → p ≤ pivGo F k n f p ∧ pivGo F k n f p ≤ n
  | 0, p, h => ⟨Nat.le_refl _, h⟩
  | f + 1, p, h => by
    unfold pivGo
    split
    · rename_i hc
      have := pivGo_le F k n f (p + 1) hc.1
      exact ⟨by omega, this.2⟩
    · exact ⟨Nat.le_refl _, h⟩
theorem piv_le (F : Nat → Nat → Int) {k n : Nat} (h : k ≤ n) : k ≤ piv F k n ∧ piv F k n ≤ n := pivGo_le F k n _ k h

def rowF (n : Nat) (F : Nat → Nat → Int) (i : Nat) : List D := (List.range n).map fun j => bigD (F i j)
def matF (n : Nat) (F : Nat → Nat → Int) : List D := (List.range n).map fun i => .list (rowF n F i)
def matL (n : Nat) (F : Nat → Nat → Int) : List (List D) := (List.range n).map fun i => rowF n F i
theorem matF_tab (n : Nat) (F : Nat → Nat → Int) : matD (tabM n n F) = matF n F := by simp [matD, tabM, matF, rowD, rowF]
theorem matF_map (n : Nat) (F : Nat → Nat → Int) : (matL n F).map .list = matF n F := by simp [matL, matF]
theorem matL_sq {n : Nat} (F : Nat → Nat → Int) (h1 : 1 ≤ n) (h2 : n ≤ 16) : Sq (matL n F) n := by
  refine ⟨by simp [matL], fun r hr => ?_, h1, h2⟩
  simp only [matL, List.mem_map] at hr
  obtain ⟨i, _, rfl⟩ := hr
  simp [rowF]
theorem matF_length (n : Nat) (F : Nat → Nat → Int) : (matF n F).length = n := by simp [matF]
theorem rowF_length (n : Nat) (F : Nat → Nat → Int) (i : Nat) : (rowF n F i).length = n := by simp [rowF]
theorem matF_get {n : Nat} (F : Nat → Nat → Int) {i : Nat} (h : i < n) : (matF n F).getD i .nil = .list (rowF n F i) := by simp [matF, List.getD_eq_getElem?_getD, h]
theorem rowF_get {n : Nat} (F : Nat → Nat → Int) (i : Nat) {j : Nat} (h : j < n) : (rowF n F i).getD j .nil = bigD (F i j) := by simp [rowF, List.getD_eq_getElem?_getD, h]
theorem rowF_congr {n : Nat} {F G : Nat → Nat → Int} {i : Nat} (h : ∀ j, j < n → F i j = G i j) : rowF n F i = rowF n G i := by
  apply List.map_congr_left
  intro j hj
  rw [h j (List.mem_range.1 hj)]
theorem matF_congr {n : Nat} {F G : Nat → Nat → Int} (h : ∀ i j, i < n → j < n → F i j = G i j) : matF n F = matF n G := by
  apply List.map_congr_left
  intro i hi
  rw [rowF_congr fun j hj => h i j (List.mem_range.1 hi) hj]
theorem rowF_set {n : Nat} {F G : Nat → Nat → Int} {i j : Nat} {x : Int} (hj : G i j = x) (h : ∀ b, b < n → b ≠ j → F i b = G i b) : (rowF n F i).set j (bigD x) = rowF n G i := by
  apply List.ext_getElem
  · simp [rowF]
  · intro b h1 h2
    have hb : b < n := by simpa [rowF] using h2
    simp only [rowF, List.getElem_set, List.getElem_map, List.getElem_range]
    split
    · rename_i e; subst e; rw [hj]
    · rename_i e; rw [h b hb (fun e' => e e'.symm)]
theorem matF_set {n : Nat} {F G : Nat → Nat → Int} {i : Nat} (h : ∀ a b, a < n → b < n → a ≠ i → F a b = G a b) : (matF n F).set i (.list (rowF n G i)) = matF n G := by
  apply List.ext_getElem
  · simp [matF]
  · intro a h1 h2
    have ha : a < n := by simpa [matF] using h2
    simp only [matF, List.getElem_set, List.getElem_map, List.getElem_range]
    split
    · rename_i e; subst e; rfl
    · rename_i e
      rw [rowF_congr fun b hb => h a b ha hb (fun e' => e e'.symm)]
theorem matF_nokey {n : Nat} (F : Nat → Nat → Int) (j K : Nat) : (matF n F).getD j .nil ≠ .key K := by
  refine lists_nokey (fun x hx => ?_) j K
  simp only [matF, List.mem_map] at hx
  obtain ⟨i, _, rfl⟩ := hx
  exact ⟨_, rfl⟩
theorem set_same {E : List D} {i : Nat} {x : D} (h : E.getD i .nil = x) (hi : i < E.length) : E.set i x = E := by
  apply List.ext_getElem
  · simp
  · intro a h1 h2
    rw [List.getElem_set]
    split
    · rename_i e
      subst e
      rw [← h]; simp [List.getD_eq_getElem?_getD, hi]
    · rfl

def partF (H : Nat → Nat → Int) (k : Nat) (last : Int) (i j : Nat) : Nat → Nat → Int := fun a b => if a < i ∨ (a = i ∧ b < j) then stepF H k last a b else H a b
theorem stepF_low {H : Nat → Nat → Int} {k : Nat} {last : Int} {a b : Nat} (h : a ≤ k ∨ b ≤ k) : stepF H k last a b = H a b := by unfold stepF; rw [if_neg (by omega)]
theorem partF_low {H : Nat → Nat → Int} {k : Nat} {last : Int} {i j a b : Nat} (h : a ≤ k ∨ b ≤ k) : partF H k last i j a b = H a b := by
  unfold partF; split
  · exact stepF_low h
  · rfl
theorem partF_later {H : Nat → Nat → Int} {k : Nat} {last : Int} {i j a b : Nat} (h1 : i ≤ a) (h2 : a = i → j ≤ b) : partF H k last i j a b = H a b := by
  unfold partF; rw [if_neg (by omega)]
theorem partF_early {H : Nat → Nat → Int} {k : Nat} {last : Int} {i j a b : Nat} (h : a < i ∨ (a = i ∧ b < j)) : partF H k last i j a b = stepF H k last a b := by
  unfold partF; rw [if_pos h]
theorem partF_set (n : Nat) (H : Nat → Nat → Int) (k : Nat) (last : Int) (i j : Nat) : (rowF n (partF H k last i j) i).set j (bigD (stepF H k last i j)) = rowF n (partF H k last i (j + 1)) i := by
  refine rowF_set (partF_early (.inr ⟨rfl, by omega⟩)) fun b hb hne => ?_
  rcases Nat.lt_or_ge b j with h | h
  · rw [partF_early (.inr ⟨rfl, h⟩), partF_early (.inr ⟨rfl, by omega⟩)]
  · rw [partF_later (Nat.le_refl _) (fun _ => h), partF_later (Nat.le_refl _) (fun _ => by omega)]
theorem two_rows {n : Nat} {G G' : Nat → Nat → Int} {k i : Nat} (h : ∀ a b, a < n → b < n → a ≠ i → a ≠ k → G a b = G' a b) (x1 x2 : D) :
    ((((matF n G).set k x1).set i x2).set i (.list (rowF n G' i))).set k (.list (rowF n G' k)) = matF n G' := by
  apply List.ext_getElem
  · simp [matF]
  · intro a h1 h2
    have ha : a < n := by simpa [matF] using h2
    simp only [matF, List.getElem_set, List.getElem_map, List.getElem_range]
    split
    · rename_i e; subst e; rfl
    · rename_i e
      split
      · rename_i e2; subst e2; rfl
      · rename_i e2
        rw [rowF_congr fun b hb => h a b ha hb (fun e' => e2 e'.symm) (fun e' => e e'.symm)]
theorem one_row {n : Nat} {G G' : Nat → Nat → Int} {k : Nat} (h : ∀ a b, a < n → b < n → G a b = G' a b) (x1 : D) :
    ((matF n G).set k x1).set k (.list (rowF n G' k)) = matF n G' := by
  rw [List.set_set]
  exact matF_set fun a b ha hb _ => h a b ha hb
theorem swap_rows {n : Nat} (G : Nat → Nat → Int) (q k : Nat) (x1 x2 x3 x4 : D) :
    (((((((matF n G).set q x1).set k x2).set q x3).set k x4).set q (.list (rowF n G k))).set k (.list (rowF n G q))) = matF n (swapF G q k) := by
  apply List.ext_getElem
  · simp [matF]
  · intro a h1 h2
    have ha : a < n := by simpa [matF] using h2
    simp only [matF, List.getElem_set, List.getElem_map, List.getElem_range]
    split
    · rename_i e; subst e
      congr 1
      simp only [rowF, swapF]
      apply List.map_congr_left
      intro b hb
      by_cases e : k = q
      · subst e; simp
      · simp [e]
    · rename_i e
      split
      · rename_i e2; subst e2
        congr 1
        simp only [rowF, swapF]
        apply List.map_congr_left
        intro b hb
        simp
      · rename_i e2
        congr 1
        simp only [rowF, swapF]
        apply List.map_congr_left
        intro b hb
        rw [if_neg (fun e' => e2 e'.symm), if_neg (fun e' => e e'.symm)]
theorem pivGo_ne (F : Nat → Nat → Int) (k n : Nat) : ∀ f p, n - p ≤ f → pivGo F k n f p < n → F (pivGo F k n f p) k ≠ 0
  | 0, p, h, hl => by simp only [pivGo] at hl; omega
  | f + 1, p, h, hl => by
    unfold pivGo at hl ⊢
    split
    · rename_i hc
      rw [if_pos hc] at hl
      exact pivGo_ne F k n f (p + 1) (by omega) hl
    · rename_i hc
      rw [if_neg hc] at hl
      exact fun e => hc ⟨hl, e⟩
theorem piv_ne {F : Nat → Nat → Int} {k n : Nat} (h : piv F k n < n) : F (piv F k n) k ≠ 0 := pivGo_ne F k n _ k (Nat.le_refl _) h
theorem pivotF_kk (F : Nat → Nat → Int) (q k : Nat) : pivotF F q k k k = F q k := by
  unfold pivotF
  split
  · rename_i e; rw [e]
  · rename_i e; simp only [swapF]; rw [if_neg (fun h => e h.symm)]; simp
theorem pivotF_sz {F : Nat → Nat → Int} {q k n s : Nat} (hq : q < n) (hk : k < n) (h : ∀ i j, i < n → j < n → Sz s (F i j)) : ∀ i j, i < n → j < n → Sz s (pivotF F q k i j) := by
  intro i j hi hj
  unfold pivotF
  split
  · exact h i j hi hj
  · simp only [swapF]; split
    · exact h k j hk hj
    · split
      · exact h q j hq hj
      · exact h i j hi hj
theorem ediv_abs (x y : Int) : (x / y).natAbs ≤ x.natAbs := Int.natAbs_ediv_le_natAbs x y
theorem stepF_sz {H : Nat → Nat → Int} {k n s : Nat} {last : Int} (hk : k < n) (h : ∀ i j, i < n → j < n → Sz s (H i j)) : ∀ i j, i < n → j < n → Sz (2 * s + 1) (stepF H k last i j) := by
  intro i j hi hj
  unfold stepF
  split
  · refine Sz.of_le ?_ (ediv_abs _ _)
    have := ((h k k hk hk).mul (h i j hi hj)).sub ((h i k hi hk).mul (h k j hk hj))
    exact this.mono (by omega)
  · exact (h i j hi hj).mono (by omega)

theorem copyRow (els ys : List D) (h : els.length = ys.length) : laid els 0 (min ys.length els.length) ys = ys := laid_all ys els h

set_option maxHeartbeats 4000000 in
theorem determinant_ok (n : Nat) (F : Nat → Nat → Int) (h1 : 1 ≤ n) (h2 : n ≤ 16) (s : Nat) (hs : (s + 1) * 2 ^ n ≤ 60000000000) (hF : ∀ i j, i < n → j < n → Sz s (F i j)) :
    Ok Tryz.prog tab 205 [.imm 124 false (matF n F)] [] (.v (.agg 41 (bigD (det n F)))) [] := by
  have hone := small_one
  obtain ⟨bo, lo, eo⟩ := bigD_ex 1
  rw [eo] at hone
  obtain ⟨R, hR⟩ : ∃ R, bigD (det n F) = R := ⟨_, rfl⟩
  obtain ⟨A, hA⟩ : ∃ A, matF n F = A := ⟨_, rfl⟩
  have lA : A.length = n := by rw [← hA, matF_length]
  have gA : ∀ i, i < n → A.getD i .nil = .list (rowF n F i) := fun i hi => by rw [← hA]; exact matF_get F hi
  rw [hR, hA]
  refine Ok.go progOK [(16, .mem 16 2), (30, .key 25), (50, .key 900), (73, .key 901), (77, .key 900), (99, .key 901), (106, .key 900), (114, .key 900), (121, .key 901), (131, .key 900), (143, .key 901)] [] 400 Tryz.func205 rfl rfl rfl fun J hJX L Z hL hZ => ?_
  conv => cbv
  subst hL hZ
  dsimp only [std, deep]
  obtain ⟨ni, hni⟩ : ∃ r : Int, (A.length : Int) = r := ⟨_, rfl⟩
  rw [hni, show ni.toNat = n by omega]
  simp only [List.length_replicate]
  refine ⟨trivial, by omega, by omega, by omega, ?_⟩
  refine Means.begin2 (α := Nat) (β := Unit) (fun i => [(2, boxed 41 (.agg [.bool false, .list []])), (16, rows2 124 (A.take i ++ List.replicate (n - i) (.list [])) [])])
    (fun i => [(0, .imm 124 false A), (2, .addr 2 0 0 [] 41), (3, .int .i64 ni), (4, .top 16 0), (18, .int .i64 ni), (19, .int .i64 i)]) (fun i => i ≤ n) (fun i => n - i) 0
    (fun _ => [(2, boxed 41 (.agg [.bool false, .list []])), (16, rows2 124 A [])]) (fun _ => [(2, .addr 2 0 0 [] 41), (3, .int .i64 ni), (4, .top 16 0)]) (fun _ => True)
    rfl rfl rfl ⟨rfl, rfl, rfl, (by omega), rfl, trivial⟩ ⟨rfl, rfl, trivial⟩ (Nat.zero_le _) ?_ ?_
  · intro i hi ih post
    obtain ⟨E, hE⟩ : ∃ E, A.take i ++ List.replicate (n - i) (.list []) = E := ⟨_, rfl⟩
    have lE : E.length = n := by rw [← hE]; simp; omega
    obtain ⟨ii, hii⟩ : ∃ r : Int, (i : Int) = r := ⟨_, rfl⟩
    rw [hE, hii]
    refine Means.go progOK hJX [.both, .halt] 400 fun L Z hL hZ => ?_
    conv => cbv
    subst hL hZ
    dsimp only [std, deep]
    refine ⟨fun h => ?_, fun h => ?_⟩ <;> simp only [decide_eq_true_eq, decide_eq_false_iff_not] at h
    · have eA : (A.getD ii.toNat .nil).els = rowF n F i := by rw [show ii.toNat = i by omega, gA i (by omega)]; rfl
      have nk : ∀ j K, E.getD j .nil ≠ .key K := by
        rw [← hE]
        refine lists_nokey fun x hx => ?_
        rcases List.mem_append.1 hx with h | h
        · have := List.mem_of_mem_take h
          rw [← hA, matF, List.mem_map] at this
          obtain ⟨r, _, rfl⟩ := this
          exact ⟨_, rfl⟩
        · rw [List.mem_replicate] at h; exact ⟨_, h.2⟩
      rw [eA, show ii.toNat = i by omega, show ni.toNat = n by omega]
      rw [copyRow _ _ (by simp [rowF_length])]
      refine ⟨trivial, by omega, by omega, by omega, by omega, by omega, trivial, by omega, by rw [List.length_set]; omega, by rw [getD_set_self _ _ _ (by omega)]; rfl, by omega, by omega, ?_⟩
      refine Means.fold hJX 16 i 25 rfl rfl rfl rfl (by show i < (E.set i _).length; rw [List.length_set]; omega) (by show (E.set i _).getD i .nil = _; rw [getD_set_self _ _ _ (by omega)]; rfl) (fun j' q1 q2 => ?_) ?_
      · show (E.set i _).getD j' .nil ≠ _
        rw [getD_set_other _ _ _ _ q2]; exact nk j' 25
      · refine (ih (i + 1) (by omega) (by omega)).to rfl rfl rfl ⟨rfl, rfl, rfl, rfl, (by rw [wrap64 _ (by omega) (by omega)]; omega), trivial⟩ ⟨rfl, ?_, trivial⟩
        show (E.set i _).set i (.list (rowF n F i)) = _
        rw [List.set_set, ← hE, set_fill' _ _ _ _ _ (by simp; omega) (by omega), List.take_succ_eq_append_getElem (by omega)]
        have := gA i (by omega)
        rw [List.getD_eq_getElem?_getD, List.getElem?_eq_getElem (by omega)] at this
        simp only [Option.getD_some] at this
        rw [this]
        rfl
    · have : i = n := by omega
      refine (post () trivial).to rfl rfl rfl ⟨rfl, rfl, trivial⟩ ⟨rfl, ?_, trivial⟩
      show E = A
      rw [← hE, this, Nat.sub_self, List.replicate_zero, List.append_nil, List.take_of_length_le (by omega)]
  · intro _ _
    refine Means.go progOK hJX [.call (.v (.agg 41 (.agg [.bool bo, .list lo]))) [] []] 400 fun L Z hL hZ => ?_
    conv => cbv
    subst hL hZ
    dsimp only [std, deep]
    refine ⟨hone, trivial, ?_⟩
    refine Means.begin (α := Nat × (Nat → Nat → Int) × Bool × Int) (fun s => [(2, boxed 41 (.agg [.bool false, .list []])), (16, rows2 124 (matF n s.2.1) []), (7, boxed 41 (bigD s.2.2.2))])
      (fun s => [(2, .addr 2 0 0 [] 41), (3, .int .i64 ni), (4, .top 16 0), (6, .bool s.2.2.1), (7, .addr 7 0 0 [] 41), (38, .int .i64 ni), (39, .int .i64 s.1)])
      (fun x => x.1 ≤ n ∧ detGo n (n - x.1) x.1 x.2.1 x.2.2.1 x.2.2.2 = det n F ∧ x.2.2.2 ≠ 0 ∧ ∃ s, (s + 1) * 2 ^ (n - x.1) ≤ 60000000000 ∧ Sz (s + 1) x.2.2.2 ∧ ∀ i j, i < n → j < n → Sz s (x.2.1 i j)) (fun s => n - s.1) (0, F, false, 1) rfl rfl rfl
      ⟨rfl, rfl, rfl, rfl, rfl, rfl, trivial⟩ ⟨rfl, hA.symm, by rw [eo]; rfl, trivial⟩ ⟨Nat.zero_le _, rfl, show (1 : Int) ≠ 0 by decide, s, hs, sz_one (by omega), hF⟩ ?_
    clear hs hF gA
    rintro ⟨k, G, odd, last⟩ ⟨hk, hdet, hl0, s, hs, hsl, hG⟩ ih
    dsimp only at hk hdet hl0 hs hsl hG ih ⊢
    obtain ⟨ki, hki⟩ : ∃ r : Int, (k : Int) = r := ⟨_, rfl⟩
    obtain ⟨bl, ll, el⟩ := bigD_ex last
    obtain ⟨EG, hEG⟩ : ∃ E, matF n G = E := ⟨_, rfl⟩
    have lEG : EG.length = n := by rw [← hEG, matF_length]
    have hs0 : s + 1 ≤ 60000000000 := Nat.le_trans (Nat.le_mul_of_pos_right _ (Nat.pow_pos (by decide))) hs
    have hn1 := neg_ok last (hsl.mono (by omega))
    have hn2 := normalize_ok last (hsl.mono (show s + 1 ≤ 274877906944 by omega))
    have hfin : k = n → bigD (if odd then -last else last) = R := by
      rintro rfl
      rw [Nat.sub_self] at hdet
      rw [← hR, ← hdet]; rfl
    rw [hki, el, hEG]
    refine Means.go progOK hJX [.fork [] [.fork [.call (.v (.agg 41 R)) [] []] [.call (.v (.agg 41 R)) [] []]]] 400 fun L Z hL hZ => ?_
    conv => cbv
    subst hL hZ
    dsimp only [std, deep]
    refine ⟨fun h => ?_, fun h => ?_⟩ <;> simp only [decide_eq_true_eq, decide_eq_false_iff_not] at h
    · obtain ⟨f, hf⟩ : ∃ f, n - k = f + 1 := ⟨n - k - 1, by omega⟩
      have hpl := piv_le G hk
      rw [hf] at hdet
      refine Means.begin2 (α := Nat) (β := Unit) (fun _ => [(2, boxed 41 (.agg [.bool false, .list []])), (16, rows2 124 EG []), (7, boxed 41 (.agg [.bool bl, .list ll]))])
        (fun p => [(2, .addr 2 0 0 [] 41), (3, .int .i64 ni), (4, .top 16 0), (6, .bool odd), (7, .addr 7 0 0 [] 41), (8, .int .i64 ki), (9, .int .i64 p), (38, .int .i64 ni), (39, .int .i64 ki)])
        (fun p => k ≤ p ∧ p ≤ n ∧ pivGo G k n (n - p) p = piv G k n) (fun p => n - p) k
        (fun _ => [(2, boxed 41 (.agg [.bool false, .list []])), (16, rows2 124 EG []), (7, boxed 41 (.agg [.bool bl, .list ll]))])
        (fun _ => [(2, .addr 2 0 0 [] 41), (3, .int .i64 ni), (4, .top 16 0), (6, .bool odd), (7, .addr 7 0 0 [] 41), (8, .int .i64 ki), (9, .int .i64 (piv G k n : Nat)), (38, .int .i64 ni), (39, .int .i64 ki)]) (fun _ => True)
        rfl rfl rfl ⟨rfl, rfl, rfl, rfl, rfl, hki.symm, rfl, rfl, trivial⟩ ⟨rfl, rfl, rfl, trivial⟩ ⟨Nat.le_refl _, hk, rfl⟩ ?_ ?_
      · rintro p ⟨hkp, hpn, hp⟩ ih2 post
        obtain ⟨pi, hpi⟩ : ∃ r : Int, (p : Int) = r := ⟨_, rfl⟩
        rw [hpi]
        rcases Nat.lt_or_ge p n with hlt | hge
        · have hsg := sign_ok (G p k) ((hG p k hlt (by omega)).mono (by omega))
          obtain ⟨sg', hsg'⟩ : ∃ s, (G p k).sign = s := ⟨_, rfl⟩
          obtain ⟨bz, lz, ez⟩ := bigD_ex (G p k)
          rw [hsg', ez] at hsg
          have hpu : pivGo G k n (n - p) p = if G p k = 0 then pivGo G k n (n - (p + 1)) (p + 1) else p := by
            obtain ⟨g, hg⟩ : ∃ g, n - p = g + 1 := ⟨n - p - 1, by omega⟩
            rw [hg, pivGo, show n - (p + 1) = g by omega]
            by_cases hz : G p k = 0
            · rw [if_pos ⟨hlt, hz⟩, if_pos hz]
            · rw [if_neg (fun h => hz h.2), if_neg hz]
          have gEp : EG.getD p .nil = .list (rowF n G p) := by rw [← hEG]; exact matF_get G hlt
          have nkE : ∀ j K, EG.getD j .nil ≠ .key K := by rw [← hEG]; exact matF_nokey G
          refine Means.unfold hJX 16 p 900 41 rfl rfl rfl rfl (by show p < EG.length; omega) (fun K => nkE p K) ?_
          refine Means.weak (rl' := [(2, boxed 41 (.agg [.bool false, .list []])), (16, rows2 124 (EG.set p (.key 900)) [900]), (7, boxed 41 (.agg [.bool bl, .list ll])), (900, heldRow 41 (rowF n G p))])
            (sl' := [(2, .addr 2 0 0 [] 41), (3, .int .i64 ni), (4, .top 16 0), (6, .bool odd), (7, .addr 7 0 0 [] 41), (8, .int .i64 ki), (9, .int .i64 pi), (38, .int .i64 ni), (39, .int .i64 ki)]) rfl rfl rfl
            ⟨rfl, rfl, rfl, rfl, rfl, rfl, rfl, rfl, trivial⟩ ⟨rfl, rfl, rfl, by show (EG.getD p .nil).els = _; rw [gEp]; rfl, trivial⟩ ?_
          obtain ⟨E9, hE9⟩ : ∃ E, EG.set p (.key 900) = E := ⟨_, rfl⟩
          obtain ⟨rp, hrp⟩ : ∃ E, rowF n G p = E := ⟨_, rfl⟩
          rw [hE9, hrp]
          refine Means.go progOK hJX [.call (.v (.int .i64 sg')) [] [], .both, .halt] 400 fun L Z hL hZ => ?_
          conv => cbv
          subst hL hZ
          dsimp only [std, deep]
          have gk : rp.getD ki.toNat .nil = .agg [.bool bz, .list lz] := by rw [← hrp, show ki.toNat = k by omega, rowF_get G p (by omega), ez]
          have lrp : rp.length = n := by rw [← hrp, rowF_length]
          have lE9 : E9.length = n := by rw [← hE9, List.length_set, lEG]
          have g9 : E9.getD p .nil = .key 900 := by rw [← hE9]; exact getD_set_self _ _ _ (by omega)
          have f9 : E9.set p (.list rp) = EG := by rw [← hE9, List.set_set, ← hrp]; exact set_same gEp (by omega)
          have n9 : ∀ j, j < E9.length → j ≠ p → E9.getD j .nil ≠ .key 900 := by
            intro j' q1 q2
            rw [← hE9, getD_set_other _ _ _ _ q2]; exact nkE j' 900
          have hs0' : sg' = 0 ↔ G p k = 0 := by rw [← hsg']; exact Int.sign_eq_zero_iff_zero
          rw [gk]
          refine ⟨fun _ => ⟨by omega, by omega, by rw [show pi.toNat = p by omega, g9]; rfl, by omega, by omega, hsg, fun hz => ?_, fun hz => ?_⟩, fun h' => by simp only [decide_eq_false_iff_not] at h'; omega⟩ <;> simp only [beq_iff_eq, beq_eq_false_iff_ne, ne_eq] at hz
          · refine Means.fold hJX 16 p 900 rfl rfl rfl rfl (by show p < E9.length; omega) g9 n9 ?_
            refine (ih2 (p + 1) ⟨by omega, by omega, by rw [hpu, if_pos (hs0'.1 hz)] at hp; exact hp⟩ (by omega)).to rfl rfl rfl ⟨rfl, rfl, rfl, rfl, rfl, (by rw [wrap64 _ (by omega) (by omega)]; omega), rfl, rfl, trivial⟩ ⟨rfl, ?_, rfl, trivial⟩
            exact f9
          · refine Means.fold hJX 16 p 900 rfl rfl rfl rfl (by show p < E9.length; omega) g9 n9 ?_
            refine (post () trivial).to rfl rfl rfl ⟨rfl, rfl, rfl, rfl, rfl, ?_, rfl, rfl, trivial⟩ ⟨rfl, ?_, rfl, trivial⟩
            · rw [hpu, if_neg (fun h' => hz (hs0'.2 h'))] at hp
              rw [← hp, ← hpi]
            · exact f9
        · have hpn' : p = n := by omega
          refine Means.go progOK hJX [.both, .halt] 400 fun L Z hL hZ => ?_
          conv => cbv
          subst hL hZ
          dsimp only [std, deep]
          have hpf : ¬ (pi < ni) := by omega
          refine ⟨fun h' => by simp only [decide_eq_true_eq] at h'; omega, ?_⟩
          refine fun _ => ⟨fun h' => by simp at h', fun _ => ?_⟩
          have hp2 : n = piv G k n := by rw [hpn', Nat.sub_self] at hp; exact hp
          refine (post () trivial).to rfl rfl rfl ⟨rfl, rfl, rfl, rfl, rfl, ?_, rfl, rfl, trivial⟩ ⟨rfl, rfl, rfl, trivial⟩
          rw [← hp2]; omega
      · intro _ _
        obtain ⟨q, hq⟩ : ∃ q, piv G k n = q := ⟨_, rfl⟩
        obtain ⟨qi, hqi⟩ : ∃ r : Int, (q : Int) = r := ⟨_, rfl⟩
        rw [hq] at hpl
        rw [hq, hqi]
        rw [detGo, hq] at hdet
        rcases Nat.lt_or_ge q n with hlt | hge
        · rw [if_neg (by omega)] at hdet
          refine Means.go progOK hJX [.tk false] 400 fun L Z hL hZ => ?_
          conv => cbv
          subst hL hZ
          dsimp only [std, deep]
          refine ⟨by simp; omega, ?_⟩
          have gkE : ∀ a, a < n → EG.getD a .nil = .list (rowF n G a) := fun a ha => by rw [← hEG]; exact matF_get G ha
          have nkE : ∀ j K, EG.getD j .nil ≠ .key K := by rw [← hEG]; exact matF_nokey G
          refine Means.ite (qi != ki) [(2, boxed 41 (.agg [.bool false, .list []])), (16, rows2 124 (matF n (pivotF G q k)) []), (7, boxed 41 (.agg [.bool bl, .list ll]))]
            [(2, .addr 2 0 0 [] 41), (3, .int .i64 ni), (4, .top 16 0), (6, .bool (if q = k then odd else !odd)), (7, .addr 7 0 0 [] 41), (8, .int .i64 ki), (38, .int .i64 ni), (39, .int .i64 ki)] rfl ?_ ?_ ?_
          · intro hne jn
            have hqk : q ≠ k := by simp only [bne_iff_ne, ne_eq] at hne; omega
            refine Means.unfold hJX 16 q 900 41 rfl rfl rfl rfl (by show q < EG.length; omega) (fun K => nkE q K) ?_
            refine Means.unfold hJX 16 k 901 41 rfl rfl rfl rfl (by show k < (EG.set q _).length; rw [List.length_set]; omega) (fun K => by show (EG.set q _).getD k .nil ≠ _; rw [getD_set_other _ _ _ _ (fun e => hqk e.symm)]; exact nkE k K) ?_
            refine Means.weak (rl' := [(2, boxed 41 (.agg [.bool false, .list []])), (16, rows2 124 ((EG.set q (.key 900)).set k (.key 901)) [901, 900]), (7, boxed 41 (.agg [.bool bl, .list ll])), (900, heldRow 41 (rowF n G q)), (901, heldRow 41 (rowF n G k))])
              (sl' := [(2, .addr 2 0 0 [] 41), (3, .int .i64 ni), (4, .top 16 0), (6, .bool odd), (7, .addr 7 0 0 [] 41), (8, .int .i64 ki), (9, .int .i64 qi), (38, .int .i64 ni), (39, .int .i64 ki)]) rfl rfl rfl
              ⟨rfl, rfl, rfl, rfl, rfl, rfl, rfl, rfl, trivial⟩ ⟨rfl, rfl, rfl, by show (EG.getD q .nil).els = _; rw [gkE q hlt]; rfl, by show ((EG.set q _).getD k .nil).els = _; rw [getD_set_other _ _ _ _ (fun e => hqk e.symm), gkE k (by omega)]; rfl, trivial⟩ ?_
            obtain ⟨E9, hE9⟩ : ∃ E, (EG.set q (.key 900)).set k (.key 901) = E := ⟨_, rfl⟩
            obtain ⟨rq, hrq⟩ : ∃ E, rowF n G q = E := ⟨_, rfl⟩
            obtain ⟨rk, hrk⟩ : ∃ E, rowF n G k = E := ⟨_, rfl⟩
            rw [hE9, hrq, hrk]
            refine Means.go progOK hJX [.upto 6] 400 fun L Z hL hZ => ?_
            conv => cbv
            subst hL hZ
            dsimp only [std, deep]
            have lE9 : E9.length = n := by rw [← hE9, List.length_set, List.length_set, lEG]
            have g9k : E9.getD k .nil = .key 901 := by rw [← hE9]; exact getD_set_self _ _ _ (by rw [List.length_set]; omega)
            have g9q : E9.getD q .nil = .key 900 := by rw [← hE9, getD_set_other _ _ _ _ hqk]; exact getD_set_self _ _ _ (by omega)
            refine ⟨by omega, by omega, by rw [show ki.toNat = k by omega, g9k]; rfl, by omega, by omega, by rw [show qi.toNat = q by omega, g9q]; rfl, by omega, by omega, trivial, by omega, by rw [List.length_set]; omega, trivial, ?_⟩
            rw [show ki.toNat = k by omega, show qi.toNat = q by omega]
            obtain ⟨E2, hE2⟩ : ∃ E, (E9.set q ((E9.getD q D.nil).put [] (D.key 901))).set k (((E9.set q ((E9.getD q D.nil).put [] (D.key 901))).getD k D.nil).put [] (D.key 900)) = E := ⟨_, rfl⟩
            have hE2' : (E9.set q (.key 901)).set k (.key 900) = E2 := hE2
            rw [hE2]
            have lE2 : E2.length = n := by rw [← hE2', List.length_set, List.length_set, lE9]
            have g2k : E2.getD k .nil = .key 900 := by rw [← hE2']; exact getD_set_self _ _ _ (by rw [List.length_set]; omega)
            have g2q : E2.getD q .nil = .key 901 := by rw [← hE2', getD_set_other _ _ _ _ hqk]; exact getD_set_self _ _ _ (by omega)
            have g2o : ∀ j K, j ≠ k → j ≠ q → E2.getD j .nil ≠ .key K := by
              intro j K n1 n2
              rw [← hE2', getD_set_other _ _ _ _ n1, getD_set_other _ _ _ _ n2, ← hE9, getD_set_other _ _ _ _ n1, getD_set_other _ _ _ _ n2]
              exact nkE j K
            refine Means.fold hJX 16 q 901 rfl rfl rfl rfl (by show q < E2.length; omega) g2q (fun j q1 q2 => ?_) ?_
            · show E2.getD j .nil ≠ _
              by_cases e : j = k
              · rw [e, g2k]; simp
              · exact g2o j 901 e q2
            refine Means.fold hJX 16 k 900 rfl rfl rfl rfl (by show k < (E2.set q _).length; rw [List.length_set]; omega) (by show (E2.set q _).getD k .nil = _; rw [getD_set_other _ _ _ _ (fun e => hqk e.symm), g2k]) (fun j q1 q2 => ?_) ?_
            · show (E2.set q _).getD j .nil ≠ _
              by_cases e : j = q
              · subst e; rw [getD_set_self _ _ _ (by omega)]; simp
              · rw [getD_set_other _ _ _ _ e]; exact g2o j 900 q2 e
            refine jn.to rfl rfl rfl ⟨rfl, rfl, by rw [if_neg hqk], rfl, rfl, rfl, rfl, trivial⟩ ⟨rfl, ?_, rfl, trivial⟩
            show (E2.set q (.list rk)).set k (.list rq) = matF n (pivotF G q k)
            unfold pivotF
            rw [if_neg hqk, ← hE2', ← hE9, ← hEG, ← hrq, ← hrk]
            exact swap_rows G q k _ _ _ _
          · intro hne jn
            have hqk : q = k := by simp only [bne_eq_false_iff_eq] at hne; omega
            refine Means.weak (rl' := [(2, boxed 41 (.agg [.bool false, .list []])), (16, rows2 124 EG []), (7, boxed 41 (.agg [.bool bl, .list ll]))])
              (sl' := [(2, .addr 2 0 0 [] 41), (3, .int .i64 ni), (4, .top 16 0), (6, .bool odd), (7, .addr 7 0 0 [] 41), (8, .int .i64 ki), (9, .int .i64 qi), (38, .int .i64 ni), (39, .int .i64 ki)]) rfl rfl rfl
              ⟨rfl, rfl, rfl, rfl, rfl, rfl, rfl, rfl, trivial⟩ ⟨rfl, rfl, rfl, trivial⟩ ?_
            refine Means.go progOK hJX [.upto 6] 400 fun L Z hL hZ => ?_
            conv => cbv
            subst hL hZ
            dsimp only [std, deep]
            refine jn.to rfl rfl rfl ⟨rfl, rfl, by rw [if_pos hqk], rfl, rfl, rfl, rfl, trivial⟩ ⟨rfl, ?_, rfl, trivial⟩
            show EG = matF n (pivotF G q k)
            unfold pivotF
            rw [if_pos hqk, ← hEG]
          · have hHs := pivotF_sz (q := q) hlt (show k < n by omega) hG
            have hHk : pivotF G q k k k ≠ 0 := by
              rw [pivotF_kk, ← hq]
              exact piv_ne (by rw [hq]; exact hlt)
            obtain ⟨H, hH⟩ : ∃ H, pivotF G q k = H := ⟨_, rfl⟩
            obtain ⟨od, hod⟩ : ∃ b, (if q = k then odd else !odd) = b := ⟨_, rfl⟩
            rw [hH] at hHs hHk hdet
            rw [hod] at hdet
            rw [hH, hod]
            have hSs := stepF_sz (last := last) (show k < n by omega) hHs
            obtain ⟨bk, lk, ek⟩ := bigD_ex (H k k)
            obtain ⟨EH, hEH⟩ : ∃ E, matF n H = E := ⟨_, rfl⟩
            rw [hEH]
            refine Means.go progOK hJX [] 400 fun L Z hL hZ => ?_
            conv => cbv
            subst hL hZ
            dsimp only [std, deep]
            refine Means.begin (α := Nat) (fun i => [(2, boxed 41 (.agg [.bool false, .list []])), (16, rows2 124 (matF n (partF H k last i 0)) []), (7, boxed 41 (.agg [.bool bl, .list ll]))])
              (fun i => [(2, .addr 2 0 0 [] 41), (3, .int .i64 ni), (4, .top 16 0), (6, .bool od), (7, .addr 7 0 0 [] 41), (8, .int .i64 ki), (10, .int .i64 i), (38, .int .i64 ni), (39, .int .i64 ki)])
              (fun i => k < i ∧ i ≤ n) (fun i => n - i) (k + 1) rfl rfl rfl
              ⟨rfl, rfl, rfl, rfl, rfl, (by rw [wrap64 _ (by omega) (by omega)]; omega), rfl, rfl, trivial⟩ ⟨rfl, ?_, rfl, trivial⟩ ⟨by omega, by omega⟩ ?_
            · show EH = matF n (partF H k last (k + 1) 0)
              rw [← hEH]
              refine matF_congr fun a b ha hb => ?_
              rcases Nat.lt_or_ge k a with h | h
              · rw [partF_later (by omega) (fun _ => Nat.zero_le _)]
              · rw [partF_low (.inl h)]
            rintro i ⟨hki', hin⟩ ih3
            obtain ⟨ii, hii⟩ : ∃ r : Int, (i : Int) = r := ⟨_, rfl⟩
            obtain ⟨Ei, hEi⟩ : ∃ E, matF n (partF H k last i 0) = E := ⟨_, rfl⟩
            have lEi : Ei.length = n := by rw [← hEi, matF_length]
            have gEi : ∀ a, a < n → Ei.getD a .nil = .list (rowF n (partF H k last i 0) a) := fun a ha => by rw [← hEi]; exact matF_get _ ha
            have nEi : ∀ j K, Ei.getD j .nil ≠ .key K := by rw [← hEi]; exact matF_nokey _
            have rowk : ∀ i j, rowF n (partF H k last i j) k = rowF n H k := fun i j => rowF_congr fun b hb => partF_low (.inl (Nat.le_refl _))
            have lrk : (rowF n H k).length = n := rowF_length _ _ _
            have grk : ∀ j, j < n → (rowF n H k).getD j .nil = bigD (H k j) := fun j hj => rowF_get H k hj
            rw [hii, hEi]
            rcases Nat.lt_or_ge i n with hlt2 | hge2
            · refine Means.go progOK hJX [.tk true] 400 fun L Z hL hZ => ?_
              conv => cbv
              subst hL hZ
              dsimp only [std, deep]
              refine ⟨by simp; omega, ?_⟩
              refine Means.unfold hJX 16 k 901 41 rfl rfl rfl rfl (by show k < Ei.length; omega) (fun K => nEi k K) ?_
              refine Means.unfold hJX 16 i 900 41 rfl rfl rfl rfl (by show i < (Ei.set k _).length; rw [List.length_set]; omega) (fun K => by show (Ei.set k _).getD i .nil ≠ _; rw [getD_set_other _ _ _ _ (by omega)]; exact nEi i K) ?_
              refine Means.begin (α := Nat) (fun j => [(2, boxed 41 (.agg [.bool false, .list []])), (16, rows2 124 ((Ei.set k (.key 901)).set i (.key 900)) [900, 901]), (7, boxed 41 (.agg [.bool bl, .list ll])), (900, heldRow 41 (rowF n (partF H k last i j) i)), (901, heldRow 41 (rowF n H k))])
                (fun j => [(2, .addr 2 0 0 [] 41), (3, .int .i64 ni), (4, .top 16 0), (6, .bool od), (7, .addr 7 0 0 [] 41), (8, .int .i64 ki), (10, .int .i64 ii), (11, .int .i64 j), (38, .int .i64 ni), (39, .int .i64 ki)])
                (fun j => k < j ∧ j ≤ n) (fun j => n - j) (k + 1) rfl rfl rfl
                ⟨rfl, rfl, rfl, rfl, rfl, rfl, (by rw [wrap64 _ (by omega) (by omega)]; omega), rfl, rfl, trivial⟩ ⟨rfl, rfl, rfl, ?_, ?_, trivial⟩ ⟨by omega, by omega⟩ ?_
              · show ((Ei.set k _).getD i .nil).els = rowF n (partF H k last i (k + 1)) i
                rw [getD_set_other _ _ _ _ (by omega), gEi i hlt2]
                refine rowF_congr fun b hb => ?_
                rcases Nat.lt_or_ge k b with h | h
                · rw [partF_later (Nat.le_refl _) (fun _ => Nat.zero_le _), partF_later (Nat.le_refl _) (fun _ => by omega)]
                · rw [partF_low (.inr h), partF_low (.inr h)]
              · show (Ei.getD k .nil).els = rowF n H k
                rw [gEi k (by omega), rowk]; rfl
              obtain ⟨E9, hE9⟩ : ∃ E, (Ei.set k (.key 901)).set i (.key 900) = E := ⟨_, rfl⟩
              have lE9 : E9.length = n := by rw [← hE9, List.length_set, List.length_set, lEi]
              have g9 : E9.getD i .nil = .key 900 := by rw [← hE9]; exact getD_set_self _ _ _ (by rw [List.length_set]; omega)
              have g91 : E9.getD k .nil = .key 901 := by rw [← hE9, getD_set_other _ _ _ _ (by omega)]; exact getD_set_self _ _ _ (by omega)
              have n9 : ∀ j, j < E9.length → j ≠ i → E9.getD j .nil ≠ .key 900 := by
                intro j q1 q2
                rw [← hE9, getD_set_other _ _ _ _ q2]
                by_cases e : j = k
                · subst e; rw [getD_set_self _ _ _ (by omega)]; simp
                · rw [getD_set_other _ _ _ _ e]; exact nEi j 900
              rw [hE9]
              rintro j ⟨hkj, hjn⟩ ih4
              obtain ⟨ji, hji⟩ : ∃ r : Int, (j : Int) = r := ⟨_, rfl⟩
              obtain ⟨rk, hrk⟩ : ∃ E, rowF n H k = E := ⟨_, rfl⟩
              obtain ⟨ri, hri⟩ : ∃ E, rowF n (partF H k last i j) i = E := ⟨_, rfl⟩
              have lri : ri.length = n := by rw [← hri, rowF_length]
              rw [hrk] at lrk grk
              rw [hji, hrk, hri]
              rcases Nat.lt_or_ge j n with hlt3 | hge3
              · have gi1 : ri.getD j .nil = bigD (H i j) := by rw [← hri, rowF_get _ _ hlt3, partF_later (Nat.le_refl _) (fun _ => Nat.le_refl _)]
                have gi2 : ri.getD k .nil = bigD (H i k) := by rw [← hri, rowF_get _ _ (by omega), partF_low (.inr (Nat.le_refl _))]
                have s1 := hHs k k (by omega) (by omega)
                have s2 := hHs i j hlt2 hlt3
                have s3 := hHs i k hlt2 (by omega)
                have s4 := hHs k j (by omega) hlt3
                have c1 := mul_ok _ _ (s1.mono (show s ≤ 274877906944 by omega)) (s2.mono (show s ≤ 274877906944 by omega))
                have c2 := mul_ok _ _ (s3.mono (show s ≤ 274877906944 by omega)) (s4.mono (show s ≤ 274877906944 by omega))
                have c3 := sub_ok _ _ ((s1.mul s2).mono (show s + s ≤ 274877906944 by omega)) ((s3.mul s4).mono (show s + s ≤ 274877906944 by omega))
                have c4 := divmod_ok _ last hl0 (((s1.mul s2).sub (s3.mul s4)).mono (show s + s + 1 ≤ 274877906944 by omega)) (hsl.mono (show s + 1 ≤ 274877906944 by omega))
                have hst : stepF H k last i j = (H k k * H i j - H i k * H k j) / last := by unfold stepF; rw [if_pos ⟨hki', hkj⟩]
                rw [← hst] at c4
                obtain ⟨b1, l1, e1⟩ := bigD_ex (H k k * H i j)
                obtain ⟨b2, l2, e2⟩ := bigD_ex (H i k * H k j)
                obtain ⟨b3, l3, e3⟩ := bigD_ex (H k k * H i j - H i k * H k j)
                obtain ⟨b4, l4, e4⟩ := bigD_ex (stepF H k last i j)
                obtain ⟨b5, l5, e5⟩ := bigD_ex ((H k k * H i j - H i k * H k j) % last)
                obtain ⟨b6, l6, e6⟩ := bigD_ex (H i j)
                obtain ⟨b7, l7, e7⟩ := bigD_ex (H i k)
                obtain ⟨b8, l8, e8⟩ := bigD_ex (H k j)
                have gkk := grk k (by omega)
                have gkj := grk j (by omega)
                rw [ek] at gkk
                rw [e8] at gkj
                rw [e6] at gi1
                rw [e7] at gi2
                rw [e1, ek, e6] at c1
                rw [e2, e7, e8] at c2
                rw [e1, e2, e3] at c3
                rw [e3, el, e4, e5] at c4
                refine Means.go2 progOK hJX [.tk true, .call (.v (.agg 41 (.agg [.bool b1, .list l1]))) [] [], .call (.v (.agg 41 (.agg [.bool b2, .list l2]))) [] [], .call (.v (.agg 41 (.agg [.bool b3, .list l3]))) [] []] 52 [.call (.tup [.v (.agg 41 (.agg [.bool b4, .list l4])), .v (.agg 41 (.agg [.bool b5, .list l5])), .v (.bool true)]) [] [], .before 95 .hid 12] 400 fun L Z hL hZ Y hY => ?_
                conv => cbv
                subst hY
                dsimp only
                conv => cbv
                subst hL hZ
                dsimp only [std, deep]
                rw [show ki.toNat = k by omega, show ii.toNat = i by omega, show ji.toNat = j by omega, gkk, gi1, gi2, gkj, g9, g91]
                refine ⟨by simp; omega, by omega, by omega, rfl, by omega, by omega, by omega, by omega, rfl, by omega, by omega, c1, by omega, by omega, rfl, by omega, by omega, by omega, by omega, rfl, by omega, by omega, c2, c3, trivial,
                  by omega, by omega, rfl, c4, by omega, by omega, trivial, ?_⟩
                refine (ih4 (j + 1) ⟨by omega, by omega⟩ (by omega)).to rfl rfl rfl ⟨rfl, rfl, rfl, rfl, rfl, rfl, (by rw [wrap64 _ (by omega) (by omega)]; omega), rfl, rfl, trivial⟩ ⟨rfl, rfl, rfl, ?_, hrk.symm, trivial⟩
                show ri.set j (.agg [.bool b4, .list l4]) = rowF n (partF H k last i (j + 1)) i
                rw [← e4, ← hri]
                exact partF_set n H k last i j
              · have hjn' : j = n := by omega
                refine Means.go progOK hJX [.tk false, .halt] 400 fun L Z hL hZ => ?_
                conv => cbv
                subst hL hZ
                dsimp only [std, deep]
                refine ⟨by simp; omega, ?_⟩
                refine Means.fold hJX 16 i 900 rfl rfl rfl rfl (by show i < E9.length; omega) g9 n9 ?_
                refine Means.fold hJX 16 k 901 rfl rfl rfl rfl (by show k < (E9.set i _).length; rw [List.length_set]; omega) (by show (E9.set i _).getD k .nil = _; rw [getD_set_other _ _ _ _ (by omega)]; exact g91) (fun j' q1 q2 => ?_) ?_
                · show (E9.set i _).getD j' .nil ≠ _
                  by_cases e : j' = i
                  · rw [e, getD_set_self _ _ _ (by omega)]; simp
                  · rw [getD_set_other _ _ _ _ e, ← hE9, getD_set_other _ _ _ _ e, getD_set_other _ _ _ _ q2]; exact nEi j' 901
                obtain ⟨En, hEn⟩ : ∃ E, matF n (partF H k last (i + 1) 0) = E := ⟨_, rfl⟩
                refine Means.weak (rl' := [(2, boxed 41 (.agg [.bool false, .list []])), (16, rows2 124 En []), (7, boxed 41 (.agg [.bool bl, .list ll]))])
                  (sl' := [(2, .addr 2 0 0 [] 41), (3, .int .i64 ni), (4, .top 16 0), (6, .bool od), (7, .addr 7 0 0 [] 41), (8, .int .i64 ki), (10, .int .i64 ii), (38, .int .i64 ni), (39, .int .i64 ki)]) rfl rfl rfl
                  ⟨rfl, rfl, rfl, rfl, rfl, rfl, rfl, rfl, trivial⟩ ⟨rfl, ?_, rfl, trivial⟩ ?_
                · show (E9.set i (.list ri)).set k (.list rk) = En
                  have e1 : ri = rowF n (partF H k last (i + 1) 0) i := by
                    rw [← hri]
                    refine rowF_congr fun b hb => ?_
                    rw [partF_early (.inr ⟨rfl, by omega⟩), partF_early (.inl (by omega))]
                  have e2 : rk = rowF n (partF H k last (i + 1) 0) k := by rw [rowk, hrk]
                  rw [← hE9, ← hEi, ← hEn, e1, e2]
                  refine two_rows (fun a b ha hb n1 n2 => ?_) _ _
                  rcases Nat.lt_or_ge a i with h | h
                  · rw [partF_early (.inl h), partF_early (.inl (by omega))]
                  · rw [partF_later (by omega) (fun _ => Nat.zero_le _), partF_later (by omega) (fun _ => Nat.zero_le _)]
                refine Means.go progOK hJX [] 400 fun L Z hL hZ => ?_
                conv => cbv
                subst hL hZ
                dsimp only [std, deep]
                exact (ih3 (i + 1) ⟨by omega, by omega⟩ (by omega)).to rfl rfl rfl ⟨rfl, rfl, rfl, rfl, rfl, (by rw [wrap64 _ (by omega) (by omega)]; omega), rfl, rfl, trivial⟩ ⟨rfl, hEn.symm, rfl, trivial⟩
            · have hin' : i = n := by omega
              refine Means.go progOK hJX [.tk false, .halt] 400 fun L Z hL hZ => ?_
              conv => cbv
              subst hL hZ
              dsimp only [std, deep]
              refine ⟨by simp; omega, ?_⟩
              refine Means.unfold hJX 16 k 901 41 rfl rfl rfl rfl (by show k < Ei.length; omega) (fun K => nEi k K) ?_
              refine Means.weak (rl' := [(2, boxed 41 (.agg [.bool false, .list []])), (16, rows2 124 (Ei.set k (.key 901)) [901]), (7, boxed 41 (.agg [.bool bl, .list ll])), (901, heldRow 41 (rowF n H k))])
                (sl' := [(2, .addr 2 0 0 [] 41), (3, .int .i64 ni), (4, .top 16 0), (6, .bool od), (7, .addr 7 0 0 [] 41), (8, .int .i64 ki), (38, .int .i64 ni), (39, .int .i64 ki)]) rfl rfl rfl
                ⟨rfl, rfl, rfl, rfl, rfl, rfl, rfl, trivial⟩ ⟨rfl, rfl, rfl, ?_, trivial⟩ ?_
              · show (Ei.getD k .nil).els = _
                rw [gEi k (by omega), rowk]; rfl
              obtain ⟨E9, hE9⟩ : ∃ E, Ei.set k (.key 901) = E := ⟨_, rfl⟩
              have lE9 : E9.length = n := by rw [← hE9, List.length_set, lEi]
              have g91 : E9.getD k .nil = .key 901 := by rw [← hE9]; exact getD_set_self _ _ _ (by omega)
              have n9 : ∀ j, j < E9.length → j ≠ k → E9.getD j .nil ≠ .key 901 := by
                intro j q1 q2
                rw [← hE9, getD_set_other _ _ _ _ q2]; exact nEi j 901
              obtain ⟨rk, hrk⟩ : ∃ E, rowF n H k = E := ⟨_, rfl⟩
              rw [hrk] at lrk grk
              rw [hE9, hrk]
              have gkk := grk k (by omega)
              rw [ek] at gkk
              refine Means.go progOK hJX [] 400 fun L Z hL hZ => ?_
              conv => cbv
              subst hL hZ
              dsimp only [std, deep]
              refine ⟨by omega, by omega, by rw [show ki.toNat = k by omega, g91]; rfl, by omega, by omega, trivial, ?_⟩
              rw [show ki.toNat = k by omega, gkk]
              refine Means.fold hJX 16 k 901 rfl rfl rfl rfl (by show k < E9.length; omega) g91 n9 ?_
              refine (ih ⟨k + 1, stepF H k last, od, H k k⟩ ⟨by dsimp only; omega, ?_, hHk, 2 * s + 1, ?_, (hHs k k (by omega) (by omega)).mono (by omega), hSs⟩ (by dsimp only; omega)).to rfl rfl rfl
                ⟨rfl, rfl, rfl, rfl, rfl, (by rw [wrap64 _ (by omega) (by omega)]; dsimp only; omega), trivial⟩ ⟨rfl, ?_, ?_, trivial⟩
              · dsimp only; rw [show n - (k + 1) = f by omega]; exact hdet
              · have hs2 := hs
                rw [hf, Nat.pow_succ] at hs2
                dsimp only
                rw [show n - (k + 1) = f by omega, show 2 * s + 1 + 1 = (s + 1) * 2 by omega, Nat.mul_assoc, Nat.mul_comm 2]
                exact hs2
              · show E9.set k (.list rk) = matF n (stepF H k last)
                have e2 : rowF n H k = rowF n (stepF H k last) k := rowF_congr fun b hb => (stepF_low (.inl (Nat.le_refl _))).symm
                rw [← hE9, ← hEi, ← hrk, e2]
                exact one_row (fun a b ha hb => partF_early (.inl (by omega))) _
              · show [D.agg [D.bool bk, D.list lk]] = [bigD (H k k)]
                rw [ek]
        · have hqn : q = n := by omega
          rw [if_pos hqn] at hdet
          refine Means.go progOK hJX [.tk true] 400 fun L Z hL hZ => ?_
          conv => cbv
          subst hL hZ
          dsimp only [std, deep]
          refine ⟨by simp; omega, trivial, ?_, trivial⟩
          rw [← hR, ← hdet, bigD_zero]
    · have hkn : k = n := by omega
      have := hfin hkn
      refine ⟨fun ho => ?_, fun ho => ?_⟩
      · rw [ho] at this
        rw [if_pos rfl] at this
        rw [this, el] at hn1
        exact ⟨hn1, trivial, trivial, trivial⟩
      · rw [ho] at this
        rw [if_neg (by decide)] at this
        rw [this, ← this, el] at hn2
        rw [← this, el]
        exact ⟨hn2, trivial, trivial, trivial⟩

end Go.VI

namespace Go.VI
open Go.Proofs
set_option maxRecDepth 20000

set_option maxHeartbeats 2000000 in
theorem build2 (rows cols : Nat) (hr : rows ≤ 1000) (hc : cols ≤ 1000) (d d2 d3 : D) (F : Nat → Nat → Int)
    (hf : ∀ i j, i < rows → j < cols → Ok Tryz.prog tab 242 [.int .i64 i, .int .i64 j, .iaddr 55 d, .iaddr 174 d2, .iaddr 174 d3] [] (.v (.agg 41 (bigD (F i j)))) []) :
    Ok Tryz.prog tab 195 [.int .i64 rows, .int .i64 cols, .fn 242 [.iaddr 55 d, .iaddr 174 d2, .iaddr 174 d3]] [] (.v (.imm 124 false (matD (tabM rows cols F)))) [] := by
  obtain ⟨R, hR⟩ : ∃ R, matD (tabM rows cols F) = R := ⟨_, rfl⟩
  obtain ⟨ri, hri⟩ : ∃ r : Int, (rows : Int) = r := ⟨_, rfl⟩
  obtain ⟨ci, hci⟩ : ∃ r : Int, (cols : Int) = r := ⟨_, rfl⟩
  rw [hR, hri, hci]
  refine Ok.go progOK [(11, .mem 11 2), (25, .key 20), (33, .key 20)] [] 400 Tryz.func195 rfl rfl rfl fun J hJX L Z hL hZ => ?_
  conv => cbv
  subst hL hZ
  dsimp only [std, deep]
  rw [show ri.toNat = rows by omega]
  simp only [List.length_replicate]
  refine ⟨trivial, by omega, by omega, by omega, ?_⟩
  refine Means.begin (α := Nat) (fun k => [(11, rows2 124 (matD (tabM k cols F) ++ List.replicate (rows - k) (.list [])) [])])
    (fun k => [(1, .int .i64 ci), (2, .fn 242 [.iaddr 55 d, .iaddr 174 d2, .iaddr 174 d3]), (7, .top 11 0), (13, .int .i64 ri), (14, .int .i64 k)]) (fun k => k ≤ rows) (fun k => rows - k) 0 rfl rfl rfl
    ⟨rfl, rfl, rfl, rfl, hri, rfl, trivial⟩ ⟨rfl, trivial⟩ (Nat.zero_le _) ?_
  intro k hk ih
  obtain ⟨E, hE⟩ : ∃ E, matD (tabM k cols F) ++ List.replicate (rows - k) (.list []) = E := ⟨_, rfl⟩
  have lE : E.length = rows := by rw [← hE]; simp [matD_length, tabM_length]; omega
  obtain ⟨ki, hki⟩ : ∃ r : Int, (k : Int) = r := ⟨_, rfl⟩
  rw [hE, hki]
  refine Means.go progOK hJX [.both] 400 fun L Z hL hZ => ?_
  conv => cbv
  subst hL hZ
  dsimp only [std, deep]
  refine ⟨fun h => ?_, fun h => ?_⟩ <;> simp only [decide_eq_true_eq, decide_eq_false_iff_not] at h
  · have ek : E.set ki.toNat ((E.getD ki.toNat D.nil).put [] (D.key 20)) = E.set k (.key 20) := by rw [show ki.toNat = k by omega]; rfl
    rw [ek, show ki.toNat = k by omega, show ci.toNat = cols by omega]
    have nk : ∀ j K, E.getD j .nil ≠ .key K := by rw [← hE]; exact lists_nokey (matD_lists _ _)
    refine ⟨trivial, by omega, by omega, by omega, by omega, by omega, trivial, by omega, by rw [List.length_set]; omega, by rw [getD_set_self _ _ _ (by omega)]; rfl, ?_⟩
    simp only [List.length_replicate]
    refine Means.begin (α := Nat) (fun j => [(11, rows2 124 (E.set k (.key 20)) [20]), (20, heldRow 41 (((List.range j).map (F k)).map bigD ++ List.replicate (cols - j) (D.agg [D.bool false, D.list []])))])
      (fun j => [(1, .int .i64 ci), (2, .fn 242 [.iaddr 55 d, .iaddr 174 d2, .iaddr 174 d3]), (7, .top 11 0), (8, .int .i64 ki), (13, .int .i64 ri), (14, .int .i64 ki), (26, .int .i64 ci), (27, .int .i64 j)]) (fun j => j ≤ cols) (fun j => cols - j) 0 rfl rfl rfl
      ⟨rfl, rfl, rfl, rfl, rfl, rfl, rfl, hci, rfl, trivial⟩ ⟨rfl, rfl, trivial⟩ (Nat.zero_le _) ?_
    intro j hj ih2
    obtain ⟨E2, hE2⟩ : ∃ E, ((List.range j).map (F k)).map bigD ++ List.replicate (cols - j) (D.agg [D.bool false, D.list []]) = E := ⟨_, rfl⟩
    have lE2 : E2.length = cols := by rw [← hE2]; simp; omega
    obtain ⟨ji, hji⟩ : ∃ r : Int, (j : Int) = r := ⟨_, rfl⟩
    obtain ⟨Ek, hEk⟩ : ∃ E' , E.set k (.key 20) = E' := ⟨_, rfl⟩
    have lEk : Ek.length = rows := by rw [← hEk, List.length_set]; exact lE
    rw [hE2, hji, hEk]
    obtain ⟨bz, lz, ez⟩ := bigD_ex (F k j)
    refine Means.go progOK hJX [.fork [.call (.v (.agg 41 (.agg [.bool bz, .list lz]))) [] []] []] 400 fun L Z hL hZ => ?_
    conv => cbv
    subst hL hZ
    dsimp only [std, deep]
    refine ⟨fun h' => ?_, fun h' => ?_⟩ <;> simp only [decide_eq_true_eq, decide_eq_false_iff_not] at h'
    · have hF := hf k j (by omega) (by omega)
      rw [hki, hji, ez] at hF
      rw [show ji.toNat = j by omega, show ki.toNat = k by omega]
      refine ⟨by omega, by omega, by rw [← hEk, getD_set_self _ _ _ (by omega)]; rfl, hF, by omega, by omega, trivial, ?_⟩
      have e2 : E2.set j ((E2.getD j D.nil).put [] (D.agg [D.bool bz, D.list lz])) = ((List.range (j + 1)).map (F k)).map bigD ++ List.replicate (cols - (j + 1)) (D.agg [D.bool false, D.list []]) := by
        rw [show (E2.getD j D.nil).put [] (D.agg [D.bool bz, D.list lz]) = D.agg [D.bool bz, D.list lz] from rfl, ← hE2, set_fill' _ _ _ _ _ (by simp) (by omega), ← ez, List.range_succ]
        simp
      rw [e2]
      exact (ih2 (j + 1) (by omega) (by omega)).to rfl rfl rfl ⟨rfl, rfl, rfl, rfl, rfl, rfl, rfl, rfl, (by rw [wrap64 _ (by omega) (by omega)]; omega), trivial⟩ ⟨hEk.symm, rfl, trivial⟩
    · have hjc : j = cols := by omega
      refine Means.fold hJX 11 k 20 rfl rfl rfl rfl (by show k < Ek.length; omega) (by show Ek.getD k .nil = _; rw [← hEk, getD_set_self _ _ _ (by omega)]) (fun j' h1 h2 => ?_) ?_
      · show Ek.getD j' .nil ≠ _
        rw [← hEk, getD_set_other _ _ _ _ h2]; exact nk j' 20
      · refine (ih (k + 1) (by omega) (by omega)).to rfl rfl rfl ⟨rfl, rfl, rfl, rfl, rfl, (by rw [wrap64 _ (by omega) (by omega)]; omega), trivial⟩ ⟨?_, trivial⟩
        show Ek.set k (.list E2) = _
        rw [← hEk, List.set_set, ← hE, set_fill' _ _ _ _ _ (by rw [matD_length, tabM_length]) (by omega), tabM_succ, ← hE2, hjc, Nat.sub_self, List.replicate_zero, List.append_nil]; rfl
  · have : k = rows := by omega
    refine ⟨?_, trivial⟩
    rw [← hE, ← hR, this, Nat.sub_self, List.replicate_zero, List.append_nil]


theorem minor1_ok (n k : Nat) (F : Nat → Nat → Int) (hk : k ≤ n) (i j : Nat) (hi : i < k) (hj : j < k) :
    Ok Tryz.prog tab 242 [.int .i64 i, .int .i64 j, .iaddr 55 (.list (matF n F)), .iaddr 174 (.list (upL k)), .iaddr 174 (.list (upL k))] [] (.v (.agg 41 (bigD (F i j)))) [] := by
  have lA := matF_length n F
  have gA : (matF n F).getD i .nil = .list (rowF n F i) := matF_get F (by omega)
  have lr := rowF_length n F i
  have gr := rowF_get (n := n) F i (j := j) (by omega)
  have lU := upL_length k
  have g1 := upL_get k i hi
  have g2 := upL_get k j hj
  generalize matF n F = A at *
  generalize rowF n F i = r at *
  generalize upL k = U at *
  obtain ⟨b, l, e⟩ := bigD_ex (F i j)
  rw [e] at gr ⊢
  obtain ⟨ii, hii⟩ : ∃ r : Int, (i : Int) = r := ⟨_, rfl⟩
  obtain ⟨ji, hji⟩ : ∃ r : Int, (j : Int) = r := ⟨_, rfl⟩
  rw [hii] at g1
  rw [hji] at g2
  rw [hii, hji]
  refine Ok.go progOK [] [] 400 Tryz.func242 rfl rfl rfl fun J hJX L Z hL hZ => ?_
  conv => cbv
  subst hL hZ
  dsimp only [std, deep]
  rw [show ii.toNat = i by omega, show ji.toNat = j by omega, show ((D.list U).els.getD i D.nil).toInt = ii from g1, show ((D.list U).els.getD j D.nil).toInt = ji from g2, show ii.toNat = i by omega, show ji.toNat = j by omega,
    show (D.list A).els.getD i D.nil = .list r from gA, show (D.list r).els.getD j D.nil = .agg [.bool b, .list l] from gr]
  exact ⟨by omega, (by show ii < (U.length : Int); omega), by omega, (by show ii < (A.length : Int); omega), by omega, (by show ji < (U.length : Int); omega), by omega, (by show ji < (r.length : Int); omega), trivial, rfl, trivial⟩

theorem minor_ok (n k : Nat) (F : Nat → Nat → Int) (hk1 : 1 ≤ k) (hk : k ≤ n) (hn : n ≤ 16) (s : Nat) (hs : (s + 1) * 2 ^ n ≤ 60000000000) (hF : ∀ i j, i < n → j < n → Sz s (F i j)) :
    Ok Tryz.prog tab 237 [.imm 124 false (matF n F), .imm 3 false (upL k), .imm 3 false (upL k)] [] (.tup [.v (.agg 41 (bigD (det k F))), .v (.bool true)]) [] := by
  have h1 := shape_sq (matL_sq F (show 1 ≤ n by omega) hn)
  rw [matF_map] at h1
  have h2 := ascending_ok k n hk1 hk (by omega)
  have h3 := build2 k k (by omega) (by omega) (.list (matF n F)) (.list (upL k)) (.list (upL k)) F (fun i j hi hj => minor1_ok n k F hk i j hi hj)
  rw [matF_tab] at h3
  have h4 := determinant_ok k F hk1 (by omega) s (Nat.le_trans (Nat.mul_le_mul_left _ (Nat.pow_le_pow_right (by decide) hk)) hs) (fun i j hi hj => hF i j (by omega) (by omega))
  have lU := upL_length k
  generalize upL k = U at *
  generalize matF n F = A at *
  generalize matF k F = M at *
  obtain ⟨b, l, e⟩ := bigD_ex (det k F)
  rw [e] at h4 ⊢
  rw [← lU] at h3
  generalize (n : Int) = ni at *
  obtain ⟨ki, hki⟩ : ∃ r : Int, (U.length : Int) = r := ⟨_, rfl⟩
  rw [hki] at h3
  refine Ok.go progOK [] [.call (.tup [.v (.int .i64 ni), .v (.int .i64 ni), .v (.bool true)]) [] [], .call (.v (.bool true)) [] [], .call (.v (.bool true)) [] [], .tk false, .before 43 .frz 3, .before 43 .frz 4, .before 43 .frz 5,
    .call (.v (.imm 124 false M)) [] [], .call (.v (.agg 41 (.agg [.bool b, .list l]))) [] []] 400 Tryz.func237 rfl rfl rfl fun J hJX L Z hL hZ => ?_
  conv => cbv
  subst hL hZ
  dsimp only [std, deep]
  refine ⟨h1, fun h => by simp at h, fun _ => ⟨fun h => by simp at h, fun _ => ⟨h2, fun h => by simp at h, fun _ => ⟨h2, rfl, ?_⟩⟩⟩⟩
  exact ⟨by rw [hki]; exact h3, h4, trivial, trivial, trivial, trivial⟩

theorem det_ok (n : Nat) (F : Nat → Nat → Int) (h1 : 1 ≤ n) (h2 : n ≤ 16) (s : Nat) (hs : (s + 1) * 2 ^ n ≤ 60000000000) (hF : ∀ i j, i < n → j < n → Sz s (F i j)) :
    Ok Tryz.prog tab 128 [.imm 124 false (matF n F)] [] (.tup [.v (.agg 41 (bigD (det n F))), .v (.bool true)]) [] := by
  have h3 := square_ok (matL_sq F h1 h2)
  rw [matF_map] at h3
  have h4 := determinant_ok n F h1 h2 s hs hF
  generalize matF n F = A at *
  generalize (n : Int) = ni at *
  obtain ⟨b, l, e⟩ := bigD_ex (det n F)
  rw [e] at h4 ⊢
  refine Ok.go progOK [] [.call (.tup [.v (.int .i64 ni), .v (.bool true)]) [] [], .tk false, .call (.v (.agg 41 (.agg [.bool b, .list l]))) [] []] 400 Tryz.func128 rfl rfl rfl fun J hJX L Z hL hZ => ?_
  conv => cbv
  subst hL hZ
  dsimp only [std, deep]
  exact ⟨h3, rfl, h4, trivial, trivial, trivial, trivial⟩

end Go.VI

namespace Go.VI
open Go.Proofs
set_option maxRecDepth 20000

def grown (e : Nat) (els : List D) : Root := { e := e, els := els, dep := 1, full := false, av := 0, held := false, keys := [] }
theorem take_app {A : List D} {i : Nat} {x : D} (h : i < A.length) (hx : A.getD i .nil = x) : A.take i ++ [x] = A.take (i + 1) := by
  rw [List.take_succ_eq_append_getElem h, ← hx, List.getD_eq_getElem?_getD, List.getElem?_eq_getElem h]; rfl

set_option maxHeartbeats 2000000 in
theorem normal_ok (n : Nat) (F : Nat → Nat → Int) (h1 : 1 ≤ n) (h2 : n ≤ 16) (hF : ∀ i j, i < n → j < n → Sz big (F i j)) :
    Ok Tryz.prog tab 200 [.imm 124 false (matF n F)] [] (.v (.imm 124 false (matF n F))) [] := by
  obtain ⟨A, hA⟩ : ∃ A, matF n F = A := ⟨_, rfl⟩
  have lA : A.length = n := by rw [← hA, matF_length]
  have gA : ∀ i, i < n → A.getD i .nil = .list (rowF n F i) := fun i hi => by rw [← hA]; exact matF_get F hi
  rw [hA]
  refine Ok.go progOK [] [] 400 Tryz.func200 rfl rfl rfl fun J hJX L Z hL hZ => ?_
  conv => cbv
  subst hL hZ
  dsimp only [std, deep]
  obtain ⟨ni, hni⟩ : ∃ r : Int, (A.length : Int) = r := ⟨_, rfl⟩
  refine Means.born 3 30 124 rfl rfl rfl ?_
  refine Means.begin (α := Nat) (fun i => [(30, grown 124 (A.take i))]) (fun i => [(3, .top 30 0), (9, .imm 124 false A), (10, .int .i64 ni), (11, .int .i64 i)]) (fun i => i ≤ n) (fun i => n - i) 0 rfl rfl rfl
    ⟨rfl, hni, rfl, trivial⟩ ⟨rfl, trivial⟩ (Nat.zero_le _) ?_
  intro i hi ih
  obtain ⟨ii, hii⟩ : ∃ r : Int, (i : Int) = r := ⟨_, rfl⟩
  obtain ⟨E, hE⟩ : ∃ E, A.take i = E := ⟨_, rfl⟩
  have lE : E.length = i := by rw [← hE, List.length_take]; omega
  rw [hii, hE]
  rcases Nat.lt_or_ge i n with hlt | hge
  · have gi := gA i hlt
    have lr := rowF_length n F i
    have gr : ∀ j, j < n → (rowF n F i).getD j .nil = bigD (F i j) := fun j hj => rowF_get F i hj
    obtain ⟨r, hr⟩ : ∃ r, rowF n F i = r := ⟨_, rfl⟩
    rw [hr] at gi lr gr
    have nl : ∀ k, A.getD i .nil ≠ .key k := by rw [gi]; simp
    refine Means.go progOK hJX [.tk true] 400 fun L Z hL hZ => ?_
    conv => cbv
    subst hL hZ
    dsimp only [std, deep]
    refine ⟨by simp; omega, by omega, by omega, ?_⟩
    rw [show ii.toNat = i by omega, gi]
    refine Means.born 6 25 41 rfl rfl rfl ?_
    refine Means.begin (α := Nat) (fun j => [(30, grown 124 E), (25, grown 41 (r.take j))])
      (fun j => [(3, .top 30 0), (6, .top 25 0), (9, .imm 124 false A), (10, .int .i64 ni), (11, .int .i64 ii), (15, .imm 41 false r), (16, .int .i64 ni), (17, .int .i64 j)]) (fun j => j ≤ n) (fun j => n - j) 0 rfl rfl rfl
      ⟨rfl, rfl, rfl, rfl, (by show ((D.list r).els.length : Int) = ni; rw [show (D.list r).els = r from rfl]; omega), rfl, trivial⟩ ⟨rfl, rfl, trivial⟩ (Nat.zero_le _) ?_
    intro j hj ih2
    obtain ⟨ji, hji⟩ : ∃ r : Int, (j : Int) = r := ⟨_, rfl⟩
    obtain ⟨E2, hE2⟩ : ∃ E, r.take j = E := ⟨_, rfl⟩
    have lE2 : E2.length = j := by rw [← hE2, List.length_take]; omega
    rw [hji, hE2]
    rcases Nat.lt_or_ge j n with hlt2 | hge2
    · have gj := gr j hlt2
      obtain ⟨b, l, e⟩ := bigD_ex (F i j)
      have h3 := normalize_ok (F i j) (hF i j hlt hlt2)
      rw [e] at gj h3
      refine Means.go progOK hJX [.tk true, .call (.v (.agg 41 (.agg [.bool b, .list l]))) [] [], .before 26 .hid 8, .before 26 (.mv 25) 25] 400 fun L Z hL hZ => ?_
      conv => cbv
      subst hL hZ
      dsimp only [std, deep]
      rw [show ji.toNat = j by omega, gj]
      refine ⟨by simp; omega, by omega, by omega, trivial, h3, by simp only [List.length_cons, List.length_nil]; omega, by simp only [List.length_cons, List.length_nil]; omega, ?_⟩
      refine (ih2 (j + 1) (by omega) (by omega)).to rfl rfl rfl ⟨rfl, rfl, rfl, rfl, rfl, (by rw [wrap64 _ (by omega) (by omega)]; omega), trivial⟩ ⟨rfl, ?_, trivial⟩
      show E2 ++ [.agg [.bool b, .list l]] = r.take (j + 1)
      rw [← hE2]; exact take_app (by omega) gj
    · have hjn : j = n := by omega
      refine Means.go progOK hJX [.tk false, .halt] 400 fun L Z hL hZ => ?_
      conv => cbv
      subst hL hZ
      dsimp only [std, deep]
      refine ⟨by simp; omega, ?_⟩
      refine Means.weak (rl' := [(30, grown 124 E), (25, grown 41 r)]) (sl' := [(3, .top 30 0), (6, .top 25 0), (9, .imm 124 false A), (10, .int .i64 ni), (11, .int .i64 ii)]) rfl rfl rfl
        ⟨rfl, rfl, rfl, trivial⟩ ⟨rfl, (by show E2 = r; rw [← hE2, List.take_of_length_le (by omega)]), trivial⟩ ?_
      refine Means.go progOK hJX [.before 29 .frz 25, .before 31 (.mv 30) 30] 400 fun L Z hL hZ => ?_
      conv => cbv
      subst hL hZ
      dsimp only [std, deep]
      refine ⟨by simp only [List.length_cons, List.length_nil]; omega, by simp only [List.length_cons, List.length_nil]; omega, ?_⟩
      refine (ih (i + 1) (by omega) (by omega)).to rfl rfl rfl ⟨rfl, rfl, (by rw [wrap64 _ (by omega) (by omega)]; omega), trivial⟩ ⟨?_, trivial⟩
      show E ++ [.list r] = A.take (i + 1)
      rw [← hE]; exact take_app (by omega) gi
  · have hin : i = n := by omega
    refine Means.go progOK hJX [.tk false] 400 fun L Z hL hZ => ?_
    conv => cbv
    subst hL hZ
    dsimp only [std, deep]
    exact ⟨by simp; omega, by rw [← hE, List.take_of_length_le (by omega)], trivial⟩

/-- A matrix's rows from the second on, each from its second place on. -/
def tailsF (n : Nat) (F : Nat → Nat → Int) : List D := (List.range (n - 1)).map fun i => .list ((List.range (n - 1)).map fun j => bigD (F (i + 1) (j + 1)))
theorem tailsF_matF (n : Nat) (F : Nat → Nat → Int) : tailsF n F = matF (n - 1) (fun i j => F (i + 1) (j + 1)) := rfl
theorem rowF_drop (n : Nat) (F : Nat → Nat → Int) (i : Nat) : (rowF n F i).drop 1 = (List.range (n - 1)).map fun j => bigD (F i (j + 1)) := by
  apply List.ext_getElem
  · simp [rowF]
  · intro a h1 h2
    simp only [rowF, List.getElem_drop, List.getElem_map, List.getElem_range]
    rw [Nat.add_comm 1 a]

set_option maxHeartbeats 2000000 in
theorem within_ok (n : Nat) (F : Nat → Nat → Int) (h1 : 1 ≤ n) (h2 : n ≤ 16) :
    Ok Tryz.prog tab 229 [.imm 124 false (matF n F)] [] (.v (.imm 124 false (matF (n - 1) (fun i j => F (i + 1) (j + 1))))) [] := by
  obtain ⟨A, hA⟩ : ∃ A, matF n F = A := ⟨_, rfl⟩
  have lA : A.length = n := by rw [← hA, matF_length]
  have gA : ∀ i, i < n → A.getD i .nil = .list (rowF n F i) := fun i hi => by rw [← hA]; exact matF_get F hi
  obtain ⟨W, hW⟩ : ∃ W, matF (n - 1) (fun i j => F (i + 1) (j + 1)) = W := ⟨_, rfl⟩
  have lW : W.length = n - 1 := by rw [← hW, matF_length]
  rw [hA, hW]
  refine Ok.go progOK [] [] 400 Tryz.func229 rfl rfl rfl fun J hJX L Z hL hZ => ?_
  conv => cbv
  subst hL hZ
  dsimp only [std, deep]
  obtain ⟨B, hB⟩ : ∃ B, List.take ((A.length : Int) - 1).toNat (List.drop (Int.toNat 1) A) = B := ⟨_, rfl⟩
  have hB' : A.drop 1 = B := by
    rw [← hB, show Int.toNat 1 = 1 from rfl, List.take_of_length_le (by rw [List.length_drop]; omega)]
  have lB : B.length = n - 1 := by rw [← hB', List.length_drop]; omega
  have gB : ∀ i, i < n - 1 → B.getD i .nil = .list (rowF n F (i + 1)) := by
    intro i hi
    rw [← hB', List.getD_eq_getElem?_getD, List.getElem?_drop, Nat.add_comm 1 i, ← List.getD_eq_getElem?_getD]
    exact gA (i + 1) (by omega)
  rw [hB]
  refine ⟨by omega, by omega, by omega, ?_⟩
  obtain ⟨mi, hmi⟩ : ∃ r : Int, (B.length : Int) = r := ⟨_, rfl⟩
  refine Means.born 3 21 124 rfl rfl rfl ?_
  refine Means.begin (α := Nat) (fun i => [(21, grown 124 (W.take i))]) (fun i => [(3, .top 21 0), (7, .imm 124 false B), (8, .int .i64 mi), (9, .int .i64 i)]) (fun i => i ≤ n - 1) (fun i => n - 1 - i) 0 rfl rfl rfl
    ⟨rfl, hmi, rfl, trivial⟩ ⟨rfl, trivial⟩ (Nat.zero_le _) ?_
  intro i hi ih
  obtain ⟨ii, hii⟩ : ∃ r : Int, (i : Int) = r := ⟨_, rfl⟩
  obtain ⟨E, hE⟩ : ∃ E, W.take i = E := ⟨_, rfl⟩
  have lE : E.length = i := by rw [← hE, List.length_take]; omega
  rw [hii, hE]
  rcases Nat.lt_or_ge i (n - 1) with hlt | hge
  · have gi := gB i hlt
    have lr := rowF_length n F (i + 1)
    have gw : W.getD i .nil = .list ((rowF n F (i + 1)).drop 1) := by rw [← hW, matF_get _ hlt, rowF_drop]; rfl
    obtain ⟨r, hr⟩ : ∃ r, rowF n F (i + 1) = r := ⟨_, rfl⟩
    rw [hr] at gi lr gw
    refine Means.go progOK hJX [.tk true, .before 22 (.mv 21) 21] 400 fun L Z hL hZ => ?_
    conv => cbv
    subst hL hZ
    dsimp only [std, deep]
    rw [show ii.toNat = i by omega, gi]
    have et : List.take ((r.length : Int) - 1).toNat (List.drop (Int.toNat 1) r) = r.drop 1 := by
      rw [show Int.toNat 1 = 1 from rfl, List.take_of_length_le (by rw [List.length_drop]; omega)]
    rw [show (D.list r).els = r from rfl, et]
    refine ⟨by simp; omega, by omega, by omega, by omega, by omega, by omega, trivial, by simp only [List.length_cons, List.length_nil]; omega, by simp only [List.length_cons, List.length_nil]; omega, ?_⟩
    refine (ih (i + 1) (by omega) (by omega)).to rfl rfl rfl ⟨rfl, rfl, (by rw [wrap64 _ (by omega) (by omega)]; omega), trivial⟩ ⟨?_, trivial⟩
    show E ++ [.list (r.drop 1)] = W.take (i + 1)
    rw [← hE]; exact take_app (by omega) gw
  · have hin : i = n - 1 := by omega
    refine Means.go progOK hJX [.tk false] 400 fun L Z hL hZ => ?_
    conv => cbv
    subst hL hZ
    dsimp only [std, deep]
    exact ⟨by simp; omega, by rw [← hE, List.take_of_length_le (by omega)], trivial⟩

/-- One step of the elimination: the smaller matrix. -/
def nextF (F : Nat → Nat → Int) (last : Int) : Nat → Nat → Int := fun i j => (F 0 0 * F (i + 1) (j + 1) - F (i + 1) 0 * F 0 (j + 1)) / last

set_option maxHeartbeats 4000000 in
theorem bnext_ok (n : Nat) (F : Nat → Nat → Int) (last : Int) (h1 : 2 ≤ n) (h2 : n ≤ 16) (s : Nat) (hs : s ≤ 60000000000) (hF : ∀ i j, i < n → j < n → Sz s (F i j)) (hl0 : last ≠ 0) (hl : Sz big last) :
    Ok Tryz.prog tab 201 [.imm 124 false (matF n F), .agg 41 (bigD last)] [] (.v (.imm 124 false (matF (n - 1) (nextF F last)))) [] := by
  have hw := within_ok n F (by omega) h2
  obtain ⟨A, hA⟩ : ∃ A, matF n F = A := ⟨_, rfl⟩
  have lA : A.length = n := by rw [← hA, matF_length]
  have gA : ∀ i, i < n → A.getD i .nil = .list (rowF n F i) := fun i hi => by rw [← hA]; exact matF_get F hi
  obtain ⟨W, hW⟩ : ∃ W, matF (n - 1) (fun i j => F (i + 1) (j + 1)) = W := ⟨_, rfl⟩
  have lW : W.length = n - 1 := by rw [← hW, matF_length]
  have gW : ∀ i, i < n - 1 → W.getD i .nil = .list (rowF (n - 1) (fun i j => F (i + 1) (j + 1)) i) := fun i hi => by rw [← hW]; exact matF_get _ hi
  obtain ⟨T, hT⟩ : ∃ T, matF (n - 1) (nextF F last) = T := ⟨_, rfl⟩
  have lT : T.length = n - 1 := by rw [← hT, matF_length]
  have gT : ∀ i, i < n - 1 → T.getD i .nil = .list (rowF (n - 1) (nextF F last) i) := fun i hi => by rw [← hT]; exact matF_get _ hi
  obtain ⟨bl, ll, el⟩ := bigD_ex last
  rw [hA, hW] at hw
  rw [hA, hT, el]
  refine Ok.go progOK [] [.call (.v (.imm 124 false W)) [] []] 400 Tryz.func201 rfl rfl rfl fun J hJX L Z hL hZ => ?_
  conv => cbv
  subst hL hZ
  dsimp only [std, deep]
  obtain ⟨mi, hmi⟩ : ∃ r : Int, (W.length : Int) = r := ⟨_, rfl⟩
  refine ⟨hw, ?_⟩
  refine Means.born 5 68 124 rfl rfl rfl ?_
  refine Means.begin (α := Nat) (fun i => [(3, boxed 41 (.agg [.bool bl, .list ll])), (68, grown 124 (T.take i))])
    (fun i => [(0, .imm 124 false A), (3, .addr 3 0 0 [] 41), (5, .top 68 0), (16, .imm 124 false W), (17, .int .i64 mi), (18, .int .i64 i)]) (fun i => i ≤ n - 1) (fun i => n - 1 - i) 0 rfl rfl rfl
    ⟨rfl, rfl, rfl, hmi, rfl, trivial⟩ ⟨rfl, rfl, trivial⟩ (Nat.zero_le _) ?_
  intro i hi ih
  obtain ⟨ii, hii⟩ : ∃ r : Int, (i : Int) = r := ⟨_, rfl⟩
  obtain ⟨E, hE⟩ : ∃ E, T.take i = E := ⟨_, rfl⟩
  have lE : E.length = i := by rw [← hE, List.length_take]; omega
  rw [hii, hE]
  rcases Nat.lt_or_ge i (n - 1) with hlt | hge
  · have gi := gW i hlt
    have gt := gT i hlt
    have lw := rowF_length (n - 1) (fun i j => F (i + 1) (j + 1)) i
    have gw : ∀ j, j < n - 1 → (rowF (n - 1) (fun i j => F (i + 1) (j + 1)) i).getD j .nil = bigD (F (i + 1) (j + 1)) := fun j hj => rowF_get (fun i j => F (i + 1) (j + 1)) i hj
    have ltr := rowF_length (n - 1) (nextF F last) i
    have gtr : ∀ j, j < n - 1 → (rowF (n - 1) (nextF F last) i).getD j .nil = bigD (nextF F last i j) := fun j hj => rowF_get _ i hj
    obtain ⟨wr, hwr⟩ : ∃ r, rowF (n - 1) (fun i j => F (i + 1) (j + 1)) i = r := ⟨_, rfl⟩
    obtain ⟨tr, htr⟩ : ∃ r, rowF (n - 1) (nextF F last) i = r := ⟨_, rfl⟩
    rw [hwr] at gi lw gw
    rw [htr] at gt ltr gtr
    refine Means.go progOK hJX [.tk true] 400 fun L Z hL hZ => ?_
    conv => cbv
    subst hL hZ
    dsimp only [std, deep]
    refine ⟨by simp; omega, by omega, by omega, ?_⟩
    rw [show ii.toNat = i by omega, gi]
    refine Means.born 8 63 41 rfl rfl rfl ?_
    refine Means.begin (α := Nat) (fun j => [(3, boxed 41 (.agg [.bool bl, .list ll])), (68, grown 124 E), (63, grown 41 (tr.take j))])
      (fun j => [(0, .imm 124 false A), (3, .addr 3 0 0 [] 41), (5, .top 68 0), (6, .int .i64 ii), (8, .top 63 0), (16, .imm 124 false W), (17, .int .i64 mi), (18, .int .i64 ii), (23, .imm 41 false wr), (24, .int .i64 mi), (25, .int .i64 j)])
      (fun j => j ≤ n - 1) (fun j => n - 1 - j) 0 rfl rfl rfl
      ⟨rfl, rfl, rfl, rfl, rfl, rfl, rfl, (by show ((D.list wr).els.length : Int) = mi; rw [show (D.list wr).els = wr from rfl]; omega), rfl, trivial⟩ ⟨rfl, rfl, rfl, trivial⟩ (Nat.zero_le _) ?_
    intro j hj ih2
    obtain ⟨ji, hji⟩ : ∃ r : Int, (j : Int) = r := ⟨_, rfl⟩
    obtain ⟨E2, hE2⟩ : ∃ E, tr.take j = E := ⟨_, rfl⟩
    have lE2 : E2.length = j := by rw [← hE2, List.length_take]; omega
    rw [hji, hE2]
    rcases Nat.lt_or_ge j (n - 1) with hlt2 | hge2
    · have gj := gw j hlt2
      have gtj := gtr j hlt2
      have g0 := gA 0 (by omega)
      have g1 := gA (i + 1) (by omega)
      have l0 := rowF_length n F 0
      have l1 := rowF_length n F (i + 1)
      have g00 := rowF_get (n := n) F 0 (j := 0) (by omega)
      have g0j := rowF_get (n := n) F 0 (j := j + 1) (by omega)
      have g10 := rowF_get (n := n) F (i + 1) (j := 0) (by omega)
      generalize rowF n F 0 = r0 at g0 l0 g00 g0j
      generalize rowF n F (i + 1) = r1 at g1 l1 g10
      have s1 := hF 0 0 (by omega) (by omega)
      have s2 := hF (i + 1) (j + 1) (by omega) (by omega)
      have s3 := hF (i + 1) 0 (by omega) (by omega)
      have s4 := hF 0 (j + 1) (by omega) (by omega)
      have c1 := mul_ok _ _ (s1.mono (show s ≤ 274877906944 by omega)) (s2.mono (show s ≤ 274877906944 by omega))
      have c2 := mul_ok _ _ (s3.mono (show s ≤ 274877906944 by omega)) (s4.mono (show s ≤ 274877906944 by omega))
      have c3 := sub_ok _ _ ((s1.mul s2).mono (show s + s ≤ 274877906944 by omega)) ((s3.mul s4).mono (show s + s ≤ 274877906944 by omega))
      have c4 := divmod_ok _ last hl0 (((s1.mul s2).sub (s3.mul s4)).mono (show s + s + 1 ≤ 274877906944 by omega)) hl
      have hst : nextF F last i j = (F 0 0 * F (i + 1) (j + 1) - F (i + 1) 0 * F 0 (j + 1)) / last := rfl
      rw [← hst] at c4
      obtain ⟨b1, l1', e1⟩ := bigD_ex (F 0 0 * F (i + 1) (j + 1))
      obtain ⟨b2, l2, e2⟩ := bigD_ex (F (i + 1) 0 * F 0 (j + 1))
      obtain ⟨b3, l3, e3⟩ := bigD_ex (F 0 0 * F (i + 1) (j + 1) - F (i + 1) 0 * F 0 (j + 1))
      obtain ⟨b4, l4, e4⟩ := bigD_ex (nextF F last i j)
      obtain ⟨b5, l5, e5⟩ := bigD_ex ((F 0 0 * F (i + 1) (j + 1) - F (i + 1) 0 * F 0 (j + 1)) % last)
      obtain ⟨b6, l6, e6⟩ := bigD_ex (F 0 0)
      obtain ⟨b7, l7, e7⟩ := bigD_ex (F (i + 1) (j + 1))
      obtain ⟨b8, l8, e8⟩ := bigD_ex (F (i + 1) 0)
      obtain ⟨b9, l9, e9⟩ := bigD_ex (F 0 (j + 1))
      rw [e1, e6, e7] at c1
      rw [e2, e8, e9] at c2
      rw [e1, e2, e3] at c3
      rw [e3, el, e4, e5] at c4
      rw [e7] at gj
      rw [e6] at g00
      rw [e9] at g0j
      rw [e8] at g10
      rw [e4] at gtj
      refine Means.go progOK hJX [.tk true, .call (.v (.agg 41 (.agg [.bool b1, .list l1']))) [] [], .call (.v (.agg 41 (.agg [.bool b2, .list l2]))) [] [], .call (.v (.agg 41 (.agg [.bool b3, .list l3]))) [] [],
        .call (.tup [.v (.agg 41 (.agg [.bool b4, .list l4])), .v (.agg 41 (.agg [.bool b5, .list l5])), .v (.bool true)]) [] [], .before 64 .hid 10, .before 64 .hid 11, .before 64 .hid 12, .before 64 .hid 13, .before 64 (.mv 63) 63] 400 fun L Z hL hZ => ?_
      conv => cbv
      subst hL hZ
      dsimp only [std, deep]
      have w1 : IntKind.i64.wrap (ii + 1) = ii + 1 := wrap64 _ (by omega) (by omega)
      have w2 : IntKind.i64.wrap (ji + 1) = ji + 1 := wrap64 _ (by omega) (by omega)
      rw [w1, w2, show ji.toNat = j by omega, show (ii + 1).toNat = i + 1 by omega, show (ji + 1).toNat = j + 1 by omega]
      rw [show Int.toNat 0 = 0 from rfl, g0, g1, show (D.list r0).els = r0 from rfl, show (D.list r1).els = r1 from rfl, gj, g00, g0j, g10]
      refine ⟨by simp; omega, by omega, by omega, trivial, by omega, by omega, by omega, by omega, c1, by omega, by omega, by omega, by omega, by omega, by omega, by omega, by omega, c2, c3, trivial, c4, trivial, trivial,
        by simp only [List.length_cons, List.length_nil]; omega, by simp only [List.length_cons, List.length_nil]; omega, ?_⟩
      refine (ih2 (j + 1) (by omega) (by omega)).to rfl rfl rfl ⟨rfl, rfl, rfl, rfl, rfl, rfl, rfl, rfl, by omega, trivial⟩ ⟨rfl, rfl, ?_, trivial⟩
      show E2 ++ [.agg [.bool b4, .list l4]] = tr.take (j + 1)
      rw [← hE2]; exact take_app (by omega) gtj
    · have hjn : j = n - 1 := by omega
      refine Means.go progOK hJX [.tk false, .halt] 400 fun L Z hL hZ => ?_
      conv => cbv
      subst hL hZ
      dsimp only [std, deep]
      refine ⟨by simp; omega, ?_⟩
      refine Means.weak (rl' := [(3, boxed 41 (.agg [.bool bl, .list ll])), (68, grown 124 E), (63, grown 41 tr)]) (sl' := [(0, .imm 124 false A), (3, .addr 3 0 0 [] 41), (5, .top 68 0), (8, .top 63 0), (16, .imm 124 false W), (17, .int .i64 mi), (18, .int .i64 ii)]) rfl rfl rfl
        ⟨rfl, rfl, rfl, rfl, rfl, trivial⟩ ⟨rfl, rfl, (by show E2 = tr; rw [← hE2, List.take_of_length_le (by omega)]), trivial⟩ ?_
      refine Means.go progOK hJX [.before 67 .frz 63, .before 69 (.mv 68) 68] 400 fun L Z hL hZ => ?_
      conv => cbv
      subst hL hZ
      dsimp only [std, deep]
      refine ⟨by simp only [List.length_cons, List.length_nil]; omega, by simp only [List.length_cons, List.length_nil]; omega, ?_⟩
      refine (ih (i + 1) (by omega) (by omega)).to rfl rfl rfl ⟨rfl, rfl, rfl, rfl, (by rw [wrap64 _ (by omega) (by omega)]; omega), trivial⟩ ⟨rfl, ?_, trivial⟩
      show E ++ [.list tr] = T.take (i + 1)
      rw [← hE]; exact take_app (by omega) gt
  · have hin : i = n - 1 := by omega
    refine Means.go progOK hJX [.tk false] 400 fun L Z hL hZ => ?_
    conv => cbv
    subst hL hZ
    dsimp only [std, deep]
    exact ⟨by simp; omega, by rw [← hE, List.take_of_length_le (by omega)], trivial⟩

end Go.VI
