/- Bernoulli numbers: what the program reckons. The Kronecker symbol and discriminants: what the program reckons. Squarefree parts and discriminants: what the program reckons. Generalized Bernoulli numbers: what the program reckons. Whether a square matrix is a reduced form: what the program reckons. Matrices of remainders: what the program reckons. -/
import Derived.Test.YtnnikgdmdmbooaaGreatJ12
set_option linter.unusedVariables false
set_option linter.unusedSimpArgs false
namespace Go.VI
open Go.Proofs
set_option maxRecDepth 20000

/-- Binomial coefficients, as the program multiplies them up. -/
def binN (n : Nat) : Nat → Nat
  | 0 => 1
  | i + 1 => binN n i * (n - i) / (i + 1)
theorem binN_small : ∀ n, n < 22 → ∀ i, i < 23 → binN n i * (n - i) ≤ 1000000000 := by decide +kernel
theorem binN_le : ∀ n, n < 22 → ∀ i, i < 23 → binN n i ≤ 1000000000 := by decide +kernel
def binoL (n : Nat) : List D := vecL (n + 1) fun i => (binN n i : Nat)

set_option maxHeartbeats 1000000 in
theorem row_ok (n : Nat) (hn : n ≤ 21) : Ok Tryz.prog tab 137 [.int .i64 n] [] (.v (.imm 2 false (binoL n))) [] := by
  have lL : (binoL n).length = n + 1 := vecL_length _ _
  have gL : ∀ i, i < n + 1 → (binoL n).getD i .nil = .int ((binN n i : Nat) : Int) := fun i h => vecL_get _ h
  have t1 : (binoL n).take 1 = [.int 1] := by rw [← take_app (A := binoL n) (i := 0) (by omega) (gL 0 (by omega))]; rfl
  obtain ⟨L0, hL0⟩ : ∃ A, binoL n = A := ⟨_, rfl⟩
  rw [hL0] at lL gL t1
  rw [hL0]
  obtain ⟨nI, hnI⟩ : ∃ z : Int, (n : Int) = z := ⟨_, rfl⟩
  rw [hnI]
  refine Ok.go progOK [] [] 400 Tryz.func137 rfl rfl rfl fun J hJX L Z hL hZ => ?_
  conv => cbv
  subst hL hZ
  dsimp only [std, deep]
  refine Means.begin (α := Bool × Nat) (fun s => bif s.1 then [] else [(25, grown 2 (L0.take s.2))])
    (fun s => [(0, .int .i64 nI), (3, bif s.1 then .imm 2 true (L0.take s.2) else .top 25 0), (4, .int .i64 (s.2 : Nat))])
    (fun s => (s.1 = true → s.2 = 1) ∧ 1 ≤ s.2 ∧ s.2 ≤ n + 1) (fun s => n + 1 - s.2) (true, 1) rfl rfl rfl
    ⟨rfl, t1.symm, rfl, trivial⟩ trivial ⟨fun _ => rfl, Nat.le_refl _, by dsimp only; omega⟩ ?_
  rintro ⟨fi, k⟩ ⟨hk1, hk2, hk3⟩ ih
  dsimp only at hk1 hk2 hk3 ih ⊢
  obtain ⟨ki, hki⟩ : ∃ r : Int, (k : Int) = r := ⟨_, rfl⟩
  obtain ⟨E, hE⟩ : ∃ E, L0.take k = E := ⟨_, rfl⟩
  have lE : E.length = k := by rw [← hE, List.length_take]; omega
  rw [hki, hE]
  rcases Nat.lt_or_ge n k with hlt | hge
  · have hkn : k = n + 1 := by omega
    cases fi
    all_goals
      dsimp only [cond_false, cond_true]
      refine Means.go progOK hJX [.tk false] 400 fun L Z hL hZ => ?_
      conv => cbv
      subst hL hZ
      dsimp only [std, deep]
      exact ⟨by simp; omega, by rw [← hE, List.take_of_length_le (by omega)], trivial⟩
  · have gE : E.getD (k - 1) .nil = .int ((binN n (k - 1) : Nat) : Int) := by rw [← hE, getD_take (by omega)]; exact gL _ (by omega)
    have gk := gL k (by omega)
    obtain ⟨j, hj⟩ : ∃ j, k = j + 1 := ⟨k - 1, by omega⟩
    have hb := binN_small n (by omega) j (by omega)
    have e1 : binN n k = binN n (k - 1) * (n - (k - 1)) / k := by rw [hj]; rfl
    rw [show j = k - 1 by omega] at hb
    have lk := ih (false, k + 1) ⟨fun h => by simp at h, by dsimp only; omega, by dsimp only; omega⟩ (by dsimp only; omega)
    dsimp only [cond_false] at lk
    have fin : E ++ [.int ((binN n k : Nat) : Int)] = L0.take (k + 1) := by rw [← hE]; exact take_app (by omega) gk
    rw [← fin] at lk
    have hb2 := binN_le n (by omega) (k - 1) (by omega)
    obtain ⟨b, hbe⟩ : ∃ b, binN n (k - 1) = b := ⟨_, rfl⟩
    obtain ⟨c, hce⟩ : ∃ b, binN n k = b := ⟨_, rfl⟩
    rw [hbe] at gE hb e1 hb2
    rw [hce] at e1 lk
    obtain ⟨bI, hbI⟩ : ∃ z : Int, (b : Int) = z := ⟨_, rfl⟩
    rw [hbI] at gE
    have hmul : bI * (nI - ki + 1) = ((b * (n - (k - 1)) : Nat) : Int) := by rw [← hbI, Int.natCast_mul]; congr 1; omega
    have v1 : (IntKind.i64.wrap (bI * IntKind.i64.wrap (IntKind.i64.wrap (nI - ki) + 1))).tdiv ki = ((c : Nat) : Int) := by
      rw [wrap64 (nI - ki) (by omega) (by omega), wrap64 (nI - ki + 1) (by omega) (by omega), hmul, wrap64 _ (by omega) (by omega), ← hki, e1]
      exact (Int.ofNat_tdiv _ _).symm
    have hc : c ≤ 1000000000 := by rw [e1]; exact Nat.le_trans (Nat.div_le_self _ _) hb
    have v2 : IntKind.i64.wrap (c : Int) = (c : Int) := wrapN (by omega)
    obtain ⟨cI, hcI⟩ : ∃ z : Int, (c : Int) = z := ⟨_, rfl⟩
    rw [hcI] at v1 v2 lk
    cases fi
    · dsimp only [cond_false, cond_true]
      refine Means.go progOK hJX [.tk true, .before 10 (.mv 25) 25] 400 fun L Z hL hZ => ?_
      conv => cbv
      subst hL hZ
      dsimp only [std, deep]
      rw [wrap64 (ki - 1) (by omega) (by omega), show (ki - 1).toNat = k - 1 by omega, gE, show ((D.int bI).at []).toInt = bI from rfl, v1, v2]
      repeat' first | exact trivial | omega | (simp only [List.length_cons, List.length_nil]; omega) | (simp; omega) | (simp; done) | refine And.intro ?_ ?_
      exact lk.to rfl rfl rfl ⟨rfl, (by rw [wrap64 _ (by omega) (by omega)]; omega), trivial⟩ ⟨rfl, trivial⟩
    · dsimp only [cond_false, cond_true]
      refine Means.go progOK hJX [.tk true] 400 fun L Z hL hZ => ?_
      conv => cbv
      subst hL hZ
      dsimp only [std, deep]
      rw [wrap64 (ki - 1) (by omega) (by omega), show (ki - 1).toNat = k - 1 by omega, gE, show (D.int bI).toInt = bI from rfl, v1, v2]
      repeat' first | exact trivial | omega | (simp only [List.length_cons, List.length_nil]; omega) | (simp; omega) | (simp; done) | refine And.intro ?_ ?_
      exact lk.to rfl rfl rfl ⟨rfl, (by rw [wrap64 _ (by omega) (by omega)]; omega), trivial⟩ ⟨rfl, trivial⟩

/-- The Bernoulli numbers up to B_20. -/
def berQ : List Rat := [1, mkRat (-1) 2, mkRat 1 6, 0, mkRat (-1) 30, 0, mkRat 1 42, 0, mkRat (-1) 30, 0, mkRat 5 66, 0, mkRat (-691) 2730, 0, mkRat 7 6, 0, mkRat (-3617) 510, 0, mkRat 43867 798, 0, mkRat (-174611) 330]
def berB (i : Nat) : Rat := berQ.getD i 0
def berS (n : Nat) : Nat → Rat
  | 0 => ((0 : Int) : Rat)
  | i + 1 => berS n i + (((binN (n + 1) i : Nat) : Int) : Rat) * berB i
theorem berB_rec : ∀ n, n < 20 → -(berS (n + 1) (n + 1)) / (((n + 1 + 1 : Nat) : Int) : Rat) = berB (n + 1) := by decide +kernel
theorem berB_num : ∀ i, i < 21 → (berB i).num.natAbs ≤ 1000000 ∧ (berB i).den ≤ 1000000 := by decide +kernel

theorem SzR.of_lt {q : Rat} (h1 : q.num.natAbs ≤ 1000000) (h2 : q.den ≤ 1000000) : SzR 1 q := by
  refine ⟨?_, ?_⟩
  · unfold Sz; exact limbs_len_of (k := 1) (by simp only [B32, Nat.pow_one]; omega)
  · unfold Sz; rw [Int.natAbs_natCast]; exact limbs_len_of (k := 1) (by simp only [B32, Nat.pow_one]; omega)
theorem berB_sz {i : Nat} (h : i < 21) : SzR 1 (berB i) := SzR.of_lt (berB_num i h).1 (berB_num i h).2
theorem binN_i64 {n i : Nat} (h1 : n < 22) (h2 : i < 23) : I64 ((binN n i : Nat) : Int) := by have := binN_le n h1 i h2; exact ⟨by omega, by omega⟩
theorem berS_sz {n : Nat} (hn : n ≤ 20) : ∀ i, i ≤ n → SzR (4 * i + 2) (berS n i)
  | 0, _ => SzR.i64 ⟨by decide, by decide⟩
  | i + 1, h => by
    rw [berS]
    exact ((berS_sz hn i (by omega)).add (((SzR.i64 (binN_i64 (n := n + 1) (i := i) (by omega) (by omega))).mul (berB_sz (by omega)) (by decide)))).mono (by omega)
def berL (k : Nat) : List D := (List.range (k + 1)).map fun i => ratD (berB i)
theorem berL_length (k : Nat) : (berL k).length = k + 1 := by simp [berL]
theorem berL_get {k i : Nat} (h : i < k + 1) : (berL k).getD i .nil = ratD (berB i) := by simp [berL, List.getD_eq_getElem?_getD, h]

set_option maxHeartbeats 4000000 in
theorem numbers_ok (k : Nat) (hk : k ≤ 20) : Ok Tryz.prog tab 135 [.int .i64 k] [] (.v (.imm 43 false (berL k))) [] := by
  have lL := berL_length k
  have gL : ∀ i, i < k + 1 → (berL k).getD i .nil = ratD (berB i) := fun i h => berL_get h
  have t1 : (berL k).take 1 = [ratD (berB 0)] := by rw [← take_app (A := berL k) (i := 0) (by omega) (gL 0 (by omega))]; rfl
  have hw1 : Ok Tryz.prog tab 136 [.int .i64 1] [] (.v (.agg 43 (ratD (berB 0)))) [] := bwhole_ok 1 i64_one
  have hw0 : Ok Tryz.prog tab 136 [.int .i64 0] [] (.v (.agg 43 (ratD ((0 : Int) : Rat)))) [] := bwhole_ok 0 ⟨by decide, by decide⟩
  obtain ⟨b0, l0, k0, m0, e0⟩ := ratD_ex (berB 0)
  obtain ⟨bz, lz, kz, mz, ez⟩ := ratD_ex ((0 : Int) : Rat)
  rw [e0] at hw1 t1
  rw [ez] at hw0
  obtain ⟨L0, hL0⟩ : ∃ A, berL k = A := ⟨_, rfl⟩
  rw [hL0] at lL gL t1
  rw [hL0]
  obtain ⟨kI, hkI⟩ : ∃ z : Int, (k : Int) = z := ⟨_, rfl⟩
  rw [hkI]
  refine Ok.go progOK [] [.call (.v (.agg 43 (.agg [.agg [.bool b0, .list l0], .agg [.bool k0, .list m0]]))) [] []] 400 Tryz.func135 rfl rfl rfl fun J hJX L Z hL hZ => ?_
  conv => cbv
  subst hL hZ
  dsimp only [std, deep]
  refine ⟨hw1, ?_⟩
  refine Means.begin (α := Bool × Nat) (fun s => bif s.1 then [] else [(51, grown 43 (L0.take s.2))])
    (fun s => [(0, .int .i64 kI), (3, bif s.1 then .imm 43 true (L0.take s.2) else .top 51 0), (4, .int .i64 (s.2 : Nat))])
    (fun s => (s.1 = true → s.2 = 1) ∧ 1 ≤ s.2 ∧ s.2 ≤ k + 1) (fun s => k + 1 - s.2) (true, 1) rfl rfl rfl
    ⟨rfl, t1.symm, rfl, trivial⟩ trivial ⟨fun _ => rfl, Nat.le_refl _, by dsimp only; omega⟩ ?_
  rintro ⟨fi, n⟩ ⟨hn1, hn2, hn3⟩ ih
  dsimp only at hn1 hn2 hn3 ih ⊢
  obtain ⟨nI, hnI⟩ : ∃ r : Int, (n : Int) = r := ⟨_, rfl⟩
  obtain ⟨E, hE⟩ : ∃ E, L0.take n = E := ⟨_, rfl⟩
  have lE : E.length = n := by rw [← hE, List.length_take]; omega
  rw [hnI, hE]
  rcases Nat.lt_or_ge k n with hlt | hge
  · have hkn : n = k + 1 := by omega
    cases fi
    all_goals
      dsimp only [cond_false, cond_true]
      refine Means.go progOK hJX [.tk false] 400 fun L Z hL hZ => ?_
      conv => cbv
      subst hL hZ
      dsimp only [std, deep]
      exact ⟨by simp; omega, by rw [← hE, List.take_of_length_le (by omega)], trivial⟩
  · have hro := row_ok (n + 1) (by omega)
    have gE : ∀ i, i < n → E.getD i .nil = ratD (berB i) := fun i hi => by rw [← hE, getD_take hi]; exact gL i (by omega)
    have nk : ∀ i K, i < n → E.getD i .nil ≠ .key K := fun i K hi => by rw [gE i hi]; intro e; simp [ratD, fracD] at e
    have gk := gL n (by omega)
    have fin : E ++ [ratD (berB n)] = L0.take (n + 1) := by rw [← hE]; exact take_app (by omega) gk
    have lk := ih (false, n + 1) ⟨fun h => by simp at h, by dsimp only; omega, by dsimp only; omega⟩ (by dsimp only; omega)
    dsimp only [cond_false] at lk
    rw [← fin] at lk
    obtain ⟨bn, ln, kn, mn, en⟩ := ratD_ex (berB n)
    rw [en] at lk
    have lR : (binoL (n + 1)).length = n + 2 := vecL_length _ _
    have gR : ∀ i, i < n → ((binoL (n + 1)).take n).getD i .nil = .int ((binN (n + 1) i : Nat) : Int) := fun i hi => by rw [getD_take hi]; exact vecL_get _ (by omega)
    obtain ⟨Rw, hRw⟩ : ∃ R, binoL (n + 1) = R := ⟨_, rfl⟩
    rw [hRw] at hro lR gR
    have wn1 : IntKind.i64.wrap (nI + 1) = ((n + 1 : Nat) : Int) := by rw [wrap64 _ (by omega) (by omega)]; omega
    have sS := fun i hi => berS_sz (n := n) (by omega) i hi
    have hs0 : berS n 0 = ((0 : Int) : Rat) := rfl
    have sn : SzR 2 (((n + 1 : Nat) : Int) : Rat) := SzR.i64 ⟨by omega, by omega⟩
    have ff : berB n = -(berS n n) / (((n + 1 : Nat) : Int) : Rat) := by
      obtain ⟨j, rfl⟩ : ∃ j, n = j + 1 := ⟨n - 1, by omega⟩
      exact (berB_rec j (by omega)).symm
    have cN := neg_rat (berS n n) ((sS n (Nat.le_refl _)).mono (show _ ≤ 274877906944 by omega))
    have cW := bwhole_ok ((n + 1 : Nat) : Int) ⟨by omega, by omega⟩
    have cQ := quo_rat (-(berS n n)) (((n + 1 : Nat) : Int) : Rat) (fun e => by have := Rat.intCast_eq_zero_iff.1 e; omega) ((sS n (Nat.le_refl _)).neg.mono (by omega)) (sn.mono (by decide))
    rw [← ff, en] at cQ
    obtain ⟨b1, l1, k1, m1, e1⟩ := ratD_ex (berS n n)
    obtain ⟨b2, l2, k2, m2, e2⟩ := ratD_ex (-(berS n n))
    obtain ⟨b3, l3, k3, m3, e3⟩ := ratD_ex (((n + 1 : Nat) : Int) : Rat)
    rw [e1, e2] at cN
    rw [e3] at cW
    rw [e2, e3] at cQ
    obtain ⟨Q, hQ⟩ : ∃ Q, Rw.take n = Q := ⟨_, rfl⟩
    rw [hQ] at gR
    have lQ : Q.length = n := by rw [← hQ, List.length_take]; omega
    cases fi
    · dsimp only [cond_false, cond_true]
      refine Means.go progOK hJX [.tk true, .call (.v (.agg 43 (.agg [.agg [.bool bz, .list lz], .agg [.bool kz, .list mz]]))) [] [], .call (.v (.imm 2 false Rw)) [] []] 400 fun L Z hL hZ => ?_
      conv => cbv
      subst hL hZ
      dsimp only [std, deep]
      rw [wn1, show List.take (nI - 0).toNat (List.drop (Int.toNat 0) Rw) = Q by rw [← hQ, show (nI - 0).toNat = n by omega]; rfl]
      refine ⟨by simp; omega, hw0, trivial, hro, by omega, by omega, by omega, ?_⟩
      refine Means.begin (α := Nat) (fun i => [(51, grown 43 E), (5, boxed 43 (ratD (berS n i)))])
        (fun i => [(0, .int .i64 kI), (3, .top 51 0), (4, .int .i64 nI), (5, .addr 5 0 0 [] 43), (22, .imm 2 false Q), (23, .int .i64 nI), (24, .int .i64 i)]) (fun i => i ≤ n) (fun i => n - i) 0 rfl rfl rfl
        ⟨rfl, rfl, rfl, rfl, (by omega), rfl, trivial⟩ ⟨rfl, (by show _ = [ratD (berS n 0)]; rw [hs0, ez]), trivial⟩ (Nat.zero_le _) ?_
      intro i hi ih2
      obtain ⟨iI, hiI⟩ : ∃ r : Int, (i : Int) = r := ⟨_, rfl⟩
      rw [hiI]
      rcases Nat.lt_or_ge i n with hlt2 | hge2
      · have gi := gE i hlt2
        have nki := fun K => nk i K hlt2
        have gq := gR i hlt2
        have ib := binN_i64 (n := n + 1) (i := i) (by omega) (by omega)
        have sb := SzR.i64 ib
        have sB := berB_sz (i := i) (by omega)
        have c1 := bwhole_ok _ ib
        have c2 := mul_rat _ _ (sb.mono (show 2 ≤ 100000000000 by decide)) (sB.mono (show 1 ≤ 100000000000 by decide))
        have c3 := add_rat (berS n i) ((((binN (n + 1) i : Nat) : Int) : Rat) * berB i) ((sS i hi).mono (by omega)) ((sb.mul sB (by decide)).mono (by decide))
        have e9 : berS n i + (((binN (n + 1) i : Nat) : Int) : Rat) * berB i = berS n (i + 1) := rfl
        rw [e9] at c3
        have lk2 := ih2 (i + 1) hlt2 (by omega)
        obtain ⟨b4, l4, k4, m4, e4⟩ := ratD_ex (berS n i)
        obtain ⟨b5, l5, k5, m5, e5⟩ := ratD_ex (((binN (n + 1) i : Nat) : Int) : Rat)
        obtain ⟨b6, l6, k6, m6, e6⟩ := ratD_ex (berB i)
        obtain ⟨b7, l7, k7, m7, e7⟩ := ratD_ex ((((binN (n + 1) i : Nat) : Int) : Rat) * berB i)
        obtain ⟨b8, l8, k8, m8, e8⟩ := ratD_ex (berS n (i + 1))
        rw [e5] at c1
        rw [e5, e6, e7] at c2
        rw [e4, e7, e8] at c3
        rw [e6] at gi
        rw [e8] at lk2
        rw [e4]
        generalize ((binN (n + 1) i : Nat) : Int) = cI at *
        refine Means.go progOK hJX [.tk true, .call (.v (.agg 43 (.agg [.agg [.bool b5, .list l5], .agg [.bool k5, .list m5]]))) [] [], .call (.v (.agg 43 (.agg [.agg [.bool b7, .list l7], .agg [.bool k7, .list m7]]))) [] [], .call (.v (.agg 43 (.agg [.agg [.bool b8, .list l8], .agg [.bool k8, .list m8]]))) [] []] 400 fun L Z hL hZ => ?_
        conv => cbv
        subst hL hZ
        dsimp only [std, deep]
        rw [show iI.toNat = i by omega, gq, gi, show (D.int cI).toInt = cI from rfl]
        repeat' first | exact trivial | exact c1 | exact c2 | exact c3 | omega | (simp; omega) | refine And.intro ?_ ?_
        exact lk2.to rfl rfl rfl ⟨rfl, rfl, rfl, rfl, rfl, (by rw [wrap64 _ (by omega) (by omega)]; omega), trivial⟩ ⟨rfl, rfl, trivial⟩
      · have hin : i = n := by omega
        rw [hin, e1]
        refine Means.go progOK hJX [.tk false, .call (.v (.agg 43 (.agg [.agg [.bool b2, .list l2], .agg [.bool k2, .list m2]]))) [] [], .call (.v (.agg 43 (.agg [.agg [.bool b3, .list l3], .agg [.bool k3, .list m3]]))) [] [], .call (.tup [.v (.agg 43 (.agg [.agg [.bool bn, .list ln], .agg [.bool kn, .list mn]])), .v (.bool true)]) [] [], .before 16 .hid 5, .before 16 .hid 8, .before 16 (.mv 51) 51] 400 fun L Z hL hZ => ?_
        conv => cbv
        subst hL hZ
        dsimp only [std, deep]
        rw [wn1]
        repeat' first | exact trivial | exact cN | exact cW | exact cQ | omega | (simp only [List.length_cons, List.length_nil]; omega) | (simp; omega) | (simp; done) | refine And.intro ?_ ?_
        exact lk.to rfl rfl rfl ⟨rfl, rfl, trivial⟩ ⟨rfl, trivial⟩
    · dsimp only [cond_false, cond_true]
      refine Means.go progOK hJX [.tk true, .call (.v (.agg 43 (.agg [.agg [.bool bz, .list lz], .agg [.bool kz, .list mz]]))) [] [], .call (.v (.imm 2 false Rw)) [] []] 400 fun L Z hL hZ => ?_
      conv => cbv
      subst hL hZ
      dsimp only [std, deep]
      rw [wn1, show List.take (nI - 0).toNat (List.drop (Int.toNat 0) Rw) = Q by rw [← hQ, show (nI - 0).toNat = n by omega]; rfl]
      refine ⟨by simp; omega, hw0, trivial, hro, by omega, by omega, by omega, ?_⟩
      refine Means.begin (α := Nat) (fun i => [(5, boxed 43 (ratD (berS n i)))])
        (fun i => [(0, .int .i64 kI), (3, .imm 43 true E), (4, .int .i64 nI), (5, .addr 5 0 0 [] 43), (22, .imm 2 false Q), (23, .int .i64 nI), (24, .int .i64 i)]) (fun i => i ≤ n) (fun i => n - i) 0 rfl rfl rfl
        ⟨rfl, rfl, rfl, rfl, rfl, (by omega), rfl, trivial⟩ ⟨(by show _ = [ratD (berS n 0)]; rw [hs0, ez]), trivial⟩ (Nat.zero_le _) ?_
      intro i hi ih2
      obtain ⟨iI, hiI⟩ : ∃ r : Int, (i : Int) = r := ⟨_, rfl⟩
      rw [hiI]
      rcases Nat.lt_or_ge i n with hlt2 | hge2
      · have gi := gE i hlt2
        have nki := fun K => nk i K hlt2
        have gq := gR i hlt2
        have ib := binN_i64 (n := n + 1) (i := i) (by omega) (by omega)
        have sb := SzR.i64 ib
        have sB := berB_sz (i := i) (by omega)
        have c1 := bwhole_ok _ ib
        have c2 := mul_rat _ _ (sb.mono (show 2 ≤ 100000000000 by decide)) (sB.mono (show 1 ≤ 100000000000 by decide))
        have c3 := add_rat (berS n i) ((((binN (n + 1) i : Nat) : Int) : Rat) * berB i) ((sS i hi).mono (by omega)) ((sb.mul sB (by decide)).mono (by decide))
        have e9 : berS n i + (((binN (n + 1) i : Nat) : Int) : Rat) * berB i = berS n (i + 1) := rfl
        rw [e9] at c3
        have lk2 := ih2 (i + 1) hlt2 (by omega)
        obtain ⟨b4, l4, k4, m4, e4⟩ := ratD_ex (berS n i)
        obtain ⟨b5, l5, k5, m5, e5⟩ := ratD_ex (((binN (n + 1) i : Nat) : Int) : Rat)
        obtain ⟨b6, l6, k6, m6, e6⟩ := ratD_ex (berB i)
        obtain ⟨b7, l7, k7, m7, e7⟩ := ratD_ex ((((binN (n + 1) i : Nat) : Int) : Rat) * berB i)
        obtain ⟨b8, l8, k8, m8, e8⟩ := ratD_ex (berS n (i + 1))
        rw [e5] at c1
        rw [e5, e6, e7] at c2
        rw [e4, e7, e8] at c3
        rw [e6] at gi
        rw [e8] at lk2
        rw [e4]
        generalize ((binN (n + 1) i : Nat) : Int) = cI at *
        refine Means.go progOK hJX [.tk true, .call (.v (.agg 43 (.agg [.agg [.bool b5, .list l5], .agg [.bool k5, .list m5]]))) [] [], .call (.v (.agg 43 (.agg [.agg [.bool b7, .list l7], .agg [.bool k7, .list m7]]))) [] [], .call (.v (.agg 43 (.agg [.agg [.bool b8, .list l8], .agg [.bool k8, .list m8]]))) [] []] 400 fun L Z hL hZ => ?_
        conv => cbv
        subst hL hZ
        dsimp only [std, deep]
        rw [show iI.toNat = i by omega, gq, gi, show (D.int cI).toInt = cI from rfl]
        repeat' first | exact trivial | exact c1 | exact c2 | exact c3 | omega | (simp; omega) | refine And.intro ?_ ?_
        exact lk2.to rfl rfl rfl ⟨rfl, rfl, rfl, rfl, rfl, rfl, (by rw [wrap64 _ (by omega) (by omega)]; omega), trivial⟩ ⟨rfl, trivial⟩
      · have hin : i = n := by omega
        rw [hin, e1]
        refine Means.go progOK hJX [.tk false, .call (.v (.agg 43 (.agg [.agg [.bool b2, .list l2], .agg [.bool k2, .list m2]]))) [] [], .call (.v (.agg 43 (.agg [.agg [.bool b3, .list l3], .agg [.bool k3, .list m3]]))) [] [], .call (.tup [.v (.agg 43 (.agg [.agg [.bool bn, .list ln], .agg [.bool kn, .list mn]])), .v (.bool true)]) [] [], .before 16 .hid 5, .before 16 .hid 8] 400 fun L Z hL hZ => ?_
        conv => cbv
        subst hL hZ
        dsimp only [std, deep]
        rw [wn1]
        repeat' first | exact trivial | exact cN | exact cW | exact cQ | omega | (simp only [List.length_cons, List.length_nil]; omega) | (simp; omega) | (simp; done) | refine And.intro ?_ ?_
        exact lk.to rfl rfl rfl ⟨rfl, rfl, trivial⟩ ⟨rfl, trivial⟩
end Go.VI

namespace Go.VI
open Go.Proofs
set_option maxRecDepth 20000

theorem strip_exp (d : Nat) : ∀ f n e, (strip d f n e).2 ≤ e + f
  | 0, _, _ => Nat.le_refl _
  | f + 1, n, e => by
    unfold strip
    split
    · have := strip_exp d f (n / d) (e + 1); omega
    · dsimp only; omega
theorem facGo_mem : ∀ f n d, 2 ≤ d → ∀ p ∈ facGo f n d, 2 ≤ p.1 ∧ p.1 ≤ n ∧ p.2 ≤ 32
  | 0, _, _, _, p, hp => by simp [facGo] at hp
  | f + 1, n, d, hd, p, hp => by
    unfold facGo at hp
    split at hp
    · simp at hp
    · split at hp
      · simp only [List.mem_cons, List.not_mem_nil, or_false] at hp
        subst hp
        exact ⟨by dsimp only; omega, Nat.le_refl _, by dsimp only; omega⟩
      · rename_i h1 h2
        have hdd : d ≤ d * d := Nat.le_mul_of_pos_left d (by omega)
        split at hp
        · simp only [List.mem_cons] at hp
          rcases hp with rfl | hp
          · have := strip_exp d 32 n 0
            exact ⟨hd, by dsimp only; omega, by dsimp only; omega⟩
          · have := facGo_mem f _ d hd p hp
            have := strip_le d 32 n 0
            omega
        · exact facGo_mem f n (d + 1) (by omega) p hp
theorem facGo_len : ∀ f n d, (facGo f n d).length ≤ f
  | 0, _, _ => by simp [facGo]
  | f + 1, n, d => by
    unfold facGo
    split
    · simp
    · split
      · simp
      · split
        · have := facGo_len f (strip d 32 n 0).1 d
          rw [List.length_cons]; omega
        · have := facGo_len f n (d + 1); omega
theorem facL_mem {n : Nat} {p : Nat × Nat} (h : p ∈ facL n) : 2 ≤ p.1 ∧ p.1 ≤ n ∧ p.2 ≤ 32 := facGo_mem _ _ _ (Nat.le_refl _) p h

def kroGo (a : Int) : List (Nat × Nat) → Int → Int
  | [], s => s
  | p :: l, s => if symI a p.1 = 0 then 0 else kroGo a l (if p.2 % 2 = 1 then s * symI a p.1 else s)
/-- The Kronecker symbol over a number above 0. -/
def kroI (a : Int) (n : Nat) : Int := kroGo a (facL n) 1
theorem symI_small (a m : Int) : -1 ≤ symI a m ∧ symI a m ≤ 1 := by
  unfold symI symTwo symOdd
  split
  · split
    · omega
    · split <;> omega
  · split
    · omega
    · split <;> omega
theorem drop_cons {α : Type} {l : List α} {i : Nat} (h : i < l.length) : l.drop i = l[i] :: l.drop (i + 1) := List.drop_eq_getElem_cons h
theorem getD_map {α : Type} {l : List α} {f : α → D} {i : Nat} (h : i < l.length) : (l.map f).getD i .nil = f l[i] := by simp [List.getD_eq_getElem?_getD, h]

set_option maxHeartbeats 2000000 in
theorem kro_ok (a : Int) (n : Nat) (ha1 : -2147483647 ≤ a) (ha2 : a ≤ 2147483647) (h1 : 1 ≤ n) (h2 : n ≤ 2147483647) :
    Ok Tryz.prog tab 66 [.int .i64 a, .int .i64 n] [] (.tup [.v (.int .i64 (kroI a n)), .v (.int .i64 0)]) [] := by
  have hb1 := beyond_ok a ha1 ha2
  have hb2 := beyond_ok n (by omega) (by omega)
  have hf := factor_num_ok n h1 h2
  have hm : ∀ p ∈ facL n, 2 ≤ p.1 ∧ p.1 ≤ n ∧ p.2 ≤ 32 := fun p hp => facL_mem hp
  have hlen : (facL n).length ≤ n + 46342 := facGo_len _ _ _
  obtain ⟨rz, hrz⟩ : ∃ z, kroI a n = z := ⟨_, rfl⟩
  have hr0 := hrz
  unfold kroI at hrz
  obtain ⟨R, hR⟩ : ∃ z, facL n = z := ⟨_, rfl⟩
  rw [hR] at hf hrz hm hlen
  have lR : (R.map ppD).length = R.length := by simp
  have gR : ∀ i (h : i < R.length), (R.map ppD).getD i .nil = .agg [.int (R[i].1 : Int), .int (R[i].2 : Int)] := fun i h => getD_map h
  obtain ⟨S, hS⟩ : ∃ z, R.map ppD = z := ⟨_, rfl⟩
  obtain ⟨ni, hni⟩ : ∃ z : Int, (n : Int) = z := ⟨_, rfl⟩
  rw [hS] at hf lR gR
  rw [hni] at hf hb2
  rw [hr0, hni]
  refine Ok.go progOK [] [.call (.v (.bool false)) [] [], .call (.v (.bool false)) [] [], .tk false, .tk false, .tk false, .call (.tup [.v (.imm 79 false S), .v (.int .i64 0)]) [] []] 400 Tryz.func66 rfl rfl rfl fun J hJX L Z hL hZ => ?_
  conv => cbv
  subst hL hZ
  dsimp only [std, deep]
  refine ⟨hb1, fun h => by simp at h, fun _ => ⟨hb2, trivial, by simp; omega, by simp; omega, hf, ?_⟩⟩
  obtain ⟨ri, hri⟩ : ∃ z : Int, (S.length : Int) = z := ⟨_, rfl⟩
  refine Means.begin (α := Nat × Int) (fun _ => []) (fun s => [(0, .int .i64 a), (6, .int .i64 s.2), (37, .imm 79 false S), (38, .int .i64 ri), (39, .int .i64 s.1)]) (fun s => s.1 ≤ R.length ∧ -1 ≤ s.2 ∧ s.2 ≤ 1 ∧ kroGo a (R.drop s.1) s.2 = rz) (fun s => R.length - s.1) (0, 1) rfl rfl rfl
    ⟨rfl, rfl, rfl, hri, rfl, trivial⟩ trivial ⟨Nat.zero_le _, by dsimp only; omega, by dsimp only; omega, hrz⟩ ?_
  rintro ⟨i, s⟩ ⟨hi, hs1, hs2, hgo⟩ ih
  dsimp only at hi hs1 hs2 hgo ih ⊢
  obtain ⟨ii, hii⟩ : ∃ r : Int, (i : Int) = r := ⟨_, rfl⟩
  rw [hii]
  rcases Nat.lt_or_ge i R.length with hlt | hge
  · have gi := gR i hlt
    have hme := hm R[i] (List.getElem_mem hlt)
    rw [drop_cons hlt, kroGo] at hgo
    generalize R[i] = p at *
    obtain ⟨q, e⟩ := p
    dsimp only at gi hme hgo
    have hsy := symbol_ok a q (by omega) (by omega) (by omega)
    have hsm := symI_small a q
    obtain ⟨sk, hsk⟩ : ∃ z, symI a q = z := ⟨_, rfl⟩
    obtain ⟨qi, hqi⟩ : ∃ z : Int, (q : Int) = z := ⟨_, rfl⟩
    obtain ⟨ei, hei⟩ : ∃ z : Int, (e : Int) = z := ⟨_, rfl⟩
    rw [hqi] at hsk
    rw [hqi, hsk] at hsy hsm hgo
    rw [hqi, hei] at gi
    have v1 : ei.tmod 2 = ((e % 2 : Nat) : Int) := by rw [← hei]; exact (Int.ofNat_tmod e 2).symm
    refine Means.go progOK hJX [.tk true, .call (.v (.int .i64 sk)) [] [], .fork [] [.fork [.before 56 .hid 10] [.before 56 .hid 10]]] 400 fun L Z hL hZ => ?_
    conv => cbv
    subst hL hZ
    dsimp only [std, deep]
    rw [show ii.toNat = i by omega, gi, show ((D.agg [D.int qi, D.int ei]).kid 0).toInt = qi from rfl, show ((D.agg [D.int qi, D.int ei]).kid 1).toInt = ei from rfl, v1]
    have hsb : -1 ≤ s * sk ∧ s * sk ≤ 1 := by
      rcases (show s = -1 ∨ s = 0 ∨ s = 1 by omega) with rfl | rfl | rfl <;> omega
    refine ⟨by simp; omega, by omega, by omega, trivial, hsy, fun h => ?_, fun h => ⟨by decide, fun h' => ?_, fun h' => ?_⟩⟩ <;> simp only [beq_iff_eq, beq_eq_false_iff_ne, ne_eq] at h <;> try simp only [beq_iff_eq, beq_eq_false_iff_ne, ne_eq] at h'
    · rw [if_pos h] at hgo
      exact ⟨hgo, trivial, trivial⟩
    · rw [if_neg h, if_pos (by omega)] at hgo
      exact (ih (i + 1, s * sk) ⟨by dsimp only; omega, hsb.1, hsb.2, hgo⟩ (by dsimp only; omega)).to rfl rfl rfl ⟨rfl, wrap64 _ (by omega) (by omega), rfl, rfl, (by rw [wrap64 (ii + 1) (by omega) (by omega)]; dsimp only; omega), trivial⟩ trivial
    · rw [if_neg h, if_neg (by omega)] at hgo
      exact (ih (i + 1, s) ⟨by dsimp only; omega, hs1, hs2, hgo⟩ (by dsimp only; omega)).to rfl rfl rfl ⟨rfl, rfl, rfl, rfl, (by rw [wrap64 (ii + 1) (by omega) (by omega)]; dsimp only; omega), trivial⟩ trivial
  · rw [List.drop_eq_nil_of_le hge, kroGo] at hgo
    refine Means.go progOK hJX [.tk false] 400 fun L Z hL hZ => ?_
    conv => cbv
    subst hL hZ
    dsimp only [std, deep]
    exact ⟨by simp; omega, hgo, trivial, trivial⟩


end Go.VI

namespace Go.VI
open Go.Proofs
set_option maxRecDepth 20000

/-- The product of prime powers. -/
def prodP : List (Nat × Nat) → Nat
  | [] => 1
  | p :: l => p.1 ^ p.2 * prodP l
theorem strip_mul {d : Nat} : ∀ f n e, n * d ^ e = (strip d f n e).1 * d ^ (strip d f n e).2
  | 0, _, _ => rfl
  | f + 1, n, e => by
    unfold strip
    split
    · rename_i h
      rw [← strip_mul f (n / d) (e + 1), Nat.pow_succ, Nat.mul_comm (d ^ e), ← Nat.mul_assoc, Nat.div_mul_cancel (Nat.dvd_of_mod_eq_zero h)]
    · rfl
theorem strip_lt {d n : Nat} (hd : 2 ≤ d) (hn : 1 ≤ n) (h : n % d = 0) : (strip d 32 n 0).1 < n := by
  rw [strip, if_pos h]
  exact Nat.lt_of_le_of_lt (strip_le d 31 _ _) (Nat.div_lt_self (by omega) (by omega))
theorem facGo_prod : ∀ f n d, 2 ≤ d → 1 ≤ n → n + 46344 ≤ f + d → n ≤ 2147483647 → d ≤ 46342 → prodP (facGo f n d) = n
  | 0, n, d, hd, hn, hf, hb, hd2 => by omega
  | f + 1, n, d, hd, hn, hf, hb, hd2 => by
    unfold facGo
    split
    · rw [prodP]; omega
    · split
      · rw [prodP, prodP, Nat.pow_one, Nat.mul_one]
      · split
        · rename_i h1 h2 h3
          have hlt := strip_lt hd hn h3
          have := strip_pos hd 32 n 0 hn
          have hm := strip_mul (d := d) 32 n 0
          rw [Nat.pow_zero, Nat.mul_one] at hm
          rw [prodP, facGo_prod f _ d hd this (by omega) (by omega) hd2]
          dsimp only
          rw [Nat.mul_comm]; exact hm.symm
        · rename_i h1 h2 h3
          have : d ≤ 46340 := Classical.byContradiction fun hh => by
            have := Nat.mul_le_mul (show 46341 ≤ d by omega) (show 46341 ≤ d by omega)
            omega
          exact facGo_prod f n (d + 1) (by omega) hn (by omega) hb (by omega)
theorem facL_prod {n : Nat} (h1 : 1 ≤ n) (h2 : n ≤ 2147483647) : prodP (facL n) = n := facGo_prod _ _ _ (Nat.le_refl _) h1 (by omega) h2 (by decide)

theorem prodP_pos : ∀ {l : List (Nat × Nat)}, (∀ p ∈ l, 2 ≤ p.1) → 1 ≤ prodP l
  | [], _ => Nat.le_refl _
  | p :: l, h => by
    rw [prodP]
    exact Nat.mul_pos (Nat.pow_pos (by have := h p (by simp); omega)) (prodP_pos fun q hq => h q (by simp [hq]))

def sqGo : List (Nat × Nat) → Int → Int → Int × Int
  | [], s, r => (s, r)
  | p :: l, s, r => sqGo l (if p.2 % 2 = 1 then s * p.1 else s) (r * (p.1 : Int) ^ (p.2 / 2))
def sqI (n : Int) : Int × Int := sqGo (facL n.natAbs) (if n < 0 then -1 else 1) 1
/-- The discriminant of the field of the root of n. -/
def discI (n : Int) : Int := if (sqI n).1 % 4 = 1 then (sqI n).1 else 4 * (sqI n).1

set_option maxHeartbeats 2000000 in
theorem sqfree_ok (n : Int) (h0 : n ≠ 0) (h1 : -2147483647 ≤ n) (h2 : n ≤ 2147483647) :
    Ok Tryz.prog tab 130 [.int .i64 n] [] (.tup [.v (.int .i64 (sqI n).1), .v (.int .i64 (sqI n).2), .v (.int .i64 0)]) [] := by
  have hb1 := beyond_ok n h1 h2
  have hf := factor_num_ok n.natAbs (by omega) (by omega)
  have hm : ∀ p ∈ facL n.natAbs, 2 ≤ p.1 ∧ p.1 ≤ n.natAbs ∧ p.2 ≤ 32 := fun p hp => facL_mem hp
  have hlen : (facL n.natAbs).length ≤ n.natAbs + 46342 := facGo_len _ _ _
  have hpr := facL_prod (n := n.natAbs) (by omega) (by omega)
  obtain ⟨rs, hrs⟩ : ∃ z, (sqI n).1 = z := ⟨_, rfl⟩
  obtain ⟨rr, hrr⟩ : ∃ z, (sqI n).2 = z := ⟨_, rfl⟩
  rw [hrs, hrr]
  unfold sqI at hrs hrr
  obtain ⟨R, hR⟩ : ∃ z, facL n.natAbs = z := ⟨_, rfl⟩
  rw [hR] at hf hrs hrr hm hlen hpr
  have lR : (R.map ppD).length = R.length := by simp
  have gR : ∀ i (h : i < R.length), (R.map ppD).getD i .nil = .agg [.int (R[i].1 : Int), .int (R[i].2 : Int)] := fun i h => getD_map h
  obtain ⟨S, hS⟩ : ∃ z, R.map ppD = z := ⟨_, rfl⟩
  obtain ⟨ni, hni⟩ : ∃ z : Int, (n.natAbs : Int) = z := ⟨_, rfl⟩
  rw [hS] at hf lR gR
  rw [hni] at hf
  obtain ⟨ri, hri⟩ : ∃ z : Int, (S.length : Int) = z := ⟨_, rfl⟩
  refine Ok.go progOK [] [.call (.v (.bool false)) [] [], .tk false, .fork [.call (.tup [.v (.imm 79 false S), .v (.int .i64 0)]) [] []] [.call (.tup [.v (.imm 79 false S), .v (.int .i64 0)]) [] []]] 400 Tryz.func130 rfl rfl rfl fun J hJX L Z hL hZ => ?_
  conv => cbv
  subst hL hZ
  dsimp only [std, deep]
  obtain ⟨s0, hs0⟩ : ∃ s : Int, (if n < 0 then -1 else 1 : Int) = s := ⟨_, rfl⟩
  rw [hs0] at hrs hrr
  have hsr : sqGo R s0 1 = (rs, rr) := by rw [← hrs, ← hrr]
  have hs1 : s0.natAbs = 1 := by rw [← hs0]; split <;> rfl
  have hf' : decide (n < 0) = true → IntKind.i64.wrap (0 - n) = ni := fun h => by
    simp only [decide_eq_true_eq] at h
    rw [wrap64 _ (by omega) (by omega)]; omega
  refine ⟨fun h => absurd h (by simp; omega), fun _ => ⟨hb1, trivial, fun h => ⟨by rw [hf' h]; exact hf, ?_⟩, fun h => ⟨by simp only [decide_eq_false_iff_not] at h; rw [show n = ni by omega]; exact hf, ?_⟩⟩⟩
  all_goals
    refine Means.begin (α := Nat × Int × Nat) (fun _ => []) (fun s => [(5, .int .i64 s.2.1), (6, .int .i64 (s.2.2 : Nat)), (27, .imm 79 false S), (28, .int .i64 ri), (29, .int .i64 (s.1 : Nat))])
      (fun s => s.1 ≤ R.length ∧ 1 ≤ s.2.1.natAbs ∧ 1 ≤ s.2.2 ∧ s.2.1.natAbs * (s.2.2 * s.2.2) * prodP (R.drop s.1) ≤ 2147483647 ∧ sqGo (R.drop s.1) s.2.1 (s.2.2 : Nat) = (rs, rr)) (fun s => R.length - s.1) (0, s0, 1) rfl rfl rfl
      ⟨(by rw [← hs0]; simp only [decide_eq_true_eq, decide_eq_false_iff_not] at h; simp [h]), rfl, rfl, hri, rfl, trivial⟩ trivial ⟨Nat.zero_le _, by dsimp only; omega, Nat.le_refl _, by dsimp only; rw [hs1, List.drop_zero, hpr]; omega, hsr⟩ ?_
    rintro ⟨i, s, r⟩ ⟨hi, hs1, hr1, hb, hgo⟩ ih
    dsimp only at hi hs1 hr1 hb hgo ih ⊢
    obtain ⟨ii, hii⟩ : ∃ r : Int, (i : Int) = r := ⟨_, rfl⟩
    rcases Nat.lt_or_ge i R.length with hlt | hge
    · have gi := gR i hlt
      have hme := hm R[i] (List.getElem_mem hlt)
      have hpos : 1 ≤ prodP (R.drop (i + 1)) := prodP_pos fun p hp => (hm p (List.mem_of_mem_drop hp)).1
      rw [drop_cons hlt, sqGo] at hgo
      rw [drop_cons hlt, prodP] at hb
      generalize R[i] = p at *
      obtain ⟨q, e⟩ := p
      dsimp only at gi hme hgo hb
      obtain ⟨P', hP'⟩ : ∃ z, prodP (R.drop (i + 1)) = z := ⟨_, rfl⟩
      obtain ⟨s', hs'⟩ : ∃ z, (if e % 2 = 1 then s * (q : Int) else s) = z := ⟨_, rfl⟩
      obtain ⟨r', hr'⟩ : ∃ z, r * q ^ (e / 2) = z := ⟨_, rfl⟩
      rw [hP'] at hb hpos
      rw [hs', show (r : Int) * (q : Int) ^ (e / 2) = ((r' : Nat) : Int) by rw [← hr', Int.natCast_mul, Int.natCast_pow]] at hgo
      have hb' : s'.natAbs * (r' * r') * P' ≤ 2147483647 := by
        have e1 : s'.natAbs * (r' * r') * P' = s.natAbs * (r * r) * (q ^ e * P') := by
          have e2 : s'.natAbs = s.natAbs * q ^ (e % 2) := by
            rw [← hs']
            split
            · rename_i h'; rw [h', Nat.pow_one, Int.natAbs_mul, Int.natAbs_natCast]
            · rename_i h'; rw [show e % 2 = 0 by omega, Nat.pow_zero, Nat.mul_one]
          have e3 : q ^ e = q ^ (e % 2) * (q ^ (e / 2) * q ^ (e / 2)) := by
            rw [← Nat.pow_add, ← Nat.pow_add]; congr 1; omega
          rw [e2, e3, ← hr']
          simp only [Nat.mul_assoc, Nat.mul_left_comm, Nat.mul_comm]
        rw [e1]; exact hb
      have hr1' : 1 ≤ r' := by rw [← hr']; exact Nat.mul_pos hr1 (Nat.pow_pos (by omega))
      have hs1' : 1 ≤ s'.natAbs := by
        rw [← hs']
        split
        · rw [Int.natAbs_mul, Int.natAbs_natCast]; exact Nat.mul_pos hs1 (by omega)
        · exact hs1
      have hrr2 : r' * r' ≤ 2147483647 := Nat.le_trans (Nat.le_trans (Nat.le_mul_of_pos_left _ hs1') (Nat.le_mul_of_pos_right _ hpos)) hb'
      have hr2 : r' ≤ 46340 := Classical.byContradiction fun hh => by
        have := Nat.mul_le_mul (show 46341 ≤ r' by omega) (show 46341 ≤ r' by omega)
        omega
      have hs2 : s'.natAbs ≤ 2147483647 := Nat.le_trans (Nat.le_trans (Nat.le_mul_of_pos_right _ (Nat.mul_pos hr1' hr1')) (Nat.le_mul_of_pos_right _ hpos)) hb'
      obtain ⟨qi, hqi⟩ : ∃ z : Int, (q : Int) = z := ⟨_, rfl⟩
      obtain ⟨ei, hei⟩ : ∃ z : Int, (e : Int) = z := ⟨_, rfl⟩
      obtain ⟨rI, hrI⟩ : ∃ z : Int, (r : Int) = z := ⟨_, rfl⟩
      rw [hqi, hei] at gi
      rw [hqi] at hs'
      rw [hii, hrI]
      have v1 : ei.tmod 2 = ((e % 2 : Nat) : Int) := by rw [← hei]; exact (Int.ofNat_tmod e 2).symm
      have v2 : ei.tdiv 2 = ((e / 2 : Nat) : Int) := by rw [← hei]; exact (Int.ofNat_tdiv e 2).symm
      refine Means.go progOK hJX [.tk true, .fork [] []] 400 fun L Z hL hZ => ?_
      conv => cbv
      subst hL hZ
      dsimp only [std, deep]
      rw [show ii.toNat = i by omega, gi, show ((D.agg [D.int qi, D.int ei]).kid 0).toInt = qi from rfl, show ((D.agg [D.int qi, D.int ei]).kid 1).toInt = ei from rfl, v1]
      refine ⟨by simp; omega, by omega, by omega, trivial, by decide, fun h => ?_, fun h => ?_⟩ <;> simp only [beq_iff_eq, beq_eq_false_iff_ne, ne_eq] at h
      all_goals
        refine Means.begin (α := Nat) (fun _ => [(10, boxed 79 (.agg [.int qi, .int ei]))]) (fun k => [(5, .int .i64 s'), (6, .int .i64 ((r * q ^ k : Nat) : Int)), (10, .addr 10 0 0 [] 79), (11, .int .i64 k), (27, .imm 79 false S), (28, .int .i64 ri), (29, .int .i64 ii)])
          (fun k => k ≤ e / 2) (fun k => e / 2 - k) 0 rfl rfl rfl
          ⟨(by first | (rw [if_pos (by omega)] at hs'; rw [hs', wrap64 _ (by omega) (by omega)]) | (rw [if_neg (by omega)] at hs'; exact hs')), (by rw [Nat.pow_zero, Nat.mul_one]; exact hrI.symm), rfl, rfl, rfl, rfl, rfl, trivial⟩ ⟨rfl, trivial⟩ (Nat.zero_le _) ?_
        intro k hk ih2
        have hx : r * q ^ k ≤ r' := by rw [← hr']; exact Nat.mul_le_mul_left _ (Nat.pow_le_pow_right (by omega) hk)
        have hx1 : r * q ^ (k + 1) = r * q ^ k * q := by rw [Nat.pow_succ, Nat.mul_assoc]
        have ih3 := fun h' h'' => ih2 (k + 1) h' h''
        rw [hx1] at ih3
        have hx2 : k < e / 2 → r * q ^ k * q ≤ r' := fun h => by rw [← hx1, ← hr']; exact Nat.mul_le_mul_left _ (Nat.pow_le_pow_right (by omega) h)
        have hxe : k = e / 2 → r * q ^ k = r' := fun h => by rw [h, hr']
        generalize r * q ^ k = x at *
        obtain ⟨xi, hxi⟩ : ∃ z : Int, (x : Int) = z := ⟨_, rfl⟩
        obtain ⟨ki, hki⟩ : ∃ z : Int, (k : Int) = z := ⟨_, rfl⟩
        rw [hxi, hki]
        refine Means.go progOK hJX [.fork [] [.before 52 .hid 10]] 400 fun L Z hL hZ => ?_
        conv => cbv
        subst hL hZ
        dsimp only [std, deep]
        rw [v2, wrapN (show e / 2 ≤ 9223372036854775807 by omega)]
        refine ⟨by decide, fun h9 => ?_, fun h9 => ?_⟩ <;> simp only [decide_eq_true_eq, decide_eq_false_iff_not] at h9
        · have := hx2 (by omega)
          refine (ih3 (by omega) (by omega)).to rfl rfl rfl ⟨rfl, ?_, rfl, (by rw [wrap64 (ki + 1) (by omega) (by omega)]; omega), rfl, rfl, rfl, trivial⟩ ⟨rfl, trivial⟩
          rw [← hxi, ← hqi, ← Int.natCast_mul]; exact wrapN (by omega)
        · have := hxe (by omega)
          exact (ih (i + 1, s', r') ⟨by dsimp only; omega, hs1', hr1', by dsimp only; rw [hP']; exact hb', hgo⟩ (by dsimp only; omega)).to rfl rfl rfl ⟨rfl, (by rw [← hxi, this]), rfl, rfl, (by rw [wrap64 (ii + 1) (by omega) (by omega)]; dsimp only; omega), trivial⟩ trivial
    · rw [List.drop_eq_nil_of_le hge, sqGo] at hgo
      rw [hii]
      obtain ⟨rI, hrI⟩ : ∃ z : Int, (r : Int) = z := ⟨_, rfl⟩
      rw [hrI] at hgo ⊢
      simp only [Prod.mk.injEq] at hgo
      refine Means.go progOK hJX [.tk false] 400 fun L Z hL hZ => ?_
      conv => cbv
      subst hL hZ
      dsimp only [std, deep]
      exact ⟨by simp; omega, hgo.1, hgo.2, trivial, trivial⟩

theorem disc_ok (n : Int) (h0 : n ≠ 0) (h1 : -500000000 ≤ n) (h2 : n ≤ 500000000) (hs : -500000000 ≤ (sqI n).1 ∧ (sqI n).1 ≤ 500000000) :
    Ok Tryz.prog tab 58 [.int .i64 n] [] (.tup [.v (.int .i64 (discI n)), .v (.int .i64 0)]) [] := by
  have hq := sqfree_ok n h0 (by omega) (by omega)
  have hr := residue_ok (sqI n).1 4 (by decide) (by decide)
  obtain ⟨rz, hrz⟩ : ∃ z, discI n = z := ⟨_, rfl⟩
  rw [hrz]
  unfold discI at hrz
  generalize (sqI n).1 = s at *
  generalize (sqI n).2 = r at *
  generalize s % 4 = t at *
  refine Ok.go progOK [] [.call (.tup [.v (.int .i64 s), .v (.int .i64 r), .v (.int .i64 0)]) [] [], .tk false, .call (.v (.int .i64 t)) [] [], .both] 400 Tryz.func58 rfl rfl rfl fun J hJX L Z hL hZ => ?_
  conv => cbv
  subst hL hZ
  dsimp only [std, deep]
  refine ⟨hq, rfl, hr, fun h => ⟨?_, trivial, trivial⟩, fun h => ⟨?_, trivial, trivial⟩⟩ <;> simp only [beq_iff_eq, beq_eq_false_iff_ne, ne_eq] at h
  · rw [if_pos h] at hrz; exact hrz
  · rw [if_neg h] at hrz; rw [wrap64 _ (by omega) (by omega)]; exact hrz
end Go.VI

namespace Go.VI
open Go.Proofs
set_option maxRecDepth 20000

theorem number_ok (k : Nat) (hk : k ≤ 20) : Ok Tryz.prog tab 64 [.int .i64 k] [] (.tup [.v (.agg 43 (ratD (berB k))), .v (.int .i64 0)]) [] := by
  have h1 := numbers_ok k hk
  have lL := berL_length k
  have gL := berL_get (k := k) (i := k) (by omega)
  generalize berL k = L0 at *
  obtain ⟨b, l, c, m, e⟩ := ratD_ex (berB k)
  rw [e] at gL ⊢
  obtain ⟨kI, hkI⟩ : ∃ z : Int, (k : Int) = z := ⟨_, rfl⟩
  rw [hkI] at h1 ⊢
  refine Ok.go progOK [] [.tk false, .call (.v (.imm 43 false L0)) [] []] 400 Tryz.func64 rfl rfl rfl fun J hJX L Z hL hZ => ?_
  conv => cbv
  subst hL hZ
  dsimp only [std, deep]
  rw [show kI.toNat = k by omega, gL]
  refine ⟨fun h => absurd h (by simp; omega), fun _ => ⟨by simp; omega, h1, by omega, by omega, trivial, ?_⟩⟩
  repeat' first | exact trivial | rfl | refine And.intro ?_ ?_

theorem fund_ok (d : Int) (h0 : d ≠ 0) (h1 : -40000 ≤ d) (h2 : d ≤ 40000) (hs : -500000000 ≤ (sqI d).1 ∧ (sqI d).1 ≤ 500000000) : Ok Tryz.prog tab 132 [.int .i64 d] [] (.v (.bool (decide (discI d = d)))) [] := by
  have c1 := disc_ok d h0 (by omega) (by omega) hs
  generalize discI d = f at *
  refine Ok.go progOK [] [.tk false, .call (.tup [.v (.int .i64 f), .v (.int .i64 0)]) [] []] 400 Tryz.func132 rfl rfl rfl fun J hJX L Z hL hZ => ?_
  conv => cbv
  subst hL hZ
  dsimp only [std, deep]
  refine ⟨fun h => absurd h (by simp; omega), fun _ => ⟨fun h => absurd h (by simp; omega), fun _ => ⟨by simp; omega, c1, ?_, trivial⟩⟩⟩
  by_cases h : f = d <;> simp [h]

theorem kroGo_small (a : Int) : ∀ l s, -1 ≤ s → s ≤ 1 → -1 ≤ kroGo a l s ∧ kroGo a l s ≤ 1
  | [], s, h1, h2 => ⟨h1, h2⟩
  | p :: l, s, h1, h2 => by
    unfold kroGo
    have hk := symI_small a p.1
    split
    · decide
    · refine kroGo_small a l _ ?_ ?_ <;>
      · split
        · generalize symI a p.1 = k at *
          rcases (show s = -1 ∨ s = 0 ∨ s = 1 by omega) with rfl | rfl | rfl <;> omega
        · assumption
theorem kroI_small (a : Int) (n : Nat) : -1 ≤ kroI a n ∧ kroI a n ≤ 1 := kroGo_small a _ 1 (by decide) (by decide)
/-- The sum of the a^j over a up to f, each with its character. -/
def chiS (d : Int) : Nat → Nat → Int
  | 0, _ => 0
  | a + 1, j => chiS d a j + kroI d (a + 1) * (((a + 1 : Nat) : Int)) ^ j
def genS (k : Nat) (d : Int) (f : Nat) : Nat → Rat
  | 0 => ((0 : Int) : Rat)
  | i + 1 => genS k d f i + ((((binN k i : Nat) : Int) : Rat) * berB i) * ((((f : Nat) : Int) : Rat) ^ ((i : Int) - 1) * ((chiS d f (k - i) : Int) : Rat))
theorem chiT_sz {d : Int} {a j : Nat} (ha : a < 40000) (hj : j ≤ 20) : Sz 45 (kroI d (a + 1) * (((a + 1 : Nat) : Int)) ^ j) := by
  have h1 := kroI_small d (a + 1)
  have h2 : Sz 2 (kroI d (a + 1)) := I64.sz ⟨by omega, by omega⟩
  have h3 : Sz 2 ((a + 1 : Nat) : Int) := I64.sz ⟨by omega, by omega⟩
  exact (h2.mul (h3.pow j)).mono (by omega)
theorem chiS_sz {d : Int} {j : Nat} (hj : j ≤ 20) : ∀ a, a ≤ 40000 → Sz (45 + a) (chiS d a j)
  | 0, _ => sz_zero
  | a + 1, ha => ((chiS_sz hj a (by omega)).add ((chiT_sz (show a < 40000 by omega) hj).mono (by omega))).mono (by omega)
theorem genT_sz {k f i : Nat} {d : Int} (hk : k ≤ 20) (hi : i ≤ k) (hf : f ≤ 40000) :
    SzR 50000 (((((binN k i : Nat) : Int) : Rat) * berB i) * ((((f : Nat) : Int) : Rat) ^ ((i : Int) - 1) * ((chiS d f (k - i) : Int) : Rat))) := by
  have h1 := (SzR.i64 (binN_i64 (n := k) (i := i) (by omega) (by omega))).mul (berB_sz (i := i) (by omega)) (by decide)
  have h2 : SzR 2 (((f : Nat) : Int) : Rat) := SzR.i64 ⟨by omega, by omega⟩
  have h3 := h2.zpow ((i : Int) - 1)
  have h4 := (SzR.int (chiS_sz (d := d) (j := k - i) (by omega) f hf) (by omega))
  exact (h1.mul (h3.mul h4 (by omega)) (by omega)).mono (by omega)
theorem genS_sz {k f : Nat} {d : Int} (hk : k ≤ 20) (hf : f ≤ 40000) : ∀ i, i ≤ k + 1 → SzR (50001 * i + 2) (genS k d f i)
  | 0, _ => SzR.i64 ⟨by decide, by decide⟩
  | i + 1, hi => ((genS_sz hk hf i (by omega)).add (genT_sz hk (show i ≤ k by omega) hf)).mono (by omega)
/-- The generalized Bernoulli number. -/
def genR (k : Nat) (d : Int) : Rat := genS k d d.natAbs (k + 1)

set_option maxHeartbeats 4000000 in
theorem gen_ok (k : Nat) (d : Int) (hk1 : 1 ≤ k) (hk2 : k ≤ 20) (h0 : d ≠ 0) (h1 : -40000 ≤ d) (h2 : d ≤ 40000) (hf : discI d = d) (hs : -500000000 ≤ (sqI d).1 ∧ (sqI d).1 ≤ 500000000) :
    Ok Tryz.prog tab 60 [.int .i64 k, .int .i64 d] [] (.tup [.v (.agg 43 (ratD (genR k d))), .v (.int .i64 0)]) [] := by
  have c1 := fund_ok d h0 h1 h2 hs
  rw [hf, decide_eq_true rfl] at c1
  have cnu := numbers_ok k hk2
  have cro := row_ok k (by omega)
  obtain ⟨bR, lR, kR, mR, eR⟩ := ratD_ex (genR k d)
  rw [eR]
  obtain ⟨f, hfa⟩ : ∃ f, d.natAbs = f := ⟨_, rfl⟩
  obtain ⟨fI, hfI⟩ : ∃ z : Int, (f : Int) = z := ⟨_, rfl⟩
  obtain ⟨kI, hkI⟩ : ∃ z : Int, (k : Int) = z := ⟨_, rfl⟩
  rw [hkI] at cnu cro ⊢
  have wf : decide (d < 0) = true → IntKind.i64.wrap (0 - d) = fI := fun h => by
    simp only [decide_eq_true_eq] at h
    rw [wrap64 _ (by omega) (by omega)]; omega
  have wk : IntKind.i64.wrap (kI + 1) = ((k + 1 : Nat) : Int) := by rw [wrap64 _ (by omega) (by omega)]; omega
  refine Ok.go progOK [(40, .mem 40 1)] [.call (.v (.bool true)) [] [], .tk false] 400 Tryz.func60 rfl rfl rfl fun J hJX L Z hL hZ => ?_
  conv => cbv
  subst hL hZ
  dsimp only [std, deep]
  refine ⟨fun h => absurd h (by simp; omega), fun _ => ⟨fun h => absurd h (by simp; omega), fun _ => ⟨c1, rfl, ?_⟩⟩⟩
  refine Means.ite (decide (d < 0)) [(4, boxed 43 (.agg [.agg [.bool false, .list []], .agg [.bool false, .list []]]))] [(0, .int .i64 kI), (1, .int .i64 d), (4, .addr 4 0 0 [] 43), (5, .int .i64 0), (6, .int .i64 fI)] rfl (fun h kk => ?_) (fun h kk => ?_) ?_
  · refine Means.weak (rl' := [(4, boxed 43 (.agg [.agg [.bool false, .list []], .agg [.bool false, .list []]]))]) (sl' := [(0, .int .i64 kI), (1, .int .i64 d), (4, .addr 4 0 0 [] 43), (5, .int .i64 0), (6, .int .i64 d)]) rfl rfl rfl
      ⟨rfl, rfl, rfl, rfl, rfl, trivial⟩ ⟨rfl, trivial⟩ ?_
    refine Means.go progOK hJX [.upto 1] 400 fun L Z hL hZ => ?_
    conv => cbv
    subst hL hZ
    dsimp only [std, deep]
    exact kk.to rfl rfl rfl ⟨rfl, rfl, rfl, rfl, wf h, trivial⟩ ⟨rfl, trivial⟩
  · refine Means.weak (rl' := [(4, boxed 43 (.agg [.agg [.bool false, .list []], .agg [.bool false, .list []]]))]) (sl' := [(0, .int .i64 kI), (1, .int .i64 d), (4, .addr 4 0 0 [] 43), (5, .int .i64 0), (6, .int .i64 d)]) rfl rfl rfl
      ⟨rfl, rfl, rfl, rfl, rfl, trivial⟩ ⟨rfl, trivial⟩ ?_
    refine Means.go progOK hJX [.upto 1] 400 fun L Z hL hZ => ?_
    conv => cbv
    subst hL hZ
    dsimp only [std, deep]
    exact kk.to rfl rfl rfl ⟨rfl, rfl, rfl, rfl, (by simp only [decide_eq_false_iff_not] at h; omega), trivial⟩ ⟨rfl, trivial⟩
  refine Means.go progOK hJX [] 400 fun L Z hL hZ => ?_
  conv => cbv
  subst hL hZ
  dsimp only [std, deep]
  rw [wk, Int.toNat_natCast]
  refine ⟨trivial, by omega, by omega, by omega, ?_⟩
  have hf40 : f ≤ 40000 := by omega
  refine Means.begin (α := Nat) (fun a => [(4, boxed 43 (.agg [.agg [.bool false, .list []], .agg [.bool false, .list []]])), (40, made 41 (rowF (k + 1) (fun _ j => chiS d a j) 0))])
    (fun a => [(0, .int .i64 kI), (1, .int .i64 d), (4, .addr 4 0 0 [] 43), (5, .int .i64 0), (6, .int .i64 fI), (7, .top 40 0), (8, .int .i64 ((a + 1 : Nat) : Int))]) (fun a => a ≤ f) (fun a => f - a) 0 rfl rfl rfl
    ⟨rfl, rfl, rfl, rfl, rfl, rfl, trivial⟩ ⟨rfl, (by
      apply List.ext_getElem
      · show (List.replicate _ _).length = (rowF _ _ _).length
        rw [List.length_replicate, rowF_length]
      · intro j h1 h2
        show (List.replicate _ _)[j] = (rowF _ _ _)[j]
        simp only [List.getElem_replicate, rowF, List.getElem_map, chiS, bigD_zero]), trivial⟩ (Nat.zero_le _) ?_
  intro a ha ih
  have lS := rowF_length (k + 1) (fun _ j => chiS d a j) 0
  have gS := fun (j : Nat) (h : j < k + 1) => rowF_get (n := k + 1) (fun _ j => chiS d a j) 0 h
  obtain ⟨aI, haI⟩ : ∃ z : Int, ((a + 1 : Nat) : Int) = z := ⟨_, rfl⟩
  rcases Nat.lt_or_ge a f with hlt | hge
  · have ck := kro_ok d (a + 1) (by omega) (by omega) (by omega) (by omega)
    have hks := kroI_small d (a + 1)
    have cx := small_ok aI (by omega) (by omega)
    have lk := ih (a + 1) hlt (by omega)
    have hch : ∀ j, chiS d (a + 1) j = chiS d a j + kroI d (a + 1) * aI ^ j := fun j => by rw [← haI]; rfl
    have hcz := fun j (hj : j ≤ 20) => chiT_sz (d := d) (show a < 40000 by omega) hj
    have hcs := fun j (hj : j ≤ 20) => chiS_sz (d := d) hj a (by omega)
    rw [haI] at ck hcz
    obtain ⟨ch, hche⟩ : ∃ z, kroI d (a + 1) = z := ⟨_, rfl⟩
    rw [hche] at ck hks hch hcz
    have cc := small_ok ch (by omega) (by omega)
    have eS0 : rowF (k + 1) (fun _ j => chiS d a j) 0 = rowF (k + 1) (fun _ b => if b < 0 then chiS d (a + 1) b else chiS d a b) 0 := rowF_congr fun j _ => by rw [if_neg (by omega)]
    have eSz : ch = 0 → rowF (k + 1) (fun _ j => chiS d a j) 0 = rowF (k + 1) (fun _ j => chiS d (a + 1) j) 0 := fun h => rowF_congr fun j _ => by rw [hch, h, Int.zero_mul, Int.add_zero]
    obtain ⟨S, hS⟩ : ∃ S, rowF (k + 1) (fun _ j => chiS d a j) 0 = S := ⟨_, rfl⟩
    rw [hS] at lS gS eS0 eSz
    rw [hS, haI]
    obtain ⟨bx, lx, ex⟩ := bigD_ex aI
    obtain ⟨bc, lc, ec⟩ := bigD_ex ch
    rw [ex] at cx
    rw [ec] at cc
    refine Means.go progOK hJX [.tk true, .call (.tup [.v (.int .i64 ch), .v (.int .i64 0)]) [] [], .fork [] [.call (.v (.agg 41 (.agg [.bool bx, .list lx]))) [] [], .call (.v (.agg 41 (.agg [.bool bc, .list lc]))) [] []]] 400 fun L Z hL hZ => ?_
    conv => cbv
    subst hL hZ
    dsimp only [std, deep]
    refine ⟨by simp; omega, ck, fun h => ?_, fun h => ⟨cx, cc, trivial, trivial, ?_⟩⟩ <;> simp only [beq_iff_eq, beq_eq_false_iff_ne, ne_eq] at h
    · exact lk.to rfl rfl rfl ⟨rfl, rfl, rfl, rfl, rfl, (by rw [wrap64 _ (by omega) (by omega)]; omega), trivial⟩ ⟨rfl, eSz h, trivial⟩
    · refine Means.begin (α := Nat) (fun j => [(4, boxed 43 (.agg [.agg [.bool false, .list []], .agg [.bool false, .list []]])), (40, made 41 (rowF (k + 1) (fun _ b => if b < j then chiS d (a + 1) b else chiS d a b) 0)),
          (11, boxed 41 (.agg [.bool bx, .list lx])), (12, boxed 41 (bigD (ch * aI ^ j)))])
        (fun j => [(0, .int .i64 kI), (1, .int .i64 d), (4, .addr 4 0 0 [] 43), (5, .int .i64 0), (6, .int .i64 fI), (7, .top 40 0), (8, .int .i64 aI), (11, .addr 11 0 0 [] 41), (12, .addr 12 0 0 [] 41), (59, .int .i64 ((k + 1 : Nat) : Int)), (60, .int .i64 j)])
        (fun j => j ≤ k + 1) (fun j => k + 1 - j) 0 rfl rfl rfl ⟨rfl, rfl, rfl, rfl, rfl, rfl, rfl, rfl, (by rw [lS]), rfl, trivial⟩ ⟨rfl, eS0, rfl, (by show [_] = [bigD (ch * aI ^ 0)]; rw [Int.pow_zero, Int.mul_one, ec]), trivial⟩ (Nat.zero_le _) ?_
      intro j hj ih2
      obtain ⟨jI, hjI⟩ : ∃ z : Int, (j : Int) = z := ⟨_, rfl⟩
      have lT := rowF_length (k + 1) (fun _ b => if b < j then chiS d (a + 1) b else chiS d a b) 0
      obtain ⟨k1, hk1I⟩ : ∃ z : Int, ((k + 1 : Nat) : Int) = z := ⟨_, rfl⟩
      rcases Nat.lt_or_ge j (k + 1) with hlt2 | hge2
      · have gT := rowF_get (n := k + 1) (fun _ b => if b < j then chiS d (a + 1) b else chiS d a b) 0 hlt2
        rw [if_neg (by omega)] at gT
        have sT : (rowF (k + 1) (fun _ b => if b < j then chiS d (a + 1) b else chiS d a b) 0).set j (bigD (chiS d (a + 1) j)) = rowF (k + 1) (fun _ b => if b < j + 1 then chiS d (a + 1) b else chiS d a b) 0 :=
          rowF_set (by rw [if_pos (by omega)]) fun b _ hne => by
            by_cases hb : b < j
            · rw [if_pos hb, if_pos (by omega)]
            · rw [if_neg hb, if_neg (by omega)]
        have lk2 := ih2 (j + 1) hlt2 (by omega)
        have ca := add_ok (chiS d a j) (ch * aI ^ j) ((hcs j (by omega)).mono (show _ ≤ 274877906944 by omega)) ((hcz j (by omega)).mono (by decide))
        rw [← hch] at ca
        have cm := mul_ok (ch * aI ^ j) aI ((hcz j (by omega)).mono (by decide)) (i64_sz ⟨by omega, by omega⟩)
        rw [Int.mul_assoc, ← Int.pow_succ, ex] at cm
        obtain ⟨T, hT⟩ : ∃ S, rowF (k + 1) (fun _ b => if b < j then chiS d (a + 1) b else chiS d a b) 0 = S := ⟨_, rfl⟩
        rw [hT] at lT gT sT
        obtain ⟨T2, hT2⟩ : ∃ S, rowF (k + 1) (fun _ b => if b < j + 1 then chiS d (a + 1) b else chiS d a b) 0 = S := ⟨_, rfl⟩
        rw [hT2] at sT lk2
        obtain ⟨b1, l1, e1⟩ := bigD_ex (chiS d a j)
        obtain ⟨b2, l2, e2⟩ := bigD_ex (ch * aI ^ j)
        obtain ⟨b3, l3, e3⟩ := bigD_ex (chiS d (a + 1) j)
        obtain ⟨b4, l4, e4⟩ := bigD_ex (ch * aI ^ (j + 1))
        rw [e1] at gT
        rw [e3] at sT
        rw [e1, e2, e3] at ca
        rw [e2, e4] at cm
        rw [e4, hk1I] at lk2
        rw [hT, e2, hjI, hk1I]
        refine Means.go progOK hJX [.tk true, .call (.v (.agg 41 (.agg [.bool b3, .list l3]))) [] [], .call (.v (.agg 41 (.agg [.bool b4, .list l4]))) [] []] 400 fun L Z hL hZ => ?_
        conv => cbv
        subst hL hZ
        dsimp only [std, deep]
        rw [show jI.toNat = j by omega, gT]
        rw [show (D.agg [D.bool b1, D.list l1]).put [] (D.agg [D.bool b3, D.list l3]) = D.agg [D.bool b3, D.list l3] from rfl, sT]
        refine ⟨by simp; omega, by omega, by omega, ca, by omega, by omega, trivial, cm, trivial, ?_⟩
        exact lk2.to rfl rfl rfl ⟨rfl, rfl, rfl, rfl, rfl, rfl, rfl, rfl, rfl, (by rw [wrap64 _ (by omega) (by omega)]; omega), trivial⟩ ⟨rfl, rfl, rfl, rfl, trivial⟩
      · have hjk : j = k + 1 := by omega
        have eTn : rowF (k + 1) (fun _ b => if b < j then chiS d (a + 1) b else chiS d a b) 0 = rowF (k + 1) (fun _ b => chiS d (a + 1) b) 0 := rowF_congr fun b hb => by rw [if_pos (by omega)]
        obtain ⟨b2, l2, e2⟩ := bigD_ex (ch * aI ^ j)
        obtain ⟨T, hT⟩ : ∃ S, rowF (k + 1) (fun _ b => if b < j then chiS d (a + 1) b else chiS d a b) 0 = S := ⟨_, rfl⟩
        rw [hT] at eTn
        rw [hT, e2, hjI, hk1I]
        refine Means.go progOK hJX [.tk false, .before 45 .hid 11, .before 45 .hid 12] 400 fun L Z hL hZ => ?_
        conv => cbv
        subst hL hZ
        dsimp only [std, deep]
        refine ⟨by simp; omega, ?_⟩
        exact lk.to rfl rfl rfl ⟨rfl, rfl, rfl, rfl, rfl, (by rw [wrap64 _ (by omega) (by omega)]; omega), trivial⟩ ⟨rfl, eTn, trivial⟩
  · have haf : a = f := by omega
    have cw0 : Ok Tryz.prog tab 136 [.int .i64 0] [] (.v (.agg 43 (ratD (genS k d f 0)))) [] := bwhole_ok 0 ⟨by decide, by decide⟩
    rw [haI]
    subst haf
    have lB := berL_length k
    have gB := fun (i : Nat) (h : i < k + 1) => berL_get (k := k) h
    have lW : (binoL k).length = k + 1 := vecL_length _ _
    have gW : ∀ i, i < k + 1 → (binoL k).getD i .nil = .int ((binN k i : Nat) : Int) := fun i h => vecL_get _ h
    have hsz := fun i hi => genS_sz (k := k) (f := a) (d := d) hk2 hf40 i hi
    have htz := fun i hi => genT_sz (k := k) (f := a) (i := i) (d := d) hk2 hi hf40
    have hcz := fun j (hj : j ≤ 20) => chiS_sz (d := d) hj a hf40
    have hR : genS k d a (k + 1) = genR k d := by rw [genR, hfa]
    obtain ⟨b0, l0, k0, m0, e0⟩ := ratD_ex (genS k d a 0)
    rw [e0] at cw0
    obtain ⟨S, hS⟩ : ∃ S, rowF (k + 1) (fun _ j => chiS d a j) 0 = S := ⟨_, rfl⟩
    obtain ⟨B, hB⟩ : ∃ S, berL k = S := ⟨_, rfl⟩
    obtain ⟨W, hW⟩ : ∃ S, binoL k = S := ⟨_, rfl⟩
    rw [hS] at lS gS
    rw [hB] at cnu lB gB
    rw [hW] at cro lW gW
    rw [hS]
    refine Means.go progOK hJX [.tk false, .call (.v (.imm 43 false B)) [] [], .call (.v (.agg 43 (.agg [.agg [.bool b0, .list l0], .agg [.bool k0, .list m0]]))) [] [], .call (.v (.imm 2 false W)) [] []] 400 fun L Z hL hZ => ?_
    conv => cbv
    subst hL hZ
    dsimp only [std, deep]
    refine ⟨by simp; omega, cnu, cw0, trivial, cro, ?_⟩
    refine Means.begin (α := Nat) (fun i => [(4, boxed 43 (.agg [.agg [.bool false, .list []], .agg [.bool false, .list []]])), (40, made 41 S), (15, boxed 43 (ratD (genS k d a i)))])
      (fun i => [(0, .int .i64 kI), (4, .addr 4 0 0 [] 43), (5, .int .i64 0), (6, .int .i64 fI), (7, .top 40 0), (14, .imm 43 false B), (15, .addr 15 0 0 [] 43), (80, .imm 2 false W), (81, .int .i64 ((k + 1 : Nat) : Int)), (82, .int .i64 i)])
      (fun i => i ≤ k + 1) (fun i => k + 1 - i) 0 rfl rfl rfl ⟨rfl, rfl, rfl, rfl, rfl, rfl, rfl, (by rw [lW]), rfl, trivial⟩ ⟨rfl, rfl, (by show [_] = [ratD (genS k d a 0)]; rw [e0]), trivial⟩ (Nat.zero_le _) ?_
    intro i hi ih3
    obtain ⟨iI, hiI⟩ : ∃ z : Int, (i : Int) = z := ⟨_, rfl⟩
    obtain ⟨k1, hk1I⟩ : ∃ z : Int, ((k + 1 : Nat) : Int) = z := ⟨_, rfl⟩
    rcases Nat.lt_or_ge i (k + 1) with hlt | hge2
    · have gi := gW i hlt
      have gb := gB i hlt
      have gs := gS (k - i) (by omega)
      have sF : SzR 2 (((a : Nat) : Int) : Rat) := SzR.i64 ⟨by omega, by omega⟩
      have ib := binN_i64 (n := k) (i := i) (by omega) (by omega)
      have c2 := bwhole_ok fI ⟨by omega, by omega⟩
      have c3 := pow_rat (((a : Nat) : Int) : Rat) ((i : Int) - 1) (by omega) (by omega) (fun _ e => by have := Rat.intCast_eq_zero_iff.1 e; omega) (sF.mono (by decide))
      have c4 := bwhole_ok _ ib
      have sb := SzR.i64 ib
      have sB := berB_sz (i := i) (by omega)
      have c5 := mul_rat _ _ (sb.mono (show 2 ≤ 100000000000 by decide)) (sB.mono (show 1 ≤ 100000000000 by decide))
      have c6 := whole_ok (chiS d a (k - i)) ((hcz (k - i) (by omega)).mono (show _ ≤ 274877906944 by omega))
      have sP := sF.zpow ((i : Int) - 1)
      have sC : SzR (45 + a) ((chiS d a (k - i) : Int) : Rat) := SzR.int (hcz (k - i) (by omega)) (by omega)
      have c7 := mul_rat _ _ (sP.mono (show _ ≤ 100000000000 by omega)) (sC.mono (show _ ≤ 100000000000 by omega))
      have c8 := mul_rat _ _ ((sb.mul sB (by decide)).mono (show _ ≤ 100000000000 by decide)) ((sP.mul sC (by omega)).mono (show _ ≤ 100000000000 by omega))
      have c9 := add_rat _ _ ((hsz i (by omega)).mono (show _ ≤ 90000000000 by omega)) ((htz i (by omega)).mono (show _ ≤ 90000000000 by decide))
      have e9 : genS k d a i + ((((binN k i : Nat) : Int) : Rat) * berB i) * ((((a : Nat) : Int) : Rat) ^ ((i : Int) - 1) * ((chiS d a (k - i) : Int) : Rat)) = genS k d a (i + 1) := rfl
      rw [e9] at c9
      rw [hfI, hiI] at c3 c7 c8 c9
      have lk := ih3 (i + 1) hlt (by omega)
      obtain ⟨b1, l1, k1', m1, e1⟩ := ratD_ex (genS k d a i)
      obtain ⟨b2, l2, k2, m2, e2⟩ := ratD_ex ((fI : Int) : Rat)
      obtain ⟨b3, l3, k3, m3, e3⟩ := ratD_ex (((fI : Int) : Rat) ^ (iI - 1))
      obtain ⟨b4, l4, k4, m4, e4⟩ := ratD_ex (((binN k i : Nat) : Int) : Rat)
      obtain ⟨b5, l5, k5, m5, e5⟩ := ratD_ex (berB i)
      obtain ⟨b6, l6, k6, m6, e6⟩ := ratD_ex ((((binN k i : Nat) : Int) : Rat) * berB i)
      obtain ⟨b7, l7, k7, m7, e7⟩ := ratD_ex ((chiS d a (k - i) : Int) : Rat)
      obtain ⟨b8, l8, k8, m8, e8⟩ := ratD_ex (((fI : Int) : Rat) ^ (iI - 1) * ((chiS d a (k - i) : Int) : Rat))
      obtain ⟨b9, l9, k9, m9, e9⟩ := ratD_ex (((((binN k i : Nat) : Int) : Rat) * berB i) * (((fI : Int) : Rat) ^ (iI - 1) * ((chiS d a (k - i) : Int) : Rat)))
      obtain ⟨b10, l10, k10, m10, e10⟩ := ratD_ex (genS k d a (i + 1))
      obtain ⟨b11, l11, e11⟩ := bigD_ex (chiS d a (k - i))
      rw [e2] at c2
      rw [e2, e3] at c3
      rw [e4] at c4
      rw [e4, e5, e6] at c5
      rw [e11, e7] at c6
      rw [e3, e7, e8] at c7
      rw [e6, e8, e9] at c8
      rw [e1, e9, e10] at c9
      rw [e5] at gb
      rw [e11] at gs
      rw [e10, hk1I] at lk
      rw [e1, hk1I, hiI]
      generalize ((binN k i : Nat) : Int) = cI at *
      refine Means.go progOK hJX [.tk true, .call (.v (.agg 43 (.agg [.agg [.bool b2, .list l2], .agg [.bool k2, .list m2]]))) [] [], .call (.tup [.v (.agg 43 (.agg [.agg [.bool b3, .list l3], .agg [.bool k3, .list m3]])), .v (.bool true)]) [] [], .call (.v (.agg 43 (.agg [.agg [.bool b4, .list l4], .agg [.bool k4, .list m4]]))) [] [], .call (.v (.agg 43 (.agg [.agg [.bool b6, .list l6], .agg [.bool k6, .list m6]]))) [] [], .call (.v (.agg 43 (.agg [.agg [.bool b7, .list l7], .agg [.bool k7, .list m7]]))) [] [], .call (.v (.agg 43 (.agg [.agg [.bool b8, .list l8], .agg [.bool k8, .list m8]]))) [] [], .call (.v (.agg 43 (.agg [.agg [.bool b9, .list l9], .agg [.bool k9, .list m9]]))) [] [], .call (.v (.agg 43 (.agg [.agg [.bool b10, .list l10], .agg [.bool k10, .list m10]]))) [] [], .before 115 .hid 18, .before 115 .hid 20] 400 fun L Z hL hZ => ?_
      conv => cbv
      subst hL hZ
      dsimp only [std, deep]
      rw [wrap64 (iI - 1) (by omega) (by omega), wrap64 (kI - iI) (by omega) (by omega), show iI.toNat = i by omega, show (kI - iI).toNat = k - i by omega, gi, gb, gs, show (D.int cI).toInt = cI from rfl]
      repeat' first | exact trivial | exact c2 | exact c3 | exact c4 | exact c5 | exact c6 | exact c7 | exact c8 | exact c9 | omega | (simp; omega) | refine And.intro ?_ ?_
      exact lk.to rfl rfl rfl ⟨rfl, rfl, rfl, rfl, rfl, rfl, rfl, rfl, (by rw [wrap64 _ (by omega) (by omega)]; omega), trivial⟩ ⟨rfl, rfl, rfl, trivial⟩
    · have hik : i = k + 1 := by omega
      rw [hik, hR, eR, hk1I]
      refine Means.go progOK hJX [.tk false] 400 fun L Z hL hZ => ?_
      conv => cbv
      subst hL hZ
      dsimp only [std, deep]
      repeat' first | exact trivial | rfl | omega | (simp; omega) | (simp; done) | refine And.intro ?_ ?_
end Go.VI

namespace Go.VI
open Go.Proofs
set_option maxRecDepth 20000

def rowRed (F : Nat → Nat → Int) (i : Nat) : Bool := (List.range i).all (fun j => nearB F i j) && lovB F i
def condB (n : Nat) (F : Nat → Nat → Int) : Bool := (List.range n).all fun i => i == 0 || rowRed F i
def redI (n : Nat) (F : Nat → Nat → Int) : Bool := validI n F == 0 && decide (pivI F n ≤ 10000) && condB n F

theorem condB_false {n : Nat} {F : Nat → Nat → Int} {i : Nat} (h : i < n) (h0 : i ≠ 0) (hP : rowRed F i = false) : condB n F = false := by
  unfold condB
  rw [List.all_eq_false]
  exact ⟨i, List.mem_range.2 h, by rw [hP]; simp [h0]⟩
theorem condB_true {n : Nat} {F : Nat → Nat → Int} (h : ∀ i, 1 ≤ i → i < n → rowRed F i = true) : condB n F = true := by
  unfold condB
  rw [List.all_eq_true]
  intro i hi
  cases i with
  | zero => rfl
  | succ i => rw [h (i + 1) (by omega) (List.mem_range.1 hi)]; simp
theorem rowRed_near {F : Nat → Nat → Int} {i j : Nat} (h : j < i) (hP : nearB F i j = false) : rowRed F i = false := by
  unfold rowRed
  rw [(List.all_eq_false).2 ⟨j, List.mem_range.2 h, by rw [hP]; simp⟩]; rfl
theorem rowRed_lov {F : Nat → Nat → Int} {i : Nat} (hP : lovB F i = false) : rowRed F i = false := by
  unfold rowRed
  rw [hP, Bool.and_false]
theorem rowRed_true {F : Nat → Nat → Int} {i : Nat} (h : ∀ j, j < i → nearB F i j = true) (hl : lovB F i = true) : rowRed F i = true := by
  unfold rowRed
  rw [hl, Bool.and_true, List.all_eq_true]
  exact fun j hj => h j (List.mem_range.1 hj)

/-- The rows of a square matrix of numbers. -/
structure SqI (h : List (List Int)) (n : Nat) : Prop where
  len : h.length = n
  row : ∀ r ∈ h, r.length = n
  lo : 1 ≤ n
  i64 : ∀ r ∈ h, ∀ z ∈ r, I64 z

theorem SqI.sz {h : List (List Int)} {n : Nat} (hq : SqI h n) (i j : Nat) : Sz 2 (ent h i j) := (ent_i64 hq.i64 i j).sz
theorem SqI.ok {h : List (List Int)} {n : Nat} (hq : SqI h n) (hn : n ≤ 16) : okShape (intM h) = true := by
  have hl : (intM h).length = n := by rw [intM, List.length_map, hq.len]
  have hr : ∀ r ∈ intM h, r.length = n := by
    intro r hr
    simp only [intM, List.mem_map] at hr
    obtain ⟨x, hx, rfl⟩ := hr
    rw [intR, List.length_map, hq.row x hx]
  have := hq.lo
  have hd : ((intM h).headD []).length = n := by
    cases hh : intM h with
    | nil => rw [hh] at hl; simp at hl; omega
    | cons x l => exact hr x (by rw [hh]; simp)
  rw [okShape_iff, hl, hd]
  exact ⟨hq.lo, hn, hq.lo, hn, hr⟩
theorem SqI.mat {h : List (List Int)} {n : Nat} (hq : SqI h n) : matD h = matF n (ent h) := by
  rw [← matF_tab, tabM_ent hq.len hq.row]
theorem SqI.from {h : List (List Int)} {n : Nat} (hq : SqI h n) (hn : n ≤ 16) :
    Ok Tryz.prog tab 121 [.imm 31 false ((intM h).map .list)] [] (.tup [.v (.imm 124 false (matF n (ent h))), .v (.bool true)]) [] := by
  have := fromInts_ok h hq.i64 (by rw [hq.len]; omega) (fun r hr => by rw [hq.row r hr]; omega)
  rwa [hq.ok hn, if_pos rfl, hq.mat] at this

set_option maxHeartbeats 2000000 in
theorem isRed_sq (h : List (List Int)) (n : Nat) (hq : SqI h n) (hn : n ≤ 8) :
    Ok Tryz.prog tab 56 [.imm 31 false ((intM h).map .list)] [] (.v (.bool (redI n (ent h)))) [] := by
  have hfr := hq.from (by omega)
  have h1 := hq.lo
  have hF : ∀ i j, i < n → j < n → Sz 2 (ent h i j) := fun i j _ _ => hq.sz i j
  obtain ⟨F, hFe⟩ : ∃ F, ent h = F := ⟨_, rfl⟩
  rw [hFe] at hfr hF
  rw [hFe]
  have hp8 : 2 ^ n ≤ 2 ^ 8 := Nat.pow_le_pow_right (by decide) hn
  have hs : (2 + 1) * 2 ^ n ≤ 60000000000 := Nat.le_trans (Nat.mul_le_mul_left _ hp8) (by decide)
  have hva := validate_ok n F h1 hn 2 hs hF
  have hpv := pivot_ok n F n (Nat.le_refl _) (by omega)
  have szp : Sz big (pivI F n) := (pivI_sz hF (Nat.le_refl n)).mono (Nat.le_trans hs (by decide))
  have hcm := cmp_ok (pivI F n) 10000 szp (i64_sz ⟨by decide, by decide⟩)
  have hsm := small_ok 10000 (by decide) (by decide)
  have hst := fun hp => stages_ok n F h1 (by omega) hp 2 hs hF
  have hnear := fun i j hi hj => near_ok n F i j hi hj (by omega) 2 hs hF
  have hlov := fun i hi hi0 => lovasz_ok n F i hi hi0 (by omega) 2 hs hF
  have lA := matF_length n F
  obtain ⟨H, hH⟩ : ∃ H, (intM h).map D.list = H := ⟨_, rfl⟩
  obtain ⟨A, hA⟩ : ∃ A, matF n F = A := ⟨_, rfl⟩
  obtain ⟨S, hS⟩ : ∃ A, stgL n F = A := ⟨_, rfl⟩
  obtain ⟨vi, hvi⟩ : ∃ z, validI n F = z := ⟨_, rfl⟩
  obtain ⟨rb, hrb⟩ : ∃ b, redI n F = b := ⟨_, rfl⟩
  obtain ⟨sg, hsg⟩ : ∃ z, (pivI F n - 10000).sign = z := ⟨_, rfl⟩
  obtain ⟨b1, l1, e1⟩ := bigD_ex (pivI F n)
  obtain ⟨b2, l2, e2⟩ := bigD_ex 10000
  obtain ⟨ni, hni⟩ : ∃ z : Int, (n : Int) = z := ⟨_, rfl⟩
  have hz : sg > 0 ↔ ¬ pivI F n ≤ 10000 := by
    rw [← hsg]
    have := Int.sign_pos_iff (x := pivI F n - 10000)
    omega
  rw [hS, e1] at hpv
  rw [e1, e2, hsg] at hcm
  rw [e2] at hsm
  rw [hA, hvi] at hva
  rw [hA] at hfr lA hst
  rw [hS] at hst hnear hlov
  rw [hH] at hfr
  rw [hH, hrb]
  rw [← lA] at hpv
  unfold redI at hrb
  rw [hvi] at hrb
  refine Ok.go progOK [] [.call (.tup [.v (.imm 124 false A), .v (.bool true)]) [] [], .call (.v (.int .i64 vi)) [] [], .fork [] [.call (.tup [.v (.imm 55 false S), .v (.bool true)]) [] [],
    .call (.v (.agg 41 (.agg [.bool b1, .list l1]))) [] [], .call (.v (.agg 41 (.agg [.bool b2, .list l2]))) [] [], .call (.v (.int .i64 sg)) [] [], .fork [] []]] 400 Tryz.func56 rfl rfl rfl fun J hJX L Z hL hZ => ?_
  conv => cbv
  subst hL hZ
  dsimp only [std, deep]
  refine ⟨hfr, fun h => by simp at h, fun _ => ⟨hva, fun h => ⟨?_, trivial⟩, fun h => ?_⟩⟩
  · rw [← hrb, beq_eq_false_iff_ne.2 (bne_iff_ne.1 h)]; rfl
  have hv0 : vi = 0 := by simpa using h
  have hdef : defiB n F = true := by
    rw [← hvi] at hv0
    unfold validI at hv0
    split at hv0
    · split at hv0
      · assumption
      · omega
    · omega
  have hpiv := defi_piv hdef
  have hp : ∀ k, 1 ≤ k → k < n → pivI F k ≠ 0 := fun k _ hk => by have := (hpiv k (by omega)).1; omega
  refine ⟨hst hp, hpv, hsm, hcm, fun h => ⟨?_, trivial⟩, fun h => ?_⟩
  · simp only [decide_eq_true_eq] at h
    rw [← hrb, decide_eq_false (hz.1 h), Bool.and_false]; rfl
  have hle : decide (pivI F n ≤ 10000) = true := by
    simp only [decide_eq_false_iff_not] at h
    exact decide_eq_true (Classical.byContradiction fun hn => h (hz.2 hn))
  rw [hle, hv0] at hrb
  have hrb : condB n F = rb := by simpa using hrb
  refine Means.begin (α := Nat) (fun i => []) (fun i => [(5, .imm 55 false S), (7, .int .i64 ni), (8, .int .i64 i)]) (fun i => 1 ≤ i ∧ i ≤ n ∧ ∀ k, 1 ≤ k → k < i → rowRed F k = true) (fun i => n - i) 1 rfl rfl rfl
    ⟨rfl, by omega, rfl, trivial⟩ trivial ⟨Nat.le_refl _, h1, fun k a b => by omega⟩ ?_
  rintro i ⟨hi1, hi2, hpre⟩ ih
  obtain ⟨ii, hii⟩ : ∃ r : Int, (i : Int) = r := ⟨_, rfl⟩
  rw [hii]
  rcases Nat.lt_or_ge i n with hlt | hge
  · refine Means.go progOK hJX [.tk true] 400 fun L Z hL hZ => ?_
    conv => cbv
    subst hL hZ
    dsimp only [std, deep]
    refine ⟨by simp; omega, ?_⟩
    refine Means.begin (α := Nat) (fun j => []) (fun j => [(5, .imm 55 false S), (7, .int .i64 ni), (8, .int .i64 ii), (40, .int .i64 ii), (41, .int .i64 j)]) (fun j => j ≤ i ∧ ∀ b, b < j → nearB F i b = true) (fun j => i - j) 0 rfl rfl rfl
      ⟨rfl, rfl, rfl, rfl, rfl, trivial⟩ trivial ⟨Nat.zero_le _, fun b hb => absurd hb (Nat.not_lt_zero _)⟩ ?_
    rintro j ⟨hj, hrow⟩ ih2
    obtain ⟨ji, hji⟩ : ∃ r : Int, (j : Int) = r := ⟨_, rfl⟩
    rw [hji]
    rcases Nat.lt_or_ge j i with hlt2 | hge2
    · have hne := hnear i j hlt hlt2
      obtain ⟨nb, hnb⟩ : ∃ b, nearB F i j = b := ⟨_, rfl⟩
      rw [hnb, hii, hji] at hne
      refine Means.go progOK hJX [.tk true, .call (.v (.bool nb)) [] [], .both] 400 fun L Z hL hZ => ?_
      conv => cbv
      subst hL hZ
      dsimp only [std, deep]
      refine ⟨by simp; omega, hne, fun h => ⟨?_, trivial⟩, fun h => ?_⟩
      · rw [← hrb, condB_false hlt (by omega) (rowRed_near hlt2 (by rw [hnb]; simpa using h))]
      · refine (ih2 (j + 1) ⟨by omega, fun b hb => ?_⟩ (by omega)).to rfl rfl rfl ⟨rfl, rfl, rfl, rfl, (by rw [wrap64 _ (by omega) (by omega)]; omega), trivial⟩ trivial
        rcases Nat.lt_or_ge b j with h' | h'
        · exact hrow b h'
        · rw [show b = j by omega, hnb]; simpa using h
    · have hji' : j = i := by omega
      have hlo := hlov i hlt hi1
      obtain ⟨lb, hlb⟩ : ∃ b, lovB F i = b := ⟨_, rfl⟩
      rw [hlb, hii] at hlo
      refine Means.go progOK hJX [.tk false, .call (.v (.bool lb)) [] [], .both] 400 fun L Z hL hZ => ?_
      conv => cbv
      subst hL hZ
      dsimp only [std, deep]
      refine ⟨by simp; omega, hlo, fun h => ⟨?_, trivial⟩, fun h => ?_⟩
      · rw [← hrb, condB_false hlt (by omega) (rowRed_lov (by rw [hlb]; simpa using h))]
      · refine (ih (i + 1) ⟨by omega, by omega, fun k hk1 hk => ?_⟩ (by omega)).to rfl rfl rfl ⟨rfl, rfl, (by rw [wrap64 _ (by omega) (by omega)]; omega), trivial⟩ trivial
        rcases Nat.lt_or_ge k i with h' | h'
        · exact hpre k hk1 h'
        · rw [show k = i by omega]
          exact rowRed_true (fun b hb => hrow b (by omega)) (by rw [hlb]; simpa using h)
  · have hin : i = n := by omega
    refine Means.go progOK hJX [.tk false] 400 fun L Z hL hZ => ?_
    conv => cbv
    subst hL hZ
    dsimp only [std, deep]
    exact ⟨by simp; omega, by rw [← hrb, condB_true (fun k a b => hpre k a (by omega))], trivial⟩
end Go.VI

namespace Go.VI
open Go.Proofs
set_option maxRecDepth 20000

def rowI (n : Nat) (F : Nat → Nat → Int) (i : Nat) : List D := (List.range n).map fun j => .int (F i j)
def intF (n : Nat) (F : Nat → Nat → Int) : List D := (List.range n).map fun i => .list (rowI n F i)
theorem intF_length (n : Nat) (F : Nat → Nat → Int) : (intF n F).length = n := by simp [intF]
theorem rowI_length (n : Nat) (F : Nat → Nat → Int) (i : Nat) : (rowI n F i).length = n := by simp [rowI]
theorem intF_get {n : Nat} (F : Nat → Nat → Int) {i : Nat} (h : i < n) : (intF n F).getD i .nil = .list (rowI n F i) := by simp [intF, List.getD_eq_getElem?_getD, h]
theorem rowI_get {n : Nat} (F : Nat → Nat → Int) (i : Nat) {j : Nat} (h : j < n) : (rowI n F i).getD j .nil = .int (F i j) := by simp [rowI, List.getD_eq_getElem?_getD, h]
theorem SqI.intF {h : List (List Int)} {n : Nat} (hq : SqI h n) : (intM h).map .list = VI.intF n (ent h) := by
  apply List.ext_getElem
  · simp [intM, VI.intF, hq.len]
  · intro i h1 h2
    have hi : i < h.length := by simpa [intM] using h1
    simp only [intM, VI.intF, List.getElem_map, List.getElem_range, D.list.injEq]
    apply List.ext_getElem
    · simp [intR, rowI, hq.row _ (List.getElem_mem hi)]
    · intro j h3 h4
      have hj : j < (h[i]).length := by simpa [intR] using h3
      simp [intR, rowI, ent, List.getD_eq_getElem?_getD, hi, hj]

theorem mresidue_ok (a m : Int) (h1 : 1 ≤ m) (h2 : m ≤ 4611686018427387904) :
    Ok Tryz.prog tab 183 [.int .i64 a, .int .i64 m] [] (.v (.int .i64 (a % m))) [] := by
  obtain ⟨rz, hrz⟩ : ∃ b, a % m = b := ⟨_, rfl⟩
  rw [hrz]
  refine Ok.go progOK [] [.both] 400 Tryz.func183 rfl rfl rfl fun J hJX L Z hL hZ => ?_
  conv => cbv
  subst hL hZ
  dsimp only [std, deep]
  have e1 : 0 ≤ a.tmod m → a.tmod m = a % m := fun h => by
    rw [Int.tmod_eq_emod] at h ⊢
    split at h
    · rename_i hc; rw [if_pos hc]; omega
    · rename_i hc; rw [if_neg hc]
      have := Int.emod_lt_of_pos a (show 0 < m by omega)
      have := Int.natAbs_of_nonneg (show 0 ≤ m by omega)
      omega
  have e2 : a.tmod m < 0 → a.tmod m + m = a % m := fun h => by
    rw [Int.tmod_eq_emod] at h ⊢
    have := Int.emod_nonneg a (show m ≠ 0 by omega)
    have := Int.natAbs_of_nonneg (show 0 ≤ m by omega)
    split at h
    · omega
    · rename_i hc; rw [if_neg hc]; omega
  have b1 := Int.emod_nonneg a (show m ≠ 0 by omega)
  have b2 := Int.emod_lt_of_pos a (show 0 < m by omega)
  obtain ⟨t, ht⟩ : ∃ t, a.tmod m = t := ⟨_, rfl⟩
  rw [ht] at e1 e2 ⊢
  rw [hrz] at e1 e2 b1 b2
  refine ⟨by omega, fun h => ⟨?_, trivial⟩, fun h => ⟨?_, trivial⟩⟩ <;> simp only [decide_eq_true_eq, decide_eq_false_iff_not] at h
  · have := e2 h
    rw [wrap64 _ (by omega) (by omega)]; omega
  · exact e1 (by omega)

theorem modulus_ok (m : Int) (h1 : 2 ≤ m) (h2 : m ≤ 2147483647) : Ok Tryz.prog tab 102 [.int .i64 m] [] (.v (.bool true)) [] := by
  refine Ok.go progOK [] [] 400 Tryz.func102 rfl rfl rfl fun J hJX L Z hL hZ => ?_
  conv => cbv
  subst hL hZ
  dsimp only [std, deep]
  exact ⟨fun _ => ⟨by simp; omega, trivial⟩, fun h => by simp only [decide_eq_false_iff_not] at h; omega⟩

theorem valid_ok (n : Nat) (F : Nat → Nat → Int) (h1 : 1 ≤ n) (h2 : n ≤ 16) : Ok Tryz.prog tab 101 [.imm 31 false (intF n F)] [] (.v (.bool true)) [] := by
  have lA := intF_length n F
  have gA : ∀ i, i < n → (intF n F).getD i .nil = .list (rowI n F i) := fun i h => intF_get F h
  have lr := rowI_length n F
  obtain ⟨A, hA⟩ : ∃ A, intF n F = A := ⟨_, rfl⟩
  rw [hA] at lA gA
  rw [hA]
  obtain ⟨ni, hni⟩ : ∃ z : Int, (A.length : Int) = z := ⟨_, rfl⟩
  have g0 := gA 0 (by omega)
  have l0 := lr 0
  generalize rowI n F 0 = r0 at g0 l0
  refine Ok.go progOK [] [.tk false] 400 Tryz.func101 rfl rfl rfl fun J hJX L Z hL hZ => ?_
  conv => cbv
  subst hL hZ
  dsimp only [std, deep]
  rw [show (A.getD (Int.toNat 0) .nil).els = r0 by rw [show Int.toNat 0 = 0 from rfl, g0]; rfl]
  refine ⟨fun h => absurd h (by simp; omega), fun _ => ⟨fun h => absurd h (by simp; omega), fun _ => ⟨by omega, by omega, fun h => absurd h (by simp; omega), fun _ => ⟨by omega, by omega, by simp; omega, ?_⟩⟩⟩⟩
  refine Means.begin (α := Nat) (fun i => []) (fun i => [(0, .imm 31 false A), (27, .imm 31 false A), (28, .int .i64 ni), (29, .int .i64 i)]) (fun i => i ≤ n) (fun i => n - i) 0 rfl rfl rfl
    ⟨rfl, rfl, hni, rfl, trivial⟩ trivial (Nat.zero_le _) ?_
  intro i hi ih
  obtain ⟨ii, hii⟩ : ∃ r : Int, (i : Int) = r := ⟨_, rfl⟩
  rw [hii]
  rcases Nat.lt_or_ge i n with hlt | hge
  · have gi := gA i hlt
    have li := lr i
    generalize rowI n F i = ri at gi li
    refine Means.go progOK hJX [.tk true, .tk false] 400 fun L Z hL hZ => ?_
    conv => cbv
    subst hL hZ
    dsimp only [std, deep]
    rw [show ii.toNat = i by omega, show Int.toNat 0 = 0 from rfl, g0, gi, show (D.list r0).els = r0 from rfl, show (D.list ri).els = ri from rfl]
    refine ⟨by simp; omega, by omega, by omega, by omega, by omega, by simp; omega, ?_⟩
    exact (ih (i + 1) (by omega) (by omega)).to rfl rfl rfl ⟨rfl, rfl, rfl, (by rw [wrap64 _ (by omega) (by omega)]; omega), trivial⟩ trivial
  · refine Means.go progOK hJX [.tk false] 400 fun L Z hL hZ => ?_
    conv => cbv
    subst hL hZ
    dsimp only [std, deep]
    exact ⟨by simp; omega, trivial, trivial⟩


set_option maxHeartbeats 2000000 in
theorem reduced_ok (n : Nat) (F : Nat → Nat → Int) (m : Int) (hn1 : 1 ≤ n) (hn : n ≤ 16) (h1 : 1 ≤ m) (h2 : m ≤ 4611686018427387904) :
    Ok Tryz.prog tab 103 [.imm 31 false (intF n F), .int .i64 m] [] (.v (.imm 31 false (intF n (fun i j => F i j % m)))) [] := by
  obtain ⟨R, hR⟩ : ∃ A, intF n (fun i j => F i j % m) = A := ⟨_, rfl⟩
  have lR : R.length = n := by rw [← hR, intF_length]
  have gR : ∀ i, i < n → R.getD i .nil = .list (rowI n (fun i j => F i j % m) i) := fun i h => by rw [← hR]; exact intF_get _ h
  obtain ⟨A, hA⟩ : ∃ A, intF n F = A := ⟨_, rfl⟩
  have lA : A.length = n := by rw [← hA, intF_length]
  have gA : ∀ i, i < n → A.getD i .nil = .list (rowI n F i) := fun i h => by rw [← hA]; exact intF_get F h
  rw [hR, hA]
  obtain ⟨ni, hni⟩ : ∃ z : Int, (A.length : Int) = z := ⟨_, rfl⟩
  refine Ok.go progOK [(12, .mem 12 2), (36, .key 24)] [] 400 Tryz.func103 rfl rfl rfl fun J hJX L Z hL hZ => ?_
  conv => cbv
  subst hL hZ
  dsimp only [std, deep]
  rw [hni, show ni.toNat = n by omega]
  refine ⟨trivial, by omega, by omega, by omega, ?_⟩
  refine Means.begin (α := Nat) (fun k => [(12, rows2 31 (R.take k ++ List.replicate (n - k) (.list [])) [])])
    (fun k => [(1, .int .i64 m), (5, .top 12 0), (13, .imm 31 false A), (14, .int .i64 ni), (15, .int .i64 k)]) (fun k => k ≤ n) (fun k => n - k) 0 rfl rfl rfl
    ⟨rfl, rfl, rfl, rfl, trivial⟩ ⟨rfl, trivial⟩ (Nat.zero_le _) ?_
  intro k hk ih
  obtain ⟨E, hE⟩ : ∃ E, R.take k ++ List.replicate (n - k) (.list []) = E := ⟨_, rfl⟩
  have lE : E.length = n := by rw [← hE]; simp; omega
  obtain ⟨ki, hki⟩ : ∃ r : Int, (k : Int) = r := ⟨_, rfl⟩
  rw [hE, hki]
  rcases Nat.lt_or_ge k n with hlt | hge
  · have gk := gA k hlt
    have gRk := gR k hlt
    have lr := rowI_length n F k
    have lq := rowI_length n (fun i j => F i j % m) k
    have gr : ∀ j, j < n → (rowI n F k).getD j .nil = .int (F k j) := fun j h => rowI_get F k h
    have gq : ∀ j, j < n → (rowI n (fun i j => F i j % m) k).getD j .nil = .int (F k j % m) := fun j h => rowI_get _ k h
    obtain ⟨r, hr⟩ : ∃ r, rowI n F k = r := ⟨_, rfl⟩
    obtain ⟨q, hq⟩ : ∃ r, rowI n (fun i j => F i j % m) k = r := ⟨_, rfl⟩
    rw [hr] at gk lr gr
    rw [hq] at gRk lq gq
    have nk : ∀ j K, E.getD j .nil ≠ .key K := by
      rw [← hE]
      refine lists_nokey fun x hx => ?_
      rcases List.mem_append.1 hx with h | h
      · have := List.mem_of_mem_take h
        rw [← hR, intF, List.mem_map] at this
        obtain ⟨r, _, rfl⟩ := this
        exact ⟨_, rfl⟩
      · rw [List.mem_replicate] at h; exact ⟨_, h.2⟩
    refine Means.go progOK hJX [.tk true] 400 fun L Z hL hZ => ?_
    conv => cbv
    subst hL hZ
    dsimp only [std, deep]
    rw [show ki.toNat = k by omega, gk, show (D.list r).els = r from rfl]
    rw [show E.set k ((E.getD k D.nil).put [] (D.key 24)) = E.set k (.key 24) from rfl, Int.toNat_natCast, lr]
    refine ⟨by simp; omega, by omega, by omega, trivial, by omega, by omega, by omega, by omega, by omega, trivial, ?_⟩
    refine Means.begin (α := Nat) (fun j => [(12, rows2 31 (E.set k (.key 24)) [24]), (24, heldRow 2 (q.take j ++ List.replicate (n - j) (.int 0)))])
      (fun j => [(1, .int .i64 m), (5, .top 12 0), (6, .int .i64 ki), (13, .imm 31 false A), (14, .int .i64 ni), (15, .int .i64 ki), (26, .imm 2 false r), (27, .int .i64 ni), (28, .int .i64 j)]) (fun j => j ≤ n) (fun j => n - j) 0 rfl rfl rfl
      ⟨rfl, rfl, rfl, rfl, rfl, rfl, (by omega), rfl, trivial⟩ ⟨rfl, rfl, trivial⟩ (Nat.zero_le _) ?_
    intro j hj ih2
    obtain ⟨E2, hE2⟩ : ∃ E, q.take j ++ List.replicate (n - j) (.int 0) = E := ⟨_, rfl⟩
    have lE2 : E2.length = n := by rw [← hE2]; simp; omega
    obtain ⟨ji, hji⟩ : ∃ r : Int, (j : Int) = r := ⟨_, rfl⟩
    obtain ⟨Ek, hEk⟩ : ∃ E' , E.set k (.key 24) = E' := ⟨_, rfl⟩
    have lEk : Ek.length = n := by rw [← hEk, List.length_set]; exact lE
    rw [hE2, hji, hEk]
    rcases Nat.lt_or_ge j n with hlt2 | hge2
    · have gj := gr j hlt2
      have gqj := gq j hlt2
      have hre := mresidue_ok (F k j) m h1 h2
      generalize F k j % m = y at *
      generalize F k j = x at *
      refine Means.go progOK hJX [.tk true, .call (.v (.int .i64 y)) [] []] 400 fun L Z hL hZ => ?_
      conv => cbv
      subst hL hZ
      dsimp only [std, deep]
      rw [show ji.toNat = j by omega, show ki.toNat = k by omega, gj, show (D.int x).toInt = x from rfl]
      refine ⟨by simp; omega, by omega, by omega, by omega, by omega, by rw [← hEk, getD_set_self _ _ _ (by omega)]; rfl, hre, by omega, by omega, trivial, ?_⟩
      refine (ih2 (j + 1) (by omega) (by omega)).to rfl rfl rfl ⟨rfl, rfl, rfl, rfl, rfl, rfl, rfl, (by rw [wrap64 _ (by omega) (by omega)]; omega), trivial⟩ ⟨hEk.symm, ?_, trivial⟩
      show E2.set j (.int y) = q.take (j + 1) ++ List.replicate (n - (j + 1)) (.int 0)
      rw [← hE2, set_fill' _ _ _ _ _ (by rw [List.length_take]; omega) hlt2, take_app (by omega) gqj]
    · have hjn : j = n := by omega
      refine Means.go progOK hJX [.tk false, .halt] 400 fun L Z hL hZ => ?_
      conv => cbv
      subst hL hZ
      dsimp only [std, deep]
      refine ⟨by simp; omega, ?_⟩
      refine Means.fold hJX 12 k 24 rfl rfl rfl rfl (by show k < Ek.length; omega) (by show Ek.getD k .nil = _; rw [← hEk, getD_set_self _ _ _ (by omega)]) (fun j' h1 h2 => ?_) ?_
      · show Ek.getD j' .nil ≠ _
        rw [← hEk, getD_set_other _ _ _ _ h2]; exact nk j' 24
      · refine Means.weak (rl' := [(12, rows2 31 (R.take (k + 1) ++ List.replicate (n - (k + 1)) (.list [])) [])]) (sl' := [(1, .int .i64 m), (5, .top 12 0), (13, .imm 31 false A), (14, .int .i64 ni), (15, .int .i64 ki)]) rfl rfl rfl
          ⟨rfl, rfl, rfl, rfl, trivial⟩ ⟨?_, trivial⟩ ?_
        · show Ek.set k (.list E2) = _
          rw [← hEk, List.set_set, ← hE, set_fill' _ _ _ _ _ (by rw [List.length_take]; omega) hlt, ← hE2, hjn, Nat.sub_self, List.replicate_zero, List.append_nil, List.take_of_length_le (show q.length ≤ n by omega), take_app (by omega) gRk]; rfl
        obtain ⟨E3, hE3⟩ : ∃ E, R.take (k + 1) ++ List.replicate (n - (k + 1)) (.list []) = E := ⟨_, rfl⟩
        rw [hE3]
        refine Means.go progOK hJX [] 400 fun L Z hL hZ => ?_
        conv => cbv
        subst hL hZ
        dsimp only [std, deep]
        refine (ih (k + 1) (by omega) (by omega)).to rfl rfl rfl ⟨rfl, rfl, rfl, (by rw [wrap64 _ (by omega) (by omega)]; omega), trivial⟩ ⟨hE3.symm, trivial⟩
  · have hkn : k = n := by omega
    refine Means.go progOK hJX [.tk false] 400 fun L Z hL hZ => ?_
    conv => cbv
    subst hL hZ
    dsimp only [std, deep]
    exact ⟨by simp; omega, by rw [← hE, hkn, Nat.sub_self, List.replicate_zero, List.append_nil, List.take_of_length_le (by omega)], trivial⟩


theorem residues_ok (n : Nat) (F : Nat → Nat → Int) (m : Int) (hn1 : 1 ≤ n) (hn : n ≤ 16) (h1 : 2 ≤ m) (h2 : m ≤ 2147483647) :
    Ok Tryz.prog tab 39 [.imm 31 false (intF n F), .int .i64 m] [] (.tup [.v (.imm 31 false (intF n (fun i j => F i j % m))), .v (.int .i64 0)]) [] := by
  have c1 := valid_ok n F hn1 hn
  have c2 := modulus_ok m h1 h2
  have c3 := reduced_ok n F m hn1 hn (by omega) (by omega)
  generalize intF n F = A at *
  generalize intF n (fun i j => F i j % m) = R at *
  refine Ok.go progOK [] [.call (.v (.bool true)) [] [], .tk false, .call (.v (.bool true)) [] [], .tk false, .call (.v (.imm 31 false R)) [] []] 400 Tryz.func39 rfl rfl rfl fun J hJX L Z hL hZ => ?_
  conv => cbv
  subst hL hZ
  dsimp only [std, deep]
  exact ⟨c1, rfl, c2, rfl, c3, trivial, trivial, trivial⟩
end Go.VI
