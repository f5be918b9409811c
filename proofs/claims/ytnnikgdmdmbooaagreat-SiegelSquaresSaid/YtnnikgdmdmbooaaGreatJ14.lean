/- Counting the solutions modulo a prime power: what the program reckons. Local densities: what the program reckons. Small functions of siegel: what the program reckons (printed by gen_gq.py). Numbers as text: what the program reckons. -/
import Derived.Test.YtnnikgdmdmbooaaGreatJ13
import Derived.Test.YtnnikgdmdmbooaaGreatJ12
set_option linter.unusedVariables false
set_option linter.unusedSimpArgs false
namespace Go.VI
open Go.Proofs
set_option maxRecDepth 20000

theorem check_ok {h : List (List Int)} {n : Nat} (hq : SqI h n) (hn : n ≤ 8) (hr : redI n (ent h) = true) (p : Nat) (h1 : 2 ≤ p) (h2 : p ≤ 9973) (hp : isP p = true) :
    Ok Tryz.prog tab 38 [.imm 31 false (intF n (ent h)), .int .i64 p] [] (.v (.int .i64 0)) [] := by
  have c1 := isRed_sq h n hq hn
  have c2 := is_ok p h1 (by omega)
  rw [hr, hq.intF] at c1
  rw [hp] at c2
  generalize intF n (ent h) = H at *
  obtain ⟨pI, hpI⟩ : ∃ z : Int, (p : Int) = z := ⟨_, rfl⟩
  rw [hpI] at c2 ⊢
  refine Ok.go progOK [] [.call (.v (.bool true)) [] [], .tk false, .call (.v (.bool true)) [] [], .tk false] 400 Tryz.func38 rfl rfl rfl fun J hJX L Z hL hZ => ?_
  conv => cbv
  subst hL hZ
  dsimp only [std, deep]
  exact ⟨c1, rfl, fun h => absurd h (by simp; omega), fun _ => ⟨c2, rfl, trivial, trivial⟩⟩

theorem redI_sym {n : Nat} {F : Nat → Nat → Int} (h : redI n F = true) : ∀ i j, i < n → j < n → F i j = F j i := by
  unfold redI at h
  simp only [Bool.and_eq_true, beq_iff_eq] at h
  have hv := h.1.1
  have hs : symB n F = true := by
    unfold validI at hv
    split at hv
    · assumption
    · omega
  unfold symB at hs
  rw [List.all_eq_true] at hs
  have key : ∀ i j, i < n → j < i → F i j = F j i := by
    intro i j hi hj
    have := hs i (List.mem_range.2 hi)
    unfold sameRow at this
    rw [List.all_eq_true] at this
    simpa using this j (List.mem_range.2 hj)
  intro i j hi hj
  rcases Nat.lt_trichotomy i j with h' | h' | h'
  · exact (key j i hj h').symm
  · rw [h']
  · exact key i j hi h'

theorem mod3 (a b c m : Int) : (a % m + 2 * (b % m) + c) % m = (a + 2 * b + c) % m := by
  rw [Int.emod_def a, Int.emod_def b, show a - m * (a / m) + 2 * (b - m * (b / m)) + c = a + 2 * b + c + m * (-(a / m) - 2 * (b / m)) by rw [Int.mul_sub m, Int.mul_neg, Int.mul_left_comm m 2]; omega]
  exact Int.add_mul_emod_self_left _ _ _
/-- The numbers of solutions. -/
def cntL (n : Nat) (G : Nat → Nat → Int) (m : Nat) : List D := vecL m fun r => (cnt n G m (m ^ n) r : Nat)

set_option maxHeartbeats 4000000 in
theorem counts_ok {h : List (List Int)} {n : Nat} (hq : SqI h n) (hn : n ≤ 8) (hr : redI n (ent h) = true) (p : Nat) (h1 : 2 ≤ p) (h2 : p ≤ 9973) (hp : isP p = true) (k : Nat) (hk : 1 ≤ k) (hall : p ^ (k * n) ≤ 2097152) :
    Ok Tryz.prog tab 16 [.imm 31 false (intF n (ent h)), .int .i64 p, .int .i64 k] [] (.tup [.v (.imm 2 false (cntL n (ent h) (p ^ k))), .v (.int .i64 0)]) [] := by
  have c1 := check_ok hq hn hr p h1 h2 hp
  have hn1 := hq.lo
  have hm1 : 2 ≤ p ^ k := Nat.le_trans (show 2 ≤ 2 ^ k from Nat.le_trans (by decide : 2 ≤ 2 ^ 1) (Nat.pow_le_pow_right (by decide) hk)) (Nat.pow_le_pow_left h1 k)
  have hm2 : p ^ k ≤ 2097152 := Nat.le_trans (Nat.pow_le_pow_right (by omega) (Nat.le_mul_of_pos_right k (by omega))) hall
  have hk64 : k ≤ 64 := Classical.byContradiction fun hh => by
    have : 2 ^ 65 ≤ p ^ k := Nat.le_trans (Nat.pow_le_pow_right (by decide) (by omega)) (Nat.pow_le_pow_left h1 k)
    omega
  have c2 := residues_ok n (ent h) (p ^ k : Nat) hn1 (by omega) (by omega) (by omega)
  have hsym := redI_sym hr
  have eR : cntL n (ent h) (p ^ k) = cntL n (fun i j => ent h i j % ((p ^ k : Nat) : Int)) (p ^ k) := vecL_congr fun r _ => by
    rw [cnt_congr (fun i j _ _ => (Int.emod_emod_of_dvd _ (Int.dvd_refl _)).symm)]
  rw [eR]
  have hG : ∀ i j, i < n → j < n → (fun i j => ent h i j % ((p ^ k : Nat) : Int)) i j = (fun i j => ent h i j % ((p ^ k : Nat) : Int)) j i := fun i j hi hj => by
    show ent h i j % _ = ent h j i % _; rw [hsym i j hi hj]
  have hG2 : ∀ i j, 0 ≤ (fun i j => ent h i j % ((p ^ k : Nat) : Int)) i j ∧ (fun i j => ent h i j % ((p ^ k : Nat) : Int)) i j < ((p ^ k : Nat) : Int) := fun i j =>
    ⟨Int.emod_nonneg _ (by omega), Int.emod_lt_of_pos _ (by omega)⟩
  obtain ⟨G, hGe⟩ : ∃ G, (fun i j => ent h i j % ((p ^ k : Nat) : Int)) = G := ⟨_, rfl⟩
  rw [hGe] at c2 hG hG2
  rw [hGe]
  clear hsym eR hGe hr hp hq
  have lH := intF_length n (ent h)
  generalize intF n (ent h) = H at *
  obtain ⟨W, hW⟩ : ∃ W, intF n G = W := ⟨_, rfl⟩
  have lW : W.length = n := by rw [← hW, intF_length]
  have gW : ∀ i, i < n → W.getD i .nil = .list (rowI n G i) := fun i h => by rw [← hW]; exact intF_get _ h
  rw [hW] at c2
  obtain ⟨R, hR⟩ : ∃ R, cntL n G (p ^ k) = R := ⟨_, rfl⟩
  rw [hR]
  unfold cntL at hR
  obtain ⟨pI, hpI⟩ : ∃ z : Int, (p : Int) = z := ⟨_, rfl⟩
  obtain ⟨kI, hkI⟩ : ∃ z : Int, (k : Int) = z := ⟨_, rfl⟩
  rw [hpI] at c1
  rw [hpI, hkI]
  refine Ok.go progOK [(51, .mem 51 1), (54, .mem 54 1), (57, .mem 57 1)] [.call (.v (.int .i64 0)) [] [], .tk false, .tk false] 400 Tryz.func16 rfl rfl rfl fun J hJX L Z hL hZ => ?_
  conv => cbv
  subst hL hZ
  dsimp only [std, deep]
  refine ⟨c1, rfl, by simp; omega, ?_⟩
  refine Means.begin (α := Nat) (fun _ => []) (fun j => [(0, .imm 31 false H), (1, .int .i64 pI), (2, .int .i64 ((k - j : Nat) : Int)), (9, .int .i64 ((p ^ j : Nat) : Int)), (10, .int .i64 ((p ^ (j * n) : Nat) : Int))])
    (fun j => j ≤ k) (fun j => k - j) 0 rfl rfl rfl ⟨rfl, rfl, hkI.symm, rfl, (by rw [Nat.zero_mul]; rfl), trivial⟩ trivial (Nat.zero_le _) ?_
  intro j hj ih
  rcases Nat.lt_or_ge j k with hlt | hge
  · have b1 : p ^ (j + 1) ≤ 2097152 := Nat.le_trans (Nat.pow_le_pow_right (by omega) (show j + 1 ≤ k from hlt)) hm2
    have e1 : p ^ (j + 1) = p ^ j * p := Nat.pow_succ ..
    have hjn : (j + 1) * n ≤ k * n := Nat.mul_le_mul_right _ hlt
    have ih' := ih (j + 1) hlt (by omega)
    rw [e1] at b1 ih'
    have ej : (j + 1) * n = j * n + n := Nat.succ_mul j n
    rw [ej] at ih' hjn
    generalize p ^ j = M at *
    obtain ⟨MI, hMI⟩ : ∃ z : Int, (M : Int) = z := ⟨_, rfl⟩
    obtain ⟨rI, hrI⟩ : ∃ z : Int, ((k - j : Nat) : Int) = z := ⟨_, rfl⟩
    obtain ⟨aI, haI⟩ : ∃ z : Int, ((p ^ (j * n) : Nat) : Int) = z := ⟨_, rfl⟩
    rw [hMI, hrI, haI]
    have wM : IntKind.i64.wrap (MI * pI) = ((M * p : Nat) : Int) := by rw [← hMI, ← hpI, ← Int.natCast_mul]; exact wrap64 _ (by omega) (by omega)
    refine Means.go progOK hJX [.tk true] 400 fun L Z hL hZ => ?_
    conv => cbv
    subst hL hZ
    dsimp only [std, deep]
    rw [wM]
    refine ⟨by simp; omega, ?_⟩
    refine Means.begin (α := Nat) (fun _ => []) (fun i => [(0, .imm 31 false H), (1, .int .i64 pI), (2, .int .i64 rI), (9, .int .i64 ((M * p : Nat) : Int)), (10, .int .i64 ((p ^ (j * n + i) : Nat) : Int)), (35, .int .i64 n), (36, .int .i64 i)])
      (fun i => i ≤ n) (fun i => n - i) 0 rfl rfl rfl ⟨rfl, rfl, rfl, rfl, haI.symm, (by rw [← lH]), rfl, trivial⟩ trivial (Nat.zero_le _) ?_
    intro i hi ih2
    rcases Nat.lt_or_ge i n with hlt2 | hge2
    · have b2 : p ^ (j * n + i + 1) ≤ 2097152 := Nat.le_trans (Nat.pow_le_pow_right (by omega) (by omega)) hall
      have e2 : p ^ (j * n + i + 1) = p ^ (j * n + i) * p := Nat.pow_succ ..
      have ih3 := ih2 (i + 1) (by omega) (by omega)
      rw [show j * n + (i + 1) = j * n + i + 1 from rfl, e2] at ih3
      rw [e2] at b2
      generalize p ^ (j * n + i) = a at *
      obtain ⟨bI, hbI⟩ : ∃ z : Int, (a : Int) = z := ⟨_, rfl⟩
      obtain ⟨ii, hii⟩ : ∃ z : Int, (i : Int) = z := ⟨_, rfl⟩
      obtain ⟨ni, hni⟩ : ∃ z : Int, (n : Int) = z := ⟨_, rfl⟩
      obtain ⟨mI, hmI⟩ : ∃ z : Int, ((M * p : Nat) : Int) = z := ⟨_, rfl⟩
      rw [hbI, hii, hni, hmI]
      rw [hni, hmI] at ih3
      have wa : IntKind.i64.wrap (bI * pI) = ((a * p : Nat) : Int) := by rw [← hbI, ← hpI, ← Int.natCast_mul]; exact wrap64 _ (by omega) (by omega)
      refine Means.go progOK hJX [.tk true, .tk false] 400 fun L Z hL hZ => ?_
      conv => cbv
      subst hL hZ
      dsimp only [std, deep]
      rw [wa]
      refine ⟨by simp; omega, by simp; omega, ?_⟩
      exact ih3.to rfl rfl rfl ⟨rfl, rfl, rfl, rfl, rfl, rfl, (by rw [wrap64 _ (by omega) (by omega)]; omega), trivial⟩ trivial
    · have hin : i = n := by omega
      rw [hin]
      obtain ⟨bI, hbI⟩ : ∃ z : Int, ((p ^ (j * n + n) : Nat) : Int) = z := ⟨_, rfl⟩
      obtain ⟨ni, hni⟩ : ∃ z : Int, (n : Int) = z := ⟨_, rfl⟩
      obtain ⟨mI, hmI⟩ : ∃ z : Int, ((M * p : Nat) : Int) = z := ⟨_, rfl⟩
      rw [hbI, hmI] at ih'
      rw [hbI, hni, hmI]
      refine Means.go progOK hJX [.tk false] 400 fun L Z hL hZ => ?_
      conv => cbv
      subst hL hZ
      dsimp only [std, deep]
      refine ⟨by simp, ?_⟩
      exact ih'.to rfl rfl rfl ⟨rfl, rfl, (by rw [wrap64 _ (by omega) (by omega)]; omega), rfl, rfl, trivial⟩ trivial
  · have hjk : j = k := by omega
    rw [hjk, Nat.sub_self]
    clear ih hjk hge hj
    have hW0 : p ^ (k * n) = (p ^ k) ^ n := Nat.pow_mul ..
    generalize p ^ k = m at *
    obtain ⟨mI, hmI⟩ : ∃ z : Int, (m : Int) = z := ⟨_, rfl⟩
    obtain ⟨aI, haI⟩ : ∃ z : Int, ((p ^ (k * n) : Nat) : Int) = z := ⟨_, rfl⟩
    rw [hmI] at c2 hG2
    rw [hmI, haI]
    obtain ⟨ni, hni⟩ : ∃ z : Int, (H.length : Int) = z := ⟨_, rfl⟩
    refine Means.go progOK hJX [.tk false, .call (.tup [.v (.imm 31 false W), .v (.int .i64 0)]) [] []] 400 fun L Z hL hZ => ?_
    conv => cbv
    subst hL hZ
    dsimp only [std, deep]
    rw [Int.toNat_natCast, lH, show mI.toNat = m by omega]
    refine ⟨by decide, c2, trivial, by omega, by omega, by omega, trivial, by omega, by omega, by omega, trivial, by omega, by omega, by omega, ?_⟩
    refine Means.begin (α := Nat) (fun t => [(51, made 2 (vecL m fun r => ((cnt n G m t r : Nat) : Int))), (54, made 2 (vecL n (dgt m t))), (57, made 2 (vecL n fun i => gx n G (dgt m t) i % (m : Int)))])
      (fun t => [(9, .int .i64 mI), (11, .imm 31 false W), (13, .top 51 0), (14, .top 54 0), (15, .int .i64 (qf n G (dgt m t) % (m : Int))), (16, .top 57 0)]) (fun t => t < m ^ n) (fun t => m ^ n - t) 0 rfl rfl rfl
      ⟨rfl, rfl, (by rw [dgt_zero, qf_zero]; rfl), trivial⟩ ⟨(vecL_zero m).symm, (by rw [dgt_zero]; exact (vecL_zero n).symm), (by
        rw [dgt_zero]
        exact ((vecL_congr (g := fun _ => 0) fun j _ => by rw [gx_zero]; rfl).trans (vecL_zero n)).symm), trivial⟩ (Nat.pow_pos (by omega)) ?_
    intro t ht ih
    have lC := vecL_length m fun r => ((cnt n G m t r : Nat) : Int)
    have gC := fun (r : Nat) (h : r < m) => vecL_get (n := m) (fun r => ((cnt n G m t r : Nat) : Int)) h
    have sC : ∀ N : Int, N = qf n G (dgt m t) % (m : Int) → (vecL m fun r => ((cnt n G m t r : Nat) : Int)).set N.toNat (.int ((cnt n G m t N.toNat + 1 : Nat) : Int)) = vecL m fun r => ((cnt n G m (t + 1) r : Nat) : Int) := fun N hN => by
      have b0 : 0 ≤ N := by rw [hN]; exact Int.emod_nonneg _ (by omega)
      refine vecL_set ?_ fun j hj hne => ?_
      · rw [cnt, if_pos (by rw [← hN]; omega)]
      · rw [cnt, if_neg (by rw [← hN]; omega), Nat.add_zero]
    have hcl := fun r => cnt_le n G m t r
    have hmn : m ^ n ≤ 2097152 := by rw [← hW0]; exact hall
    have bN0 : 0 ≤ qf n G (dgt m t) % (m : Int) := Int.emod_nonneg _ (by omega)
    have bN1 : qf n G (dgt m t) % (m : Int) < (m : Int) := Int.emod_lt_of_pos _ (by omega)
    have lX := vecL_length n (dgt m t)
    have eX : vecL n (dgt m t) = vecL n (low0 m t 0) := by rw [low0_zero]
    have eV : (vecL n fun i => gx n G (dgt m t) i % (m : Int)) = vecL n fun i => gx n G (low0 m t 0) i % (m : Int) := by rw [low0_zero]
    have eN : qf n G (dgt m t) % (m : Int) = qf n G (low0 m t 0) % (m : Int) := by rw [low0_zero]
    obtain ⟨C, hC⟩ : ∃ C, (vecL m fun r => ((cnt n G m t r : Nat) : Int)) = C := ⟨_, rfl⟩
    obtain ⟨C2, hC2⟩ : ∃ C, (vecL m fun r => ((cnt n G m (t + 1) r : Nat) : Int)) = C := ⟨_, rfl⟩
    obtain ⟨X, hX⟩ : ∃ X, vecL n (dgt m t) = X := ⟨_, rfl⟩
    obtain ⟨V, hV⟩ : ∃ V, (vecL n fun i => gx n G (dgt m t) i % (m : Int)) = V := ⟨_, rfl⟩
    obtain ⟨N, hN⟩ : ∃ N, qf n G (dgt m t) % (m : Int) = N := ⟨_, rfl⟩
    have sC' := sC N hN.symm
    rw [hC] at lC gC sC'
    rw [hC2] at sC'
    rw [hX] at lX eX
    rw [hV] at eV
    rw [hN] at bN0 bN1 eN
    rw [hC, hX, hV, hN]
    have gN := gC N.toNat (by omega)
    have hc := hcl N.toNat
    generalize cnt n G m t N.toNat = cN at *
    refine Means.go progOK hJX [] 400 fun L Z hL hZ => ?_
    conv => cbv
    subst hL hZ
    dsimp only [std, deep]
    rw [gN, show ((D.int (cN : Int)).at []).toInt = (cN : Int) from rfl, show IntKind.i64.wrap ((cN : Int) + 1) = ((cN + 1 : Nat) : Int) by rw [wrap64 _ (by omega) (by omega)]; rfl, show (D.int (cN : Int)).put [] (.int ((cN + 1 : Nat) : Int)) = .int ((cN + 1 : Nat) : Int) from rfl, sC']
    refine ⟨by omega, by omega, by omega, by omega, trivial, ?_⟩
    refine Means.begin (α := Nat) (fun i => [(51, made 2 C2), (54, made 2 (vecL n (low0 m t i))), (57, made 2 (vecL n fun j => gx n G (low0 m t i) j % (m : Int)))])
      (fun i => [(9, .int .i64 mI), (11, .imm 31 false W), (13, .top 51 0), (14, .top 54 0), (15, .int .i64 (qf n G (low0 m t i) % (m : Int))), (16, .top 57 0), (65, .int .i64 n), (66, .int .i64 i)]) (fun i => i ≤ n ∧ t % m ^ i = m ^ i - 1) (fun i => n - i) 0 rfl rfl rfl
      ⟨rfl, rfl, eN, (by rw [← lX]), rfl, trivial⟩ ⟨rfl, eX, (by rw [← eV]; rfl), trivial⟩ ⟨Nat.zero_le _, by rw [Nat.pow_zero, Nat.mod_one]⟩ ?_
    rintro i ⟨hi, hlow⟩ ih2
    rcases Nat.lt_or_ge i n with hlt | hge
    · obtain ⟨y, hy⟩ : ∃ y, low0 m t i = y := ⟨_, rfl⟩
      have hyi : y i = ((t / m ^ i % m : Nat) : Int) := by rw [← hy, low0, if_neg (by omega)]; rfl
      have hq1 := qf_step hG y hlt
      have hg1 := fun j => gx_step (G := G) y hlt j
      obtain ⟨z, hz⟩ : ∃ z : Nat → Int, (fun j => y j + unit i j) = z := ⟨_, rfl⟩
      rw [hz] at hq1 hg1
      have hzx : (vecL n y).set i (.int (y i + 1)) = vecL n z := vecL_set (by rw [← hz]; show y i + unit i i = _; rw [unit, if_pos rfl]) fun j _ hne => by
        rw [← hz]; show y j = y j + unit i j; rw [unit, if_neg hne, Int.add_zero]
      have hzi : z i = y i + 1 := by rw [← hz]; show y i + unit i i = _; rw [unit, if_pos rfl]
      have b0 : 0 ≤ qf n G y % (m : Int) := Int.emod_nonneg _ (by omega)
      have b1 : qf n G y % (m : Int) < (m : Int) := Int.emod_lt_of_pos _ (by omega)
      have b2 : ∀ j, 0 ≤ gx n G y j % (m : Int) ∧ gx n G y j % (m : Int) < (m : Int) := fun j => ⟨Int.emod_nonneg _ (by omega), Int.emod_lt_of_pos _ (by omega)⟩
      have b3 := hG2 i i
      have gWi := gW i hlt
      have lWi := rowI_length n G i
      have gWii := rowI_get (n := n) G i hlt
      have gWij := fun (j : Nat) (h : j < n) => rowI_get (n := n) G i h
      have hqm : (qf n G y % (m : Int) + 2 * (gx n G y i % (m : Int)) + G i i) % (m : Int) = qf n G z % (m : Int) := by
        rw [hq1]
        exact mod3 _ _ _ _
      have lV := vecL_length n fun j => gx n G y j % (m : Int)
      have gV := fun (j : Nat) (h : j < n) => vecL_get (n := n) (fun j => gx n G y j % (m : Int)) h
      have lY := vecL_length n y
      have gY := vecL_get (n := n) y hlt
      have eV0 : (vecL n fun j => gx n G y j % (m : Int)) = vecL n fun b => (if b < 0 then gx n G z b else gx n G y b) % (m : Int) := vecL_congr fun b _ => by rw [if_neg (by omega)]
      rw [hy]
      obtain ⟨r, hr⟩ : ∃ r, rowI n G i = r := ⟨_, rfl⟩
      rw [hr] at gWi lWi gWii gWij
      obtain ⟨V2, hV2⟩ : ∃ V, (vecL n fun j => gx n G y j % (m : Int)) = V := ⟨_, rfl⟩
      obtain ⟨Y, hY⟩ : ∃ V, vecL n y = V := ⟨_, rfl⟩
      rw [hV2] at lV gV eV0
      rw [hY] at lY gY hzx
      rw [hV2, hY]
      have gVi := gV i hlt
      obtain ⟨N1, hN1⟩ : ∃ N, qf n G y % (m : Int) = N := ⟨_, rfl⟩
      obtain ⟨N2, hN2⟩ : ∃ N, qf n G z % (m : Int) = N := ⟨_, rfl⟩
      obtain ⟨wi, hwi⟩ : ∃ N, gx n G y i % (m : Int) = N := ⟨_, rfl⟩
      obtain ⟨gii, hgii⟩ : ∃ N, G i i = N := ⟨_, rfl⟩
      have b2i := b2 i
      rw [hN1] at b0 b1
      rw [hwi] at b2i
      rw [hN1, hwi, hgii, hN2] at hqm
      rw [hwi] at gVi
      rw [hgii] at b3 gWii
      rw [hN1]
      obtain ⟨iI, hiI⟩ : ∃ N : Int, (i : Int) = N := ⟨_, rfl⟩
      obtain ⟨nI, hnI⟩ : ∃ N : Int, (n : Int) = N := ⟨_, rfl⟩
      rw [hiI, hnI]
      refine Means.go progOK hJX [.tk true] 400 fun L Z hL hZ => ?_
      conv => cbv
      subst hL hZ
      dsimp only [std, deep]
      rw [show iI.toNat = i by omega, gWi, show (D.list r).els = r from rfl, gVi, gWii, show ((D.int wi).at []).toInt = wi from rfl, show (D.int gii).toInt = gii from rfl]
      rw [wrap64 (2 * wi) (by omega) (by omega), wrap64 (N1 + 2 * wi) (by omega) (by omega), wrap64 (N1 + 2 * wi + gii) (by omega) (by omega),
        Int.tmod_eq_emod_of_nonneg (by omega), ← hmI, hqm]
      refine ⟨by simp; omega, by omega, by omega, by omega, by omega, by omega, by omega, by omega, ?_⟩
      have eVz : ∀ j, j < n → (vecL n fun b => (if b < j then gx n G z b else gx n G y b) % (m : Int)).set j (.int (gx n G z j % (m : Int))) = vecL n fun b => (if b < j + 1 then gx n G z b else gx n G y b) % (m : Int) := fun j hj =>
        vecL_set (by show (if j < j + 1 then gx n G z j else gx n G y j) % (m : Int) = _; rw [if_pos (by omega)]) fun b _ hne => by
          by_cases hb : b < j
          · rw [if_pos hb, if_pos (by omega)]
          · rw [if_neg hb, if_neg (by omega)]
      have lVj := fun j => vecL_length n fun b => (if b < j then gx n G z b else gx n G y b) % (m : Int)
      have gVj : ∀ j, j < n → (vecL n fun b => (if b < j then gx n G z b else gx n G y b) % (m : Int)).getD j .nil = .int (gx n G y j % (m : Int)) := fun j hj => by
        rw [vecL_get _ hj, if_neg (by omega)]
      have eVn : (vecL n fun b => (if b < n then gx n G z b else gx n G y b) % (m : Int)) = vecL n fun b => gx n G z b % (m : Int) := vecL_congr fun b hb => by rw [if_pos hb]
      refine Means.begin (α := Nat) (fun j => [(51, made 2 C2), (54, made 2 Y), (57, made 2 (vecL n fun b => (if b < j then gx n G z b else gx n G y b) % (m : Int)))])
        (fun j => [(9, .int .i64 m), (11, .imm 31 false W), (13, .top 51 0), (14, .top 54 0), (15, .int .i64 N2), (16, .top 57 0), (17, .int .i64 iI), (65, .int .i64 nI), (66, .int .i64 iI), (87, .int .i64 nI), (88, .int .i64 j)]) (fun j => j ≤ n) (fun j => n - j) 0 rfl rfl rfl
        ⟨rfl, rfl, rfl, rfl, rfl, rfl, (by omega), rfl, trivial⟩ ⟨rfl, rfl, eV0, trivial⟩ (Nat.zero_le _) ?_
      intro j hj ih3
      obtain ⟨jI, hjI⟩ : ∃ N : Int, (j : Int) = N := ⟨_, rfl⟩
      rw [hjI]
      rcases Nat.lt_or_ge j n with hlt2 | hge2
      · have gj := gVj j hlt2
        have lj := lVj j
        have sj := eVz j hlt2
        have gr := gWij j hlt2
        have hgj := hg1 j
        have b4 := b2 j
        have b5 := hG2 i j
        rw [hG j i hlt2 hlt] at hgj
        have hval : (gx n G y j % (m : Int) + G i j) % (m : Int) = gx n G z j % (m : Int) := by rw [hgj, Int.emod_add_emod]
        generalize G i j = gij at *
        obtain ⟨A, hA⟩ : ∃ V, (vecL n fun b => (if b < j then gx n G z b else gx n G y b) % (m : Int)) = V := ⟨_, rfl⟩
        have ih4 := ih3 (j + 1) hlt2 (by omega)
        obtain ⟨B, hB⟩ : ∃ V, (vecL n fun b => (if b < j + 1 then gx n G z b else gx n G y b) % (m : Int)) = V := ⟨_, rfl⟩
        obtain ⟨wj, hwj⟩ : ∃ N, gx n G y j % (m : Int) = N := ⟨_, rfl⟩
        obtain ⟨wz, hwz⟩ : ∃ N, gx n G z j % (m : Int) = N := ⟨_, rfl⟩
        rw [hA, hwj] at gj
        rw [hA] at lj
        rw [hA, hwz, hB] at sj
        rw [hwj] at b4
        rw [hwj, hwz] at hval
        rw [hB] at ih4
        rw [hA]
        rw [hmI] at b4 hval ih4 ⊢
        refine Means.go progOK hJX [.tk true] 400 fun L Z hL hZ => ?_
        conv => cbv
        subst hL hZ
        dsimp only [std, deep]
        rw [show jI.toNat = j by omega, show iI.toNat = i by omega, gWi, show (D.list r).els = r from rfl, gj, gr, show ((D.int wj).at []).toInt = wj from rfl, show (D.int gij).toInt = gij from rfl,
          wrap64 (wj + gij) (by omega) (by omega), Int.tmod_eq_emod_of_nonneg (by omega), hval, show (D.int wj).put [] (.int wz) = .int wz from rfl, sj]
        refine ⟨by simp; omega, by omega, by omega, by omega, by omega, by omega, by omega, by omega, by omega, by omega, trivial, ?_⟩
        exact ih4.to rfl rfl rfl ⟨rfl, rfl, rfl, rfl, rfl, rfl, rfl, (by rw [wrap64 _ (by omega) (by omega)]; omega), trivial⟩ ⟨rfl, rfl, rfl, trivial⟩
      · have hjn : j = n := by omega
        subst hjn
        rw [eVn]
        have gYi : Y.getD i .nil = .int (y i) := gY
        obtain ⟨A, hA⟩ : ∃ V, (vecL j fun b => gx j G z b % (m : Int)) = V := ⟨_, rfl⟩
        have hlt3 := Nat.mod_lt (t / m ^ i) (show 0 < m by omega)
        obtain ⟨xi, hxi⟩ : ∃ N, y i = N := ⟨_, rfl⟩
        rw [hxi] at gYi hyi hzx hzi
        have hgo : xi + 1 < mI → (fun j => low0 m t i j + unit i j) = dgt m (t + 1) := fun h => (dgt_next (by omega) hlow (by omega)).symm
        have hgt : xi + 1 < mI → t + 1 < m ^ j := fun h => lt_last (by omega) hlt ht (by omega)
        rw [hA]
        have lz := vecL_length j z
        have gz := vecL_get (n := j) z hlt
        rw [hzi] at gz
        have sz : (vecL j z).set i (.int 0) = vecL j (low0 m t (i + 1)) := vecL_set (by rw [low0, if_pos (by omega)]) fun b _ hne => by
          rw [← hz, ← hy]; show low0 m t i b + unit i b = _
          rw [unit, if_neg hne, Int.add_zero]
          unfold low0
          by_cases hb : b < i
          · rw [if_pos hb, if_pos (by omega)]
          · rw [if_neg hb, if_neg (by omega)]
        have hmodz : ¬ xi + 1 < mI → ∀ b, b < j → z b % (m : Int) = low0 m t (i + 1) b % (m : Int) := fun h b _ => by
          rw [← hz, ← hy]; show (low0 m t i b + unit i b) % _ = _
          unfold unit low0
          rcases Nat.lt_trichotomy b i with hb | hb | hb
          · rw [if_pos hb, if_neg (by omega), if_pos (by omega)]; rfl
          · subst hb
            rw [if_neg (by omega), if_pos rfl, if_pos (by omega)]
            have : dgt m t b + 1 = (m : Int) := by
              have e : dgt m t b = ((t / m ^ b % m : Nat) : Int) := rfl
              rw [e]; omega
            rw [this, Int.emod_self]; rfl
          · rw [if_neg (by omega), if_neg (by omega), if_neg (by omega), Int.add_zero]
        obtain ⟨B, hB⟩ : ∃ V, vecL j z = V := ⟨_, rfl⟩
        rw [hB] at lz gz sz hzx
        rw [hmI]
        refine Means.go progOK hJX [.tk false, .fork [] []] 400 fun L Z hL hZ => ?_
        conv => cbv
        subst hL hZ
        dsimp only [std, deep]
        rw [show iI.toNat = i by omega, gYi, show ((D.int xi).at []).toInt = xi from rfl, wrap64 (xi + 1) (by omega) (by omega), show (D.int xi).put [] (.int (xi + 1)) = .int (xi + 1) from rfl, hzx, gz,
          show ((D.int (xi + 1)).at []).toInt = xi + 1 from rfl, show (D.int (xi + 1)).put [] (.int 0) = .int 0 from rfl, sz]
        refine ⟨by simp; omega, by omega, by omega, by omega, by omega, trivial, by omega, by omega, fun h => ?_, fun h => ⟨by omega, by omega, trivial, ?_⟩⟩ <;> simp only [decide_eq_true_eq, decide_eq_false_iff_not] at h
        · have hzd : z = dgt m (t + 1) := by rw [← hz, ← hy]; exact hgo h
          exact (ih (t + 1) (hgt h) (by omega)).to rfl rfl rfl ⟨rfl, rfl, (by rw [← hN2, hzd]), trivial⟩ ⟨hC2.symm, (by show B = vecL j (dgt m (t + 1)); rw [← hzd]; exact hB.symm), (by show A = vecL j fun i => gx j G (dgt m (t + 1)) i % (m : Int); rw [← hzd]; exact hA.symm), trivial⟩
        · refine (ih2 (i + 1) ⟨hlt, low_next (by omega) hlow (by omega)⟩ (by omega)).to rfl rfl rfl ⟨rfl, rfl, (by rw [← hN2]; exact qf_mod (hmodz h)), hnI.symm, (by rw [wrap64 _ (by omega) (by omega)]; omega), trivial⟩ ⟨rfl, rfl, ?_, trivial⟩
          show A = vecL j fun b => gx j G (low0 m t (i + 1)) b % (m : Int)
          rw [← hA]
          exact vecL_congr fun b _ => gx_mod (hmodz h) b
    · have hin : i = n := by omega
      rw [hin] at hlow
      rw [Nat.mod_eq_of_lt ht] at hlow
      have hCR : C2 = R := by rw [← hC2, ← hR, show t + 1 = m ^ n by omega]
      obtain ⟨A1, hA1⟩ : ∃ V, vecL n (low0 m t i) = V := ⟨_, rfl⟩
      obtain ⟨A2, hA2⟩ : ∃ V, (vecL n fun j => gx n G (low0 m t i) j % (m : Int)) = V := ⟨_, rfl⟩
      obtain ⟨A3, hA3⟩ : ∃ V, qf n G (low0 m t i) % (m : Int) = V := ⟨_, rfl⟩
      rw [hA1, hA2, hA3]
      obtain ⟨iI, hiI⟩ : ∃ N : Int, (i : Int) = N := ⟨_, rfl⟩
      obtain ⟨nI, hnI⟩ : ∃ N : Int, (n : Int) = N := ⟨_, rfl⟩
      rw [hiI, hnI]
      refine Means.go progOK hJX [.tk false] 400 fun L Z hL hZ => ?_
      conv => cbv
      subst hL hZ
      dsimp only [std, deep]
      exact ⟨by simp; omega, hCR, trivial, trivial⟩
end Go.VI

namespace Go.VI
open Go.Proofs
set_option maxRecDepth 20000

/-- The exponent of p in n. -/
def expN (p n : Nat) : Nat := (strip p 32 n 0).2
set_option maxHeartbeats 1000000 in
theorem exponent_ok (n p : Nat) (hn : 1 ≤ n) (hn2 : n ≤ 2147483647) (hp : 2 ≤ p) (hp2 : p ≤ 2147483647) :
    Ok Tryz.prog tab 44 [.int .i64 n, .int .i64 p] [] (.v (.int .i64 (expN p n : Nat))) [] := by
  obtain ⟨rz, hrz⟩ : ∃ z : Nat, expN p n = z := ⟨_, rfl⟩
  obtain ⟨rI, hrI⟩ : ∃ z : Int, (rz : Int) = z := ⟨_, rfl⟩
  obtain ⟨nI, hnI⟩ : ∃ z : Int, (n : Int) = z := ⟨_, rfl⟩
  obtain ⟨pI, hpI⟩ : ∃ z : Int, (p : Int) = z := ⟨_, rfl⟩
  rw [hrz, hrI, hnI, hpI]
  refine Ok.go progOK [] [] 400 Tryz.func44 rfl rfl rfl fun J hJX L Z hL hZ => ?_
  conv => cbv
  subst hL hZ
  dsimp only [std, deep]
  refine Means.begin (α := Nat × Nat) (fun _ => []) (fun s => [(0, .int .i64 (s.1 : Nat)), (1, .int .i64 pI), (5, .int .i64 (s.2 : Nat))])
    (fun s => ∃ f, s.1 < 2 ^ f ∧ 1 ≤ s.1 ∧ s.1 ≤ n ∧ s.2 + f ≤ 32 ∧ (strip p f s.1 s.2).2 = rz) (fun s => s.1) (n, 0) rfl rfl rfl
    ⟨hnI.symm, rfl, rfl, trivial⟩ trivial ⟨32, by dsimp only; omega, hn, Nat.le_refl _, by dsimp only; omega, hrz⟩ ?_
  rintro ⟨a, e⟩ ⟨g, ha, ha1, ha2, he, hst⟩ ih
  dsimp only at ha ha1 ha2 he hst ih ⊢
  obtain ⟨aI, haI⟩ : ∃ r : Int, (a : Int) = r := ⟨_, rfl⟩
  obtain ⟨eI, heI⟩ : ∃ r : Int, (e : Int) = r := ⟨_, rfl⟩
  rw [haI, heI]
  obtain ⟨g, rfl⟩ : ∃ k, g = k + 1 := by
    cases g with
    | zero => simp at ha; omega
    | succ g => exact ⟨g, rfl⟩
  have v1 : aI.tmod pI = ((a % p : Nat) : Int) := by rw [← haI, ← hpI]; exact (Int.ofNat_tmod a p).symm
  have v2 : aI.tdiv pI = ((a / p : Nat) : Int) := by rw [← haI, ← hpI]; exact (Int.ofNat_tdiv a p).symm
  have hda : a / p ≤ a / 2 := Nat.div_le_div_left hp (by decide)
  have v3 : IntKind.i64.wrap ((a / p : Nat) : Int) = ((a / p : Nat) : Int) := wrapN (by omega)
  refine Means.go progOK hJX [.fork [] []] 400 fun L Z hL hZ => ?_
  conv => cbv
  subst hL hZ
  dsimp only [std, deep]
  rw [v1, v2, v3]
  refine ⟨by omega, fun h3 => ⟨by omega, ?_⟩, fun h3 => ⟨?_, trivial⟩⟩ <;> simp only [beq_iff_eq, beq_eq_false_iff_ne, ne_eq] at h3
  · have h0 : a % p = 0 := by omega
    rw [strip, if_pos h0] at hst
    have hpos : 1 ≤ a / p := Nat.div_pos (Nat.le_of_dvd ha1 (Nat.dvd_of_mod_eq_zero h0)) (by omega)
    rw [Nat.pow_succ] at ha
    exact (ih (a / p, e + 1) ⟨g, by dsimp only; omega, hpos, by dsimp only; omega, by dsimp only; omega, hst⟩ (by dsimp only; omega)).to rfl rfl rfl ⟨rfl, rfl, (by show IntKind.i64.wrap (eI + 1) = ((e + 1 : Nat) : Int); rw [wrap64 _ (by omega) (by omega)]; omega), trivial⟩ trivial
  · have h0 : ¬ a % p = 0 := by omega
    rw [strip, if_neg h0] at hst
    dsimp only at hst
    omega

theorem expN_le (p n : Nat) : expN p n ≤ 32 := by have := strip_exp p 32 n 0; unfold expN; omega

/-- The local density, by counting. -/
def densR (n : Nat) (G : Nat → Nat → Int) (p m : Nat) : Rat :=
  (((cnt n G (p ^ (2 * expN p (2 * m) + 1)) ((p ^ (2 * expN p (2 * m) + 1)) ^ n) (m % p ^ (2 * expN p (2 * m) + 1)) : Nat) : Int) : Rat) / (((p ^ (2 * expN p (2 * m) + 1) : Nat) : Int) : Rat) ^ (((n - 1 : Nat) : Int))

theorem zpow_nat_ne {q : Rat} (h : q ≠ 0) (k : Nat) : q ^ ((k : Nat) : Int) ≠ 0 := by
  rw [Rat.zpow_natCast]
  induction k with
  | zero => rw [Rat.pow_zero]; decide
  | succ k ih => rw [Rat.pow_succ]; intro e; rcases Rat.mul_eq_zero.1 e with e | e <;> contradiction

set_option maxHeartbeats 1000000 in
theorem density_ok {h : List (List Int)} {n : Nat} (hq : SqI h n) (hn : n ≤ 8) (hr : redI n (ent h) = true) (p : Nat) (h1 : 2 ≤ p) (h2 : p ≤ 9973) (hp : isP p = true) (m : Nat) (hm1 : 1 ≤ m) (hm2 : m ≤ 1000)
    (hall : p ^ ((2 * expN p (2 * m) + 1) * n) ≤ 2097152) :
    Ok Tryz.prog tab 20 [.imm 31 false (intF n (ent h)), .int .i64 p, .int .i64 m] [] (.tup [.v (.agg 43 (ratD (densR n (ent h) p m))), .v (.int .i64 0)]) [] := by
  have hn1 := hq.lo
  have c1 := check_ok hq hn hr p h1 h2 hp
  have c2 := exponent_ok (2 * m) p (by omega) (by omega) h1 (by omega)
  have hel := expN_le p (2 * m)
  have c3 := counts_ok hq hn hr p h1 h2 hp (2 * expN p (2 * m) + 1) (by omega) hall
  obtain ⟨e, he⟩ : ∃ e, expN p (2 * m) = e := ⟨_, rfl⟩
  have hm3 : p ^ (2 * e + 1) ≤ 2097152 := by rw [he] at hall; exact Nat.le_trans (Nat.pow_le_pow_right (by omega) (Nat.le_mul_of_pos_right _ (by omega))) hall
  have hm4 : 0 < p ^ (2 * e + 1) := Nat.pow_pos (by omega)
  unfold densR
  rw [he] at c2 c3 hel ⊢
  obtain ⟨M, hM⟩ : ∃ z, p ^ (2 * e + 1) = z := ⟨_, rfl⟩
  rw [hM] at hm3 hm4 c3 ⊢
  have hmod := Nat.mod_lt m hm4
  have lC : (cntL n (ent h) M).length = M := vecL_length _ _
  have gC : (cntL n (ent h) M).getD (m % M) .nil = .int ((cnt n (ent h) M (M ^ n) (m % M) : Nat) : Int) := vecL_get _ hmod
  have hcl := cnt_le n (ent h) M (M ^ n) (m % M)
  have hMn : M ^ n ≤ 2097152 := by rw [← hM, ← Nat.pow_mul, ← he]; exact hall
  have lH := intF_length n (ent h)
  generalize cnt n (ent h) M (M ^ n) (m % M) = c at *
  generalize cntL n (ent h) M = C at *
  generalize intF n (ent h) = H at *
  have ic : I64 (c : Int) := ⟨by omega, by omega⟩
  have iM : I64 (M : Int) := ⟨by omega, by omega⟩
  have c4 := swhole_ok c ic
  have c5 := swhole_ok M iM
  have sM := SzR.i64 iM
  have c6 := spower_ok ((M : Int) : Rat) ((n - 1 : Nat) : Int) (by omega) (by omega) (fun h => by omega) (sM.mono (by decide))
  have hM0 : ((M : Int) : Rat) ≠ 0 := fun e => by have := Rat.intCast_eq_zero_iff.1 e; omega
  have c7 := over_ok ((c : Int) : Rat) (((M : Int) : Rat) ^ ((n - 1 : Nat) : Int)) (zpow_nat_ne hM0 _) ((SzR.i64 ic).mono (by decide)) ((sM.zpow _).mono (by omega))
  obtain ⟨b1, l1, k1, m1, e1⟩ := ratD_ex ((c : Int) : Rat)
  obtain ⟨b2, l2, k2, m2, e2⟩ := ratD_ex ((M : Int) : Rat)
  obtain ⟨b3, l3, k3, m3, e3⟩ := ratD_ex (((M : Int) : Rat) ^ ((n - 1 : Nat) : Int))
  obtain ⟨b4, l4, k4, m4, e4⟩ := ratD_ex (((c : Int) : Rat) / ((M : Int) : Rat) ^ ((n - 1 : Nat) : Int))
  rw [e4]
  rw [e1] at c4
  rw [e2] at c5
  rw [e2, e3] at c6
  rw [e1, e3, e4] at c7
  obtain ⟨pI, hpI⟩ : ∃ z : Int, (p : Int) = z := ⟨_, rfl⟩
  obtain ⟨mI, hmI⟩ : ∃ z : Int, (m : Int) = z := ⟨_, rfl⟩
  obtain ⟨eI, heI⟩ : ∃ z : Int, (e : Int) = z := ⟨_, rfl⟩
  obtain ⟨cI, hcI⟩ : ∃ z : Int, (c : Int) = z := ⟨_, rfl⟩
  rw [hpI, show ((2 * m : Nat) : Int) = 2 * mI by omega, heI] at c2
  rw [hpI] at c1
  rw [hpI, show ((2 * e + 1 : Nat) : Int) = 2 * eI + 1 by omega] at c3
  rw [hcI] at gC c4
  rw [← lC] at c5
  rw [hpI, hmI]
  refine Ok.go progOK [] [.call (.v (.int .i64 0)) [] [], .tk false, .tk false, .call (.v (.int .i64 eI)) [] [], .call (.tup [.v (.imm 2 false C), .v (.int .i64 0)]) [] [], .tk false,
    .call (.v (.agg 43 (.agg [.agg [.bool b1, .list l1], .agg [.bool k1, .list m1]]))) [] [], .call (.v (.agg 43 (.agg [.agg [.bool b2, .list l2], .agg [.bool k2, .list m2]]))) [] [],
    .call (.v (.agg 43 (.agg [.agg [.bool b3, .list l3], .agg [.bool k3, .list m3]]))) [] [], .call (.v (.agg 43 (.agg [.agg [.bool b4, .list l4], .agg [.bool k4, .list m4]]))) [] []] 400 Tryz.func20 rfl rfl rfl fun J hJX L Z hL hZ => ?_
  conv => cbv
  subst hL hZ
  dsimp only [std, deep]
  have w1 : mI.tmod (C.length : Int) = ((m % M : Nat) : Int) := by rw [← hmI, lC]; exact (Int.ofNat_tmod m M).symm
  rw [w1, Int.toNat_natCast, gC, show (D.int cI).toInt = cI from rfl, wrap64 (2 * mI) (by omega) (by omega), wrap64 (2 * eI) (by omega) (by omega), wrap64 (2 * eI + 1) (by omega) (by omega),
    show IntKind.i64.wrap ((H.length : Int) - 1) = ((n - 1 : Nat) : Int) by rw [wrap64 _ (by omega) (by omega)]; omega]
  refine ⟨c1, rfl, fun h => absurd h (by simp; omega), fun _ => ⟨by simp; omega, c2, c3, rfl, ?_⟩⟩
  repeat' first | exact trivial | exact c4 | exact c5 | exact c6 | exact c7 | omega | refine And.intro ?_ ?_
end Go.VI

namespace Go.VI
open Go.Proofs
set_option maxRecDepth 20000

def absR (q : Rat) : Rat := if q.num < 0 then -q else q
theorem absR_sz {k : Nat} {q : Rat} (h : SzR k q) : SzR k (absR q) := by unfold absR; split; exact h.neg; exact h
theorem absR_ne {q : Rat} (h : q ≠ 0) : absR q ≠ 0 := by
  unfold absR; split
  · intro e; exact h (by rw [← Rat.neg_neg q, e]; rfl)
  · exact h
theorem absolute_ok (q : Rat) (hq : SzR big q) : Ok Tryz.prog tab 61 [.agg 43 (ratD q)] [] (.v (.agg 43 (ratD (absR q)))) [] := by
  have h1 := sign_rat q hq
  have h2 := neg_rat q hq
  have h3 : q.num.sign < 0 ↔ q.num < 0 := Int.sign_neg_iff
  obtain ⟨R, hR⟩ : ∃ R, ratD (absR q) = R := ⟨_, rfl⟩
  have k1 : q.num < 0 → ratD (-q) = R := fun h => by rw [← hR, absR, if_pos h]
  have k2 : ¬ q.num < 0 → ratD q = R := fun h => by rw [← hR, absR, if_neg h]
  rw [hR]
  obtain ⟨b, l, c, m, e⟩ := ratD_ex q
  obtain ⟨b2, l2, c2, m2, e2⟩ := ratD_ex (-q)
  obtain ⟨s, hs⟩ : ∃ s, q.num.sign = s := ⟨_, rfl⟩
  rw [e, hs] at h1
  rw [hs] at h3
  rw [e, e2] at h2
  rw [e] at k2
  rw [e2] at k1
  rw [e]
  refine Ok.go progOK [] [.call (.v (.int .i64 s)) [] [], .fork [.call (.v (.agg 43 (.agg [.agg [.bool b2, .list l2], .agg [.bool c2, .list m2]]))) [] []] []] 400 Tryz.func61 rfl rfl rfl fun J hJX L Z hL hZ => ?_
  conv => cbv
  subst hL hZ
  dsimp only [std, deep]
  refine ⟨h1, fun h => ⟨h2, trivial, ?_⟩, fun h => ⟨trivial, ?_⟩⟩ <;> simp only [decide_eq_true_eq, decide_eq_false_iff_not] at h
  · exact ⟨k1 (h3.1 h), trivial⟩
  · exact ⟨k2 (fun h' => h (h3.2 h')), trivial⟩

def negI (z : Int) (s : Nat) : Int := if s % 2 = 1 then -z else z
theorem negated_ok (z : Int) (s : Nat) (hz : -4611686018427387904 ≤ z ∧ z ≤ 4611686018427387904) (hs : s ≤ 1000) : Ok Tryz.prog tab 59 [.int .i64 z, .int .i64 s] [] (.v (.int .i64 (negI z s))) [] := by
  obtain ⟨r, hr⟩ : ∃ r, negI z s = r := ⟨_, rfl⟩
  obtain ⟨sI, hsI⟩ : ∃ r : Int, (s : Int) = r := ⟨_, rfl⟩
  rw [hr, hsI]
  unfold negI at hr
  have v1 : sI.tmod 2 = ((s % 2 : Nat) : Int) := by rw [← hsI]; exact (Int.ofNat_tmod s 2).symm
  refine Ok.go progOK [] [.both] 400 Tryz.func59 rfl rfl rfl fun J hJX L Z hL hZ => ?_
  conv => cbv
  subst hL hZ
  dsimp only [std, deep]
  rw [v1, wrap64 (0 - z) (by omega) (by omega)]
  refine ⟨by decide, fun h => ⟨?_, trivial⟩, fun h => ⟨?_, trivial⟩⟩ <;> simp only [beq_iff_eq, beq_eq_false_iff_ne, ne_eq] at h
  · rw [if_pos (by omega)] at hr; omega
  · rw [if_neg (by omega)] at hr; exact hr

def isq : Nat → Nat → Nat
  | 0, _ => 0
  | f + 1, n => if n = 0 then 0 else if (2 * isq f (n / 4) + 1) * (2 * isq f (n / 4) + 1) ≤ n then 2 * isq f (n / 4) + 1 else 2 * isq f (n / 4)
/-- The floor of the root of a number below 2^64. -/
def rootN (n : Nat) : Nat := isq 32 n
theorem isq_ok : ∀ f n, n < 4 ^ f → isq f n * isq f n ≤ n ∧ n < (isq f n + 1) * (isq f n + 1)
  | 0, n, h => by
    rw [Nat.pow_zero] at h
    have : n = 0 := by omega
    subst this; exact ⟨Nat.le_refl _, by decide⟩
  | f + 1, n, h => by
    rw [Nat.pow_succ] at h
    have ih := isq_ok f (n / 4) (by omega)
    unfold isq
    split
    · rename_i h0; subst h0; exact ⟨Nat.le_refl _, by decide⟩
    · generalize isq f (n / 4) = r at *
      have e1 : (2 * r + 1) * (2 * r + 1) = 4 * (r * r) + 4 * r + 1 := by
        rw [Nat.add_mul, Nat.mul_add, Nat.one_mul, Nat.mul_one, Nat.mul_mul_mul_comm]; omega
      have e2 : 2 * r * (2 * r) = 4 * (r * r) := by rw [Nat.mul_mul_mul_comm]
      have e3 : (r + 1) * (r + 1) = r * r + 2 * r + 1 := by rw [Nat.add_mul, Nat.mul_add, Nat.one_mul, Nat.mul_one]; omega
      have e4 : (2 * r + 1 + 1) * (2 * r + 1 + 1) = 4 * (r * r) + 8 * r + 4 := by
        rw [show 2 * r + 1 + 1 = 2 * (r + 1) by omega, Nat.mul_mul_mul_comm, e3]; omega
      split
      · exact ⟨by assumption, by omega⟩
      · exact ⟨by omega, by omega⟩
theorem rootN_ok {n : Nat} (h : n ≤ 9223372036854775807) : rootN n * rootN n ≤ n ∧ n < (rootN n + 1) * (rootN n + 1) := isq_ok 32 n (by omega)
theorem rootN_le {n : Nat} (h : n ≤ 9223372036854775807) : rootN n ≤ n := by
  have := (rootN_ok h).1
  rcases Nat.eq_zero_or_pos (rootN n) with h0 | h0
  · omega
  · exact Nat.le_trans (Nat.le_mul_of_pos_left _ h0) this
theorem rootN_pos {n : Nat} (h1 : 1 ≤ n) (h : n ≤ 9223372036854775807) : 1 ≤ rootN n := by
  have := (rootN_ok h).2
  rcases Nat.eq_zero_or_pos (rootN n) with h0 | h0
  · rw [h0] at this; omega
  · exact h0
theorem to64_in {z : Int} (h : I64 z) : to64 z = z ∧ in64 z = true := by
  have : in64 z = true := decide_eq_true h
  exact ⟨by rw [to64, if_pos this], this⟩

theorem root_ok (n : Nat) (h : n ≤ 9223372036854775807) :
    Ok Tryz.prog tab 63 [.int .i64 (n : Int)] [] (.v (.int .i64 (rootN n : Int))) [] := by
  have hr := rootN_ok h
  have hle := rootN_le h
  have c1 := small_ok (n : Int) (by omega) (by omega)
  have c2 := sqrt_ok n (rootN n) hr.1 hr.2 (Nat.le_trans (I64.sz (z := (n : Int)) ⟨by omega, by omega⟩) (by decide))
  have c3 := int64_ok (rootN n : Int) (i64_sz ⟨by omega, by omega⟩)
  rw [(to64_in (z := (rootN n : Int)) ⟨by omega, by omega⟩).1, (to64_in (z := (rootN n : Int)) ⟨by omega, by omega⟩).2] at c3
  generalize rootN n = r at *
  obtain ⟨nI, hnI⟩ : ∃ z : Int, (n : Int) = z := ⟨_, rfl⟩
  obtain ⟨rI, hrI⟩ : ∃ z : Int, (r : Int) = z := ⟨_, rfl⟩
  rw [hnI] at c1 c2
  rw [hrI] at c2 c3
  rw [hnI, hrI]
  have h_1 := c1
  have h_2 := c2
  have h_3 := c3
  obtain ⟨b1, l1, e1⟩ := bigD_ex nI
  obtain ⟨b2, l2, e2⟩ := bigD_ex rI
  simp only [e1, e2] at h_1 h_2 h_3 ⊢
  refine Ok.go progOK [] [.call (.v (.agg 41 (.agg [.bool b1, .list l1]))) [] [], .call (.tup [.v (.agg 41 (.agg [.bool b2, .list l2])), .v (.bool true)]) [] [], .call (.tup [.v (.int .i64 rI), .v (.bool true)]) [] []] 400 Tryz.func63 rfl rfl rfl fun J hJX L Z hL hZ => ?_
  conv => cbv
  subst hL hZ
  dsimp only [std, deep]
  repeat' first | exact trivial | exact h_1 | exact h_2 | exact h_3 | refine And.intro ?_ ?_

/-- A reduced form's determinant. -/
theorem redI_det {n : Nat} {F : Nat → Nat → Int} (hn : 1 ≤ n) (h : redI n F = true) : det n F = pivI F n ∧ 0 < pivI F n ∧ pivI F n ≤ 10000 := by
  unfold redI at h
  simp only [Bool.and_eq_true, beq_iff_eq, decide_eq_true_eq] at h
  have hv := h.1.1
  have hd : defiB n F = true := by
    unfold validI at hv
    split at hv
    · split at hv
      · assumption
      · omega
    · omega
  have := defi_piv hd n (Nat.le_refl _)
  exact ⟨this.2 hn, this.1, h.1.2⟩
theorem sdet_ok {h : List (List Int)} {n : Nat} (hq : SqI h n) (hn : n ≤ 8) (hr : redI n (ent h) = true) :
    Ok Tryz.prog tab 57 [.imm 31 false (intF n (ent h))] [] (.v (.int .i64 (pivI (ent h) n))) [] := by
  have c1 := hq.from (by omega)
  rw [hq.intF] at c1
  have c2 := det_ok n (ent h) hq.lo (by omega) 2 (Nat.le_trans (Nat.mul_le_mul_left _ (Nat.pow_le_pow_right (by decide) hn)) (by decide)) (fun i j _ _ => hq.sz i j)
  obtain ⟨d1, d2, d3⟩ := redI_det hq.lo hr
  rw [d1] at c2
  have c3 := int64_ok (pivI (ent h) n) (i64_sz ⟨by omega, by omega⟩)
  rw [(to64_in (z := pivI (ent h) n) ⟨by omega, by omega⟩).1, (to64_in (z := pivI (ent h) n) ⟨by omega, by omega⟩).2] at c3
  generalize pivI (ent h) n = d at *
  generalize intF n (ent h) = H at *
  generalize matF n (ent h) = A at *
  obtain ⟨b, l, e⟩ := bigD_ex d
  rw [e] at c2 c3
  refine Ok.go progOK [] [.call (.tup [.v (.imm 124 false A), .v (.bool true)]) [] [], .call (.tup [.v (.agg 41 (.agg [.bool b, .list l])), .v (.bool true)]) [] [], .call (.tup [.v (.int .i64 d), .v (.bool true)]) [] []] 400 Tryz.func57 rfl rfl rfl fun J hJX L Z hL hZ => ?_
  conv => cbv
  subst hL hZ
  dsimp only [std, deep]
  repeat' first | exact trivial | exact c1 | exact c2 | exact c3 | refine And.intro ?_ ?_

end Go.VI

namespace Go.VI
open Go.Proofs
set_option maxRecDepth 20000

/-- The decimal digits, the lowest first. -/
def digGo : Nat → Nat → List D
  | 0, _ => []
  | f + 1, r => if r = 0 then [] else .int (48 + (r % 10 : Nat)) :: digGo f (r / 10)
def decS (z : Nat) : ByteArray := bytesD (digGo 8 z).reverse
theorem digGo_len : ∀ f r, (digGo f r).length ≤ f
  | 0, _ => Nat.le_refl _
  | f + 1, r => by
    unfold digGo
    split
    · exact Nat.zero_le _
    · rw [List.length_cons]; have := digGo_len f (r / 10); omega

theorem getD_append_left {a b : List D} {i : Nat} (h : i < a.length) : (a ++ b).getD i .nil = a.getD i .nil := by
  rw [List.getD_eq_getElem?_getD, List.getElem?_append_left h, ← List.getD_eq_getElem?_getD]
theorem getD_reverse {a : List D} {i : Nat} (h : i < a.length) : a.reverse.getD i .nil = a.getD (a.length - 1 - i) .nil := by
  rw [List.getD_eq_getElem?_getD, List.getElem?_reverse h, ← List.getD_eq_getElem?_getD]

set_option maxHeartbeats 2000000 in
theorem format_ok (z : Nat) (h1 : 1 ≤ z) (h2 : z < 100000000) : Ok Tryz.prog tab 166 [.agg 41 (bigD z)] [] (.v (.str (decS z))) [] := by
  have hno := normalize_ok (z : Int) (i64_sz ⟨by omega, by omega⟩)
  have hsd := shortDivide_ok (limbs z) 1000000000 (word_limbs z) (by have : Sz 2 (z : Int) := I64.sz ⟨by omega, by omega⟩; exact Nat.le_trans this (by decide)) (by decide) (by decide)
  rw [val_limbs, Nat.div_eq_of_lt (show z < 1000000000 by omega), limbs_zero, Nat.mod_eq_of_lt (show z < 1000000000 by omega), show lim [] = [] from rfl] at hsd
  have hl0 : (lim (limbs z)).length ≠ 0 := by
    rw [lim_length]
    intro e
    have := List.length_eq_zero_iff.1 e
    rw [← val_limbs z, this] at h1
    simp [val] at h1
  have eb : bigD (z : Int) = .agg [.bool false, .list (lim (limbs z))] := by
    unfold bigD; rw [Int.natAbs_natCast, decide_eq_false (by omega)]
  rw [eb] at hno
  rw [eb]
  generalize lim (limbs z) = l at *
  obtain ⟨full, hfu⟩ : ∃ L, digGo 8 z = L := ⟨_, rfl⟩
  have hfl := digGo_len 8 z
  unfold decS
  rw [hfu] at hfl ⊢
  obtain ⟨R, hR⟩ : ∃ R, full.reverse = R := ⟨_, rfl⟩
  rw [hR]
  have lR : R.length = full.length := by rw [← hR, List.length_reverse]
  have gR : ∀ i, i < full.length → R.getD i .nil = full.getD (full.length - 1 - i) .nil := fun i h => by rw [← hR]; exact getD_reverse h
  obtain ⟨zI, hzI⟩ : ∃ y : Int, (z : Int) = y := ⟨_, rfl⟩
  rw [hzI] at hsd
  refine Ok.go progOK [] [.call (.v (.agg 41 (.agg [.bool false, .list l]))) [] [], .tk false] 400 Tryz.func166 rfl rfl rfl fun J hJX L Z hL hZ => ?_
  conv => cbv
  subst hL hZ
  dsimp only [std, deep]
  refine ⟨hno, beq_eq_false_iff_ne.2 (by omega), ?_⟩
  refine Means.born 4 44 5 rfl rfl rfl ?_
  refine Means.begin (α := Bool) (fun b => [(1, boxed 41 (.agg [.bool false, .list l])), (44, grown 5 (bif b then [] else full))])
    (fun b => [(1, .addr 1 0 0 [] 41), (3, .imm 169 false (bif b then l else [])), (4, .top 44 0)]) (fun _ => True) (fun b => bif b then 1 else 0) true rfl rfl rfl
    ⟨rfl, rfl, trivial⟩ ⟨rfl, rfl, trivial⟩ trivial ?_
  rintro b - ih
  cases b
  · dsimp only [cond_false]
    obtain ⟨nI, hnI⟩ : ∃ y : Int, (full.length : Int) = y := ⟨_, rfl⟩
    refine Means.go progOK hJX [.tk false, .tk false] 400 fun L Z hL hZ => ?_
    conv => cbv
    subst hL hZ
    dsimp only [std, deep]
    rw [hnI, show nI.toNat = full.length by omega]
    refine ⟨by simp, trivial, trivial, by omega, by omega, by omega, ?_⟩
    refine Means.begin (α := Nat) (fun i => [(1, boxed 41 (.agg [.bool false, .list l])), (44, grown 5 full), (54, made 5 (R.take i ++ List.replicate (full.length - i) (.int 0)))])
      (fun i => [(4, .top 44 0), (8, .top 54 0), (56, .int .i64 nI), (57, .int .i64 i)]) (fun i => i ≤ full.length) (fun i => full.length - i) 0 rfl rfl rfl
      ⟨rfl, rfl, trivial⟩ ⟨rfl, rfl, rfl, trivial⟩ (Nat.zero_le _) ?_
    intro i hi ih2
    obtain ⟨iI, hiI⟩ : ∃ y : Int, (i : Int) = y := ⟨_, rfl⟩
    obtain ⟨E, hE⟩ : ∃ E, R.take i ++ List.replicate (full.length - i) (.int 0) = E := ⟨_, rfl⟩
    have lE : E.length = full.length := by rw [← hE]; simp; omega
    rw [hE, hiI]
    rcases Nat.lt_or_ge i full.length with hlt | hge
    · have gi := gR i hlt
      have hdig : ∃ x : Int, full.getD (full.length - 1 - i) .nil = .int x := by
        have : ∀ f r j, j < (digGo f r).length → ∃ x : Int, (digGo f r).getD j .nil = .int x := by
          intro f
          induction f with
          | zero => intro r j h; simp [digGo] at h
          | succ f ihf =>
            intro r j h
            unfold digGo at h ⊢
            split
            · rename_i h0; rw [if_pos h0] at h; simp at h
            · rename_i h0
              rw [if_neg h0] at h
              cases j with
              | zero => exact ⟨_, rfl⟩
              | succ j => simp only [List.getD_cons_succ]; exact ihf _ j (by simpa using h)
        have h3 := this 8 z (full.length - 1 - i)
        rw [hfu] at h3
        exact h3 (by omega)
      obtain ⟨x, hx⟩ := hdig
      rw [hx] at gi
      have lk := ih2 (i + 1) hlt (by omega)
      have sE : E.set i (.int x) = R.take (i + 1) ++ List.replicate (full.length - (i + 1)) (.int 0) := by
        rw [← hE, set_fill' _ _ _ _ _ (by rw [List.length_take]; omega) hlt, take_app (by omega) gi]
      obtain ⟨E2, hE2⟩ : ∃ E, R.take (i + 1) ++ List.replicate (full.length - (i + 1)) (.int 0) = E := ⟨_, rfl⟩
      rw [hE2] at sE lk
      refine Means.go progOK hJX [.tk true] 400 fun L Z hL hZ => ?_
      conv => cbv
      subst hL hZ
      dsimp only [std, deep]
      rw [hnI, wrap64 (nI - 1) (by omega) (by omega), wrap64 (nI - 1 - iI) (by omega) (by omega), show (nI - 1 - iI).toNat = full.length - 1 - i by omega, hx, show iI.toNat = i by omega,
        show ((D.int x).at []).toInt = x from rfl, show (E.getD i .nil).put [] (.int x) = .int x from rfl, sE]
      repeat' first | exact trivial | omega | (simp; omega) | (simp; done) | refine And.intro ?_ ?_
      exact lk.to rfl rfl rfl ⟨rfl, (by rw [wrap64 _ (by omega) (by omega)]; omega), trivial⟩ ⟨rfl, rfl, rfl, trivial⟩
    · have hin : i = full.length := by omega
      have eER : E = R := by rw [← hE, hin, Nat.sub_self, List.replicate_zero, List.append_nil, List.take_of_length_le (by omega)]
      rw [eER]
      refine Means.go progOK hJX [.tk false, .before 73 .frz 54] 400 fun L Z hL hZ => ?_
      conv => cbv
      subst hL hZ
      dsimp only [std, deep]
      repeat' first | exact trivial | omega | (simp; omega) | (simp; done) | refine And.intro ?_ ?_
      cases R <;> rfl
  · dsimp only [cond_true]
    refine Means.go progOK hJX [.tk true, .call (.tup [.v (.imm 169 false []), .v (.int .u32 zI)]) [] []] 400 fun L Z hL hZ => ?_
    conv => cbv
    subst hL hZ
    dsimp only [std, deep]
    refine ⟨by simp; omega, hsd, ?_⟩
    refine Means.begin (α := Nat × Nat × List D) (fun s => [(1, boxed 41 (.agg [.bool false, .list l])), (44, grown 5 s.2.2)])
      (fun s => [(1, .addr 1 0 0 [] 41), (3, .imm 169 false []), (4, .top 44 0), (6, .int .u32 (s.2.1 : Nat)), (7, .int .i64 (s.1 : Nat))])
      (fun s => s.1 ≤ 8 ∧ s.2.1 < 10 ^ (8 - s.1) ∧ s.2.1 ≤ z ∧ s.2.2.length = s.1 ∧ s.2.2 ++ digGo (8 - s.1) s.2.1 = full) (fun s => 8 - s.1) (0, z, []) rfl rfl rfl
      ⟨rfl, rfl, hzI.symm, rfl, trivial⟩ ⟨rfl, rfl, trivial⟩ ⟨Nat.zero_le _, h2, Nat.le_refl _, rfl, hfu⟩ ?_
    rintro ⟨i, r, acc⟩ ⟨hi, hr, hrz, hacc, hd⟩ ih2
    dsimp only at hi hr hrz hacc hd ih2 ⊢
    obtain ⟨iI, hiI⟩ : ∃ y : Int, (i : Int) = y := ⟨_, rfl⟩
    obtain ⟨rI, hrI⟩ : ∃ y : Int, (r : Int) = y := ⟨_, rfl⟩
    rw [hiI, hrI]
    rcases Nat.eq_zero_or_pos r with h0 | h0
    · have e0 : digGo (8 - i) r = [] := by
        cases 8 - i with
        | zero => rfl
        | succ f => rw [digGo, if_pos h0]
      rw [e0, List.append_nil] at hd
      refine Means.go progOK hJX [.tk false] 400 fun L Z hL hZ => ?_
      conv => cbv
      subst hL hZ
      dsimp only [std, deep]
      have lk := ih false trivial (by decide)
      dsimp only [cond_false] at lk
      refine ⟨fun _ => ⟨fun h => by simp at h, fun _ => ⟨by simp; omega, ?_⟩⟩, fun h => absurd h (by simp; omega)⟩
      exact lk.to rfl rfl rfl ⟨rfl, rfl, trivial⟩ ⟨rfl, hd, trivial⟩
    · obtain ⟨f, hf⟩ : ∃ f, 8 - i = f + 1 := by
        cases h9 : 8 - i with
        | zero => rw [h9] at hr; simp at hr; omega
        | succ f => exact ⟨f, rfl⟩
      rw [hf] at hr hd
      rw [digGo, if_neg (by omega)] at hd
      rw [Nat.pow_succ] at hr
      have v1 : rI.tmod 10 = ((r % 10 : Nat) : Int) := by rw [← hrI]; exact (Int.ofNat_tmod r 10).symm
      have v2 : rI.tdiv 10 = ((r / 10 : Nat) : Int) := by rw [← hrI]; exact (Int.ofNat_tdiv r 10).symm
      refine Means.go progOK hJX [.tk true, .before 36 (.mv 44) 44] 400 fun L Z hL hZ => ?_
      conv => cbv
      subst hL hZ
      dsimp only [std, deep]
      rw [v1, v2]
      have v3 : IntKind.u8.wrap (IntKind.u32.wrap (48 + ((r % 10 : Nat) : Int))) = 48 + ((r % 10 : Nat) : Int) := by
        rw [wrapu32, IntKind.wrap_u8]; omega
      have v4 : IntKind.u32.wrap ((r / 10 : Nat) : Int) = ((r / 10 : Nat) : Int) := by rw [wrapu32]; omega
      rw [v3, v4]
      refine ⟨fun _ => ⟨fun h => by simp at h, fun _ => ⟨by simp; omega, by decide, by simp only [List.length_cons, List.length_nil]; omega, by simp only [List.length_cons, List.length_nil]; omega, by decide, ?_⟩⟩, fun h => absurd h (by simp; omega)⟩
      refine (ih2 (i + 1, r / 10, acc ++ [.int (48 + ((r % 10 : Nat) : Int))]) ⟨by dsimp only; omega, by dsimp only; rw [show 8 - (i + 1) = f by omega]; omega, by dsimp only; omega, by dsimp only; rw [List.length_append, hacc]; rfl, ?_⟩ (by dsimp only; omega)).to rfl rfl rfl
        ⟨rfl, rfl, rfl, (by rw [wrap64 (iI + 1) (by omega) (by omega)]; dsimp only; omega), trivial⟩ ⟨rfl, rfl, trivial⟩
      dsimp only
      rw [← hd, show 8 - (i + 1) = f by omega, List.append_assoc]; rfl
end Go.VI
