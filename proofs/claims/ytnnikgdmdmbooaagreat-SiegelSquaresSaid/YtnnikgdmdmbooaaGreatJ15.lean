/- Siegel's mean: what the program reckons (printed by gen_gr.py). -/
import Derived.Test.YtnnikgdmdmbooaaGreatJ14
set_option linter.unusedVariables false
set_option linter.unusedSimpArgs false
namespace Go.VI
open Go.Proofs
set_option maxRecDepth 20000

def detN (n : Nat) (F : Nat → Nat → Int) : Nat := (pivI F n).toNat
def rawF (n : Nat) (F : Nat → Nat → Int) (m : Nat) : Int := negI (if n % 2 = 1 then ((m * detN n F : Nat) : Int) else ((detN n F : Nat) : Int)) (n / 2)
def discF (n : Nat) (F : Nat → Nat → Int) (m : Nat) : Int := discI (rawF n F m)
def facR (c : Int) (p s : Nat) : Rat := (1 : Rat) - (c : Rat) * (((p : Nat) : Int) : Rat) ^ (-((s : Nat) : Int))
theorem fac_ne {c : Int} {p s : Nat} (hc : c ≤ 1) (hp : 2 ≤ p) (hs : 1 ≤ s) : facR c p s ≠ 0 := by
  unfold facR
  have h2 : 2 ≤ p ^ s := Nat.le_trans (show 2 ≤ 2 ^ s from Nat.le_trans (by decide : 2 ≤ 2 ^ 1) (Nat.pow_le_pow_right (by decide) hs)) (Nat.pow_le_pow_left hp s)
  have e1 : (((p : Nat) : Int) : Rat) ^ ((s : Nat) : Int) = (((p ^ s : Nat) : Int) : Rat) := by rw [Rat.zpow_natCast, Int.natCast_pow, Rat.intCast_pow]
  rw [Rat.zpow_neg, e1]
  have h0 : (((p ^ s : Nat) : Int) : Rat) ≠ 0 := fun e => by have := Rat.intCast_eq_zero_iff.1 e; omega
  intro e
  have e2 : (c : Rat) * ((((p ^ s : Nat) : Int) : Rat))⁻¹ = 1 := by
    have := congrArg (fun z => z + (c : Rat) * ((((p ^ s : Nat) : Int) : Rat))⁻¹) e
    simp only [Rat.sub_eq_add_neg, Rat.add_assoc, Rat.neg_add_cancel, Rat.add_zero, Rat.zero_add] at this
    exact this.symm
  have e3 : (c : Rat) = (((p ^ s : Nat) : Int) : Rat) := by
    have := congrArg (fun z => z * (((p ^ s : Nat) : Int) : Rat)) e2
    simp only [Rat.mul_assoc, Rat.inv_mul_cancel _ h0, Rat.mul_one, Rat.one_mul] at this
    exact this
  have := Rat.intCast_inj.1 e3
  omega
theorem fac_sz {c : Int} {p s : Nat} (hc : I64 c) (hp : I64 (p : Int)) (hs : s ≤ 8) : SzR 30 (facR c p s) := by
  unfold facR
  exact ((SzR.i64 (z := 1) i64_one).sub ((SzR.i64 hc).mul ((SzR.i64 hp).zpow _) (by omega))).mono (by omega)
theorem factorN_ok (c : Int) (p s : Nat) (hc : I64 c) (hp : I64 (p : Int)) (hp0 : p ≠ 0) (hs : s ≤ 64) :
    Ok Tryz.prog tab 67 [.int .i64 c, .int .i64 p, .int .i64 s] [] (.v (.agg 43 (ratD (facR c p s)))) [] := factor_ok c p s hc hp (by omega) (by omega) (by omega)
theorem dens_sz {n : Nat} {F : Nat → Nat → Int} {p m : Nat} (hn : n ≤ 8) (hn1 : 1 ≤ n) (hp : 1 ≤ p) (hall : p ^ ((2 * expN p (2 * m) + 1) * n) ≤ 2097152) : SzR 20 (densR n F p m) := by
  unfold densR
  have hM : p ^ (2 * expN p (2 * m) + 1) ≤ 2097152 := Nat.le_trans (Nat.pow_le_pow_right hp (Nat.le_mul_of_pos_right _ hn1)) hall
  have hMn : (p ^ (2 * expN p (2 * m) + 1)) ^ n ≤ 2097152 := by rw [← Nat.pow_mul]; exact hall
  generalize p ^ (2 * expN p (2 * m) + 1) = M at *
  have hc := cnt_le n F M (M ^ n) (m % M)
  generalize cnt n F M (M ^ n) (m % M) = c at *
  exact ((SzR.i64 (z := (c : Int)) ⟨by omega, by omega⟩).div ((SzR.i64 (z := (M : Int)) ⟨by omega, by omega⟩).zpow _) (by omega)).mono (by omega)

/-- What the mean is multiplied from: for even dimensions, and for odd ones. -/
def topE (s m f d : Nat) (b : Rat) : Rat :=
  ((((2 * s : Nat) : Int) : Rat) * ((((f : Nat) : Int) : Rat) ^ ((s : Nat) : Int) * (((m : Nat) : Int) : Rat) ^ ((s - 1 : Nat) : Int))) / (((((2 : Nat) : Int) : Rat) ^ ((s : Nat) : Int) * b) * (((rootN (d * f) : Nat) : Int) : Rat))
def topO (s m f d : Nat) (b : Rat) : Rat :=
  ((((((m : Nat) : Int) : Rat) ^ ((s - 1 : Nat) : Int) * (((2 : Nat) : Int) : Rat) ^ ((s : Nat) : Int)) * b) * (((rootN (f * m * d) : Nat) : Int) : Rat)) / (((((d : Nat) : Int) : Rat) * (((f : Nat) : Int) : Rat) ^ ((s : Nat) : Int)) * absR (berB (2 * s)))
def exp0 (n : Nat) (F : Nat → Nat → Int) (m : Nat) : Rat :=
  if n % 2 = 0 then topE (n / 2) m (discF n F m).natAbs (detN n F) (absR (genR (n / 2) (discF n F m))) else topO (n / 2) m (discF n F m).natAbs (detN n F) (absR (genR (n / 2) (discF n F m)))
def locF (n : Nat) (F : Nat → Nat → Int) (m p : Nat) : Rat :=
  if n % 2 = 0 then densR n F p m / facR (kroI (discF n F m) p) p (n / 2) else (densR n F p m * facR (kroI (discF n F m) p) p (n / 2)) / facR 1 p (2 * (n / 2))
def expGo (n : Nat) (F : Nat → Nat → Int) (m : Nat) : List (Nat × Nat) → Rat → Rat
  | [], q => q
  | p :: l, q => expGo n F m l (q * locF n F m p.1)
/-- Siegel's mean. -/
def expR (n : Nat) (F : Nat → Nat → Int) (m : Nat) : Rat := expGo n F m (facL (2 * detN n F * m)) (exp0 n F m)
theorem berB_ne : ∀ s, s < 5 → 1 ≤ s → berB (2 * s) ≠ 0 := by decide +kernel
theorem gen_sz {k : Nat} {d : Int} (hk : k ≤ 20) (hd : d.natAbs ≤ 40000) : SzR 1200000 (genR k d) := (genS_sz hk hd (k + 1) (by omega)).mono (by omega)
theorem pow_ne {q : Rat} (h : q ≠ 0) (k : Nat) : q ^ ((k : Nat) : Int) ≠ 0 := zpow_nat_ne h k
theorem nat_ne {a : Nat} (h : 1 ≤ a) : (((a : Nat) : Int) : Rat) ≠ 0 := fun e => by have := Rat.intCast_eq_zero_iff.1 e; omega
theorem mul_nz {q r : Rat} (h : q ≠ 0) (h' : r ≠ 0) : q * r ≠ 0 := fun e => by rcases Rat.mul_eq_zero.1 e with e | e <;> contradiction
theorem swholeN_ok (n : Nat) (h : n ≤ 9223372036854775807) : Ok Tryz.prog tab 46 [.int .i64 n] [] (.v (.agg 43 (ratD (((n : Nat) : Int) : Rat)))) [] := swhole_ok n ⟨by omega, by omega⟩
theorem SzR.nat {n : Nat} (h : n ≤ 9223372036854775807) : SzR 2 (((n : Nat) : Int) : Rat) := SzR.i64 ⟨by omega, by omega⟩

set_option maxHeartbeats 8000000 in
theorem expected_even_ok {h : List (List Int)} {n : Nat} (hq : SqI h n) (hn3 : 3 ≤ n) (hn8 : n ≤ 8) (hpar : n % 2 = 0) (hr : redI n (ent h) = true) (m : Nat) (hm1 : 1 ≤ m) (hm2 : m ≤ 1000)
    (hxs : -500000000 ≤ (sqI (rawF n (ent h) m)).1 ∧ (sqI (rawF n (ent h) m)).1 ≤ 500000000) (hds : -500000000 ≤ (sqI (discF n (ent h) m)).1 ∧ (sqI (discF n (ent h) m)).1 ≤ 500000000)
    (hd0 : discF n (ent h) m ≠ 0) (hdd : discI (discF n (ent h) m) = discF n (ent h) m) (hf : (discF n (ent h) m).natAbs ≤ 40000)
    (hb : genR (n / 2) (discF n (ent h) m) ≠ 0)
    (hp : ∀ p ∈ facL (2 * detN n (ent h) * m), p.1 ≤ 9973 ∧ isP p.1 = true ∧ p.1 ^ ((2 * expN p.1 (2 * m) + 1) * n) ≤ 2097152) :
    Ok Tryz.prog tab 25 [.imm 31 false (intF n (ent h)), .int .i64 m] [] (.tup [.v (.agg 43 (ratD (expR n (ent h) m))), .v (.int .i64 0)]) [] := by
  have hred := isRed_sq h n hq hn8
  rw [hr, hq.intF] at hred
  have hdet := sdet_ok hq hn8 hr
  obtain ⟨_, hd1, hd2⟩ := redI_det hq.lo hr
  have hdens := fun p h1 h2 h3 h4 => density_ok hq hn8 hr p h1 h2 h3 m hm1 hm2 h4
  have hlenH := intF_length n (ent h)
  have hdN : ((detN n (ent h) : Nat) : Int) = pivI (ent h) n := Int.toNat_of_nonneg (by omega)
  obtain ⟨d, hd⟩ : ∃ d, detN n (ent h) = d := ⟨_, rfl⟩
  obtain ⟨x, hx⟩ : ∃ x, rawF n (ent h) m = x := ⟨_, rfl⟩
  obtain ⟨disc, hdisc⟩ : ∃ x, discF n (ent h) m = x := ⟨_, rfl⟩
  have hxd : discI x = disc := by rw [← hx, ← hdisc]; rfl
  have hlocF : ∀ p, locF n (ent h) m p = densR n (ent h) p m / facR (kroI disc p) p (n / 2) := fun p => by rw [locF, if_pos hpar, hdisc]
  have hexp0 : exp0 n (ent h) m = topE (n / 2) m disc.natAbs d (absR (genR (n / 2) disc)) := by rw [exp0, if_pos hpar, hdisc, hd]
  have hexpR : expR n (ent h) m = expGo n (ent h) m (facL (2 * d * m)) (topE (n / 2) m disc.natAbs d (absR (genR (n / 2) disc))) := by rw [expR, hexp0, hd]
  rw [hexpR]
  have hx' := hx
  unfold rawF at hx'
  rw [hd, if_neg (by omega)] at hx'
  rw [hd] at hdN hp
  rw [← hdN] at hdet hd1 hd2
  rw [hx] at hxs
  rw [hdisc] at hds hd0 hdd hf hb
  have hd1' : 1 ≤ d := by omega
  have hd2' : d ≤ 10000 := by omega
  have hmd : m * d ≤ 10000000 := Nat.mul_le_mul hm2 hd2'
  have hmd1 : 1 ≤ m * d := Nat.mul_pos hm1 hd1'
  have hx0 : x ≠ 0 := by rw [← hx']; unfold negI; split <;> omega
  have hxb : -10000000 ≤ x ∧ x ≤ 10000000 := by rw [← hx']; unfold negI; split <;> omega
  obtain ⟨s, hs⟩ : ∃ s, n / 2 = s := ⟨_, rfl⟩
  rw [hs] at hlocF hx' hb ⊢
  have hs1 : 1 ≤ s := by omega
  have hs4 : s ≤ 4 := by omega
  have hneg := negated_ok ((d : Nat) : Int) s (by omega) (by omega)
  rw [hx'] at hneg
  have hdis := disc_ok x hx0 (by omega) (by omega) hxs
  rw [hxd] at hdis
  have hgen := gen_ok s disc hs1 (by omega) hd0 (by omega) (by omega) hdd hds
  obtain ⟨f, hfe⟩ : ∃ f, disc.natAbs = f := ⟨_, rfl⟩
  have hf1 : 1 ≤ f := by omega
  have hf2 : f ≤ 40000 := by omega
  have hdf : d * f ≤ 10000 * 40000 := Nat.mul_le_mul hd2' hf2
  have hdf1 : 1 ≤ d * f := Nat.mul_pos hd1' hf1
  have hfm : f * m ≤ 40000 * 1000 := Nat.mul_le_mul hf2 hm2
  have hfm1 : 1 ≤ f * m := Nat.mul_pos hf1 hm1
  have hfmd : f * m * d ≤ 40000 * 1000 * 10000 := Nat.mul_le_mul hfm hd2'
  have hfmd1 : 1 ≤ f * m * d := Nat.mul_pos hfm1 hd1'
  have hro : rootN (d * f) ≤ 9223372036854775807 := Nat.le_trans (rootN_le (n := d * f) (by omega)) (by omega)
  have hro1 := rootN_pos (n := d * f) (by omega) (by omega)
  have hdm : 2 * d * m ≤ 2 * 10000 * 1000 := Nat.mul_le_mul (by omega) hm2
  have hdm1 : 1 ≤ 2 * d * m := Nat.mul_pos (by omega) hm1
  have hfac := factor_num_ok (2 * d * m) hdm1 (by omega)
  have hfl : (facL (2 * d * m)).length ≤ 2 * d * m + 46342 := facGo_len _ _ _
  have hfmem : ∀ p ∈ facL (2 * d * m), 2 ≤ p.1 := fun p h => (facL_mem h).1
  have hfmem2 : ∀ p ∈ facL (2 * d * m), p.1 ≤ 2 * d * m := fun p h => (facL_mem h).2.1
  have q_red := hred
  have q_det := hdet
  have q_neg := hneg
  have q_dis := hdis
  have q_B := hgen
  obtain ⟨B, hB⟩ : ∃ q : Rat, genR s disc = q := ⟨_, rfl⟩
  have zB : SzR 1200000 B := by rw [← hB]; exact gen_sz (by omega) hf
  rw [hB] at q_B
  obtain ⟨bB, lB, kB, mB, eB⟩ := ratD_ex B
  have q_A := absolute_ok B (zB.mono (by decide))
  obtain ⟨A, hA⟩ : ∃ q : Rat, absR B = q := ⟨_, rfl⟩
  have zA : SzR 1200000 A := by rw [← hA]; exact absR_sz zB
  rw [hA] at q_A
  obtain ⟨bA, lA, kA, mA, eA⟩ := ratD_ex A
  have q_M := swholeN_ok (m) (by omega)
  obtain ⟨M, hM⟩ : ∃ q : Rat, (((m : Nat) : Int) : Rat) = q := ⟨_, rfl⟩
  have zM : SzR 2 M := by rw [← hM]; exact SzR.nat (by omega)
  rw [hM] at q_M
  obtain ⟨bM, lM, kM, mM, eM⟩ := ratD_ex M
  have q_P := spower_ok M ((s - 1 : Nat) : Int) (by omega) (by omega) (fun h => by omega) (zM.mono (by decide))
  obtain ⟨P, hP⟩ : ∃ q : Rat, M ^ ((s - 1 : Nat) : Int) = q := ⟨_, rfl⟩
  have zP : SzR 20 P := by rw [← hP]; exact (zM.zpow _).mono (by omega)
  rw [hP] at q_P
  obtain ⟨bP, lP, kP, mP, eP⟩ := ratD_ex P
  have q_W := swholeN_ok (2) (by decide)
  obtain ⟨W, hW⟩ : ∃ q : Rat, (((2 : Nat) : Int) : Rat) = q := ⟨_, rfl⟩
  have zW : SzR 2 W := by rw [← hW]; exact SzR.nat (by decide)
  rw [hW] at q_W
  obtain ⟨bW, lW, kW, mW, eW⟩ := ratD_ex W
  have q_Q := spower_ok W ((s : Nat) : Int) (by omega) (by omega) (fun h => by omega) (zW.mono (by decide))
  obtain ⟨Q, hQ⟩ : ∃ q : Rat, W ^ ((s : Nat) : Int) = q := ⟨_, rfl⟩
  have zQ : SzR 20 Q := by rw [← hQ]; exact (zW.zpow _).mono (by omega)
  rw [hQ] at q_Q
  obtain ⟨bQ, lQ, kQ, mQ, eQ⟩ := ratD_ex Q
  have q_U := mul_rat P Q (zP.mono (by decide)) (zQ.mono (by decide))
  obtain ⟨U, hU⟩ : ∃ q : Rat, P * Q = q := ⟨_, rfl⟩
  have zU : SzR 40 U := by rw [← hU]; exact (zP.mul zQ (by decide)).mono (by decide)
  rw [hU] at q_U
  obtain ⟨bU, lU, kU, mU, eU⟩ := ratD_ex U
  have q_S := swholeN_ok (2 * s) (by omega)
  obtain ⟨S, hS⟩ : ∃ q : Rat, (((2 * s : Nat) : Int) : Rat) = q := ⟨_, rfl⟩
  have zS : SzR 2 S := by rw [← hS]; exact SzR.nat (by omega)
  rw [hS] at q_S
  obtain ⟨bS, lS, kS, mS, eS⟩ := ratD_ex S
  have q_G := swholeN_ok (f) (by omega)
  obtain ⟨G, hG⟩ : ∃ q : Rat, (((f : Nat) : Int) : Rat) = q := ⟨_, rfl⟩
  have zG : SzR 2 G := by rw [← hG]; exact SzR.nat (by omega)
  rw [hG] at q_G
  obtain ⟨bG, lG, kG, mG, eG⟩ := ratD_ex G
  have q_H := spower_ok G ((s : Nat) : Int) (by omega) (by omega) (fun h => by omega) (zG.mono (by decide))
  obtain ⟨H, hH⟩ : ∃ q : Rat, G ^ ((s : Nat) : Int) = q := ⟨_, rfl⟩
  have zH : SzR 20 H := by rw [← hH]; exact (zG.zpow _).mono (by omega)
  rw [hH] at q_H
  obtain ⟨bH, lH, kH, mH, eH⟩ := ratD_ex H
  have q_M2 := swholeN_ok (m) (by omega)
  obtain ⟨M2, hM2⟩ : ∃ q : Rat, (((m : Nat) : Int) : Rat) = q := ⟨_, rfl⟩
  have zM2 : SzR 2 M2 := by rw [← hM2]; exact SzR.nat (by omega)
  rw [hM2] at q_M2
  obtain ⟨bM2, lM2, kM2, mM2, eM2⟩ := ratD_ex M2
  have q_P2 := spower_ok M2 ((s - 1 : Nat) : Int) (by omega) (by omega) (fun h => by omega) (zM2.mono (by decide))
  obtain ⟨P2, hP2⟩ : ∃ q : Rat, M2 ^ ((s - 1 : Nat) : Int) = q := ⟨_, rfl⟩
  have zP2 : SzR 20 P2 := by rw [← hP2]; exact (zM2.zpow _).mono (by omega)
  rw [hP2] at q_P2
  obtain ⟨bP2, lP2, kP2, mP2, eP2⟩ := ratD_ex P2
  have q_V := mul_rat H P2 (zH.mono (by decide)) (zP2.mono (by decide))
  obtain ⟨V, hV⟩ : ∃ q : Rat, H * P2 = q := ⟨_, rfl⟩
  have zV : SzR 40 V := by rw [← hV]; exact (zH.mul zP2 (by decide)).mono (by decide)
  rw [hV] at q_V
  obtain ⟨bV, lV, kV, mV, eV⟩ := ratD_ex V
  have q_T := mul_rat S V (zS.mono (by decide)) (zV.mono (by decide))
  obtain ⟨T, hT⟩ : ∃ q : Rat, S * V = q := ⟨_, rfl⟩
  have zT : SzR 42 T := by rw [← hT]; exact (zS.mul zV (by decide)).mono (by decide)
  rw [hT] at q_T
  obtain ⟨bT, lT, kT, mT, eT⟩ := ratD_ex T
  have q_W2 := swholeN_ok (2) (by decide)
  obtain ⟨W2, hW2⟩ : ∃ q : Rat, (((2 : Nat) : Int) : Rat) = q := ⟨_, rfl⟩
  have zW2 : SzR 2 W2 := by rw [← hW2]; exact SzR.nat (by decide)
  rw [hW2] at q_W2
  obtain ⟨bW2, lW2, kW2, mW2, eW2⟩ := ratD_ex W2
  have q_Q2 := spower_ok W2 ((s : Nat) : Int) (by omega) (by omega) (fun h => by omega) (zW2.mono (by decide))
  obtain ⟨Q2, hQ2⟩ : ∃ q : Rat, W2 ^ ((s : Nat) : Int) = q := ⟨_, rfl⟩
  have zQ2 : SzR 20 Q2 := by rw [← hQ2]; exact (zW2.zpow _).mono (by omega)
  rw [hQ2] at q_Q2
  obtain ⟨bQ2, lQ2, kQ2, mQ2, eQ2⟩ := ratD_ex Q2
  have q_X := mul_rat Q2 A (zQ2.mono (by decide)) (zA.mono (by decide))
  obtain ⟨X, hX⟩ : ∃ q : Rat, Q2 * A = q := ⟨_, rfl⟩
  have zX : SzR 1200020 X := by rw [← hX]; exact (zQ2.mul zA (by decide)).mono (by decide)
  rw [hX] at q_X
  obtain ⟨bX, lX, kX, mX, eX⟩ := ratD_ex X
  have q_roo := root_ok (d * f) (by omega)
  have q_R := swholeN_ok (rootN (d * f)) (hro)
  obtain ⟨R, hR⟩ : ∃ q : Rat, (((rootN (d * f) : Nat) : Int) : Rat) = q := ⟨_, rfl⟩
  have zR : SzR 2 R := by rw [← hR]; exact SzR.nat (hro)
  rw [hR] at q_R
  obtain ⟨bR, lR, kR, mR, eR⟩ := ratD_ex R
  have q_Y := mul_rat X R (zX.mono (by decide)) (zR.mono (by decide))
  obtain ⟨Y, hY⟩ : ∃ q : Rat, X * R = q := ⟨_, rfl⟩
  have zY : SzR 1200022 Y := by rw [← hY]; exact (zX.mul zR (by decide)).mono (by decide)
  rw [hY] at q_Y
  obtain ⟨bY, lY, kY, mY, eY⟩ := ratD_ex Y
  have nY : Y ≠ 0 := by rw [← hY, ← hX, ← hR, ← hQ2, ← hW2, ← hA, ← hB]; exact mul_nz (mul_nz (pow_ne (nat_ne (by decide)) s) (absR_ne hb)) (nat_ne hro1)
  have q_O := over_ok T Y (nY) (zT.mono (by decide)) (zY.mono (by decide))
  obtain ⟨O, hO⟩ : ∃ q : Rat, T / Y = q := ⟨_, rfl⟩
  have zO : SzR 1300000 O := by rw [← hO]; exact (zT.div zY (by decide)).mono (by decide)
  rw [hO] at q_O
  obtain ⟨bO, lO, kO, mO, eO⟩ := ratD_ex O
  have hO0 : topE s m disc.natAbs d (absR (genR s disc)) = O := by rw [← hO, ← hT, ← hY, ← hS, ← hV, ← hH, ← hG, ← hP2, ← hM2, ← hX, ← hQ2, ← hW2, ← hA, ← hB, ← hR, hfe]; rfl
  rw [hO0]
  simp only [eB, eA, eM, eP, eW, eQ, eU, eS, eG, eH, eM2, eP2, eV, eT, eW2, eQ2, eX, eR, eY, eO] at q_red q_det q_neg q_dis q_B q_A q_M q_P q_W q_Q q_U q_S q_G q_H q_M2 q_P2 q_V q_T q_W2 q_Q2 q_X q_roo q_R q_Y q_O
  obtain ⟨L0, hL0⟩ : ∃ L, facL (2 * d * m) = L := ⟨_, rfl⟩
  rw [hL0] at hfac hfl hfmem hfmem2 hp ⊢
  have gL : ∀ i (h : i < L0.length), (L0.map ppD).getD i .nil = .agg [.int (L0[i].1 : Int), .int (L0[i].2 : Int)] := fun i h => getD_map h
  have lL : (L0.map ppD).length = L0.length := by simp
  obtain ⟨L1, hL1⟩ : ∃ L, L0.map ppD = L := ⟨_, rfl⟩
  rw [hL1] at hfac gL lL
  obtain ⟨bE, lE, kE, mE, eE⟩ := ratD_ex (expGo n (ent h) m L0 O)
  obtain ⟨RR, hRR⟩ : ∃ R : Rat, expGo n (ent h) m L0 O = R := ⟨_, rfl⟩
  rw [hRR] at eE ⊢
  rw [eE]
  generalize intF n (ent h) = HH at *
  obtain ⟨dI, hdI⟩ : ∃ z : Int, ((d : Nat) : Int) = z := ⟨_, rfl⟩
  obtain ⟨mI, hmI⟩ : ∃ z : Int, ((m : Nat) : Int) = z := ⟨_, rfl⟩
  obtain ⟨sI, hsI⟩ : ∃ z : Int, ((s : Nat) : Int) = z := ⟨_, rfl⟩
  obtain ⟨fI, hfI⟩ : ∃ z : Int, ((f : Nat) : Int) = z := ⟨_, rfl⟩
  obtain ⟨rI, hrI⟩ : ∃ z : Int, ((rootN (d * f) : Nat) : Int) = z := ⟨_, rfl⟩
  obtain ⟨nI, hnI⟩ : ∃ z : Int, (HH.length : Int) = z := ⟨_, rfl⟩
  rw [hmI]
  simp only [hdI, hmI, hsI, hfI, hrI] at hdet hneg hdis hfac hdens q_red q_det q_neg q_dis q_B q_A q_M q_P q_W q_Q q_U q_S q_G q_H q_M2 q_P2 q_V q_T q_W2 q_Q2 q_X q_roo q_R q_Y q_O
  have w1 : IntKind.i64.wrap (nI.tdiv 2) = sI := by rw [Int.tdiv_eq_ediv_of_nonneg (by omega), wrap64 _ (by omega) (by omega)]; omega
  have w2 : nI.tmod 2 = ((n % 2 : Nat) : Int) := by rw [Int.tmod_eq_emod_of_nonneg (by omega)]; omega
  have w3 : IntKind.i64.wrap (mI * dI) = ((m * d : Nat) : Int) := by rw [← hmI, ← hdI, ← Int.natCast_mul]; exact wrapN (by omega)
  have w4 : (if IntKind.i64.wrap (0 - disc) > disc then IntKind.i64.wrap (0 - disc) else disc) = fI := by
    rw [wrap64 _ (by omega) (by omega)]; split <;> omega
  have w5 : IntKind.i64.wrap (sI - 1) = ((s - 1 : Nat) : Int) := by rw [wrap64 _ (by omega) (by omega)]; omega
  have w6 : IntKind.i64.wrap (2 * sI) = ((2 * s : Nat) : Int) := by rw [wrap64 _ (by omega) (by omega)]; omega
  have w7 : IntKind.i64.wrap (fI * mI) = ((f * m : Nat) : Int) := by rw [← hmI, ← hfI, ← Int.natCast_mul]; exact wrapN (by omega)
  have w8 : IntKind.i64.wrap (((f * m : Nat) : Int) * dI) = ((f * m * d : Nat) : Int) := by rw [← hdI, ← Int.natCast_mul]; exact wrapN (by omega)
  have w9 : IntKind.i64.wrap (dI * fI) = ((d * f : Nat) : Int) := by rw [← hdI, ← hfI, ← Int.natCast_mul]; exact wrapN (by omega)
  have w10 : IntKind.i64.wrap (2 * dI) = ((2 * d : Nat) : Int) := by rw [wrap64 _ (by omega) (by omega)]; omega
  have w11 : IntKind.i64.wrap (((2 * d : Nat) : Int) * mI) = ((2 * d * m : Nat) : Int) := by rw [← hmI, ← Int.natCast_mul]; exact wrapN (by omega)
  refine Ok.go progOK [] [.call (.v (.bool true)) [] [], .tk false, .tk false, .tk false, .call (.v (.int .i64 dI)) [] [], .tk false, .call (.v (.int .i64 x)) [] [], .call (.tup [.v (.int .i64 disc), .v (.int .i64 0)]) [] [], .tk false, .call (.tup [.v (.agg 43 (.agg [.agg [.bool bB, .list lB], .agg [.bool kB, .list mB]])), .v (.int .i64 0)]) [] [], .call (.v (.agg 43 (.agg [.agg [.bool bA, .list lA], .agg [.bool kA, .list mA]]))) [] [], .call (.v (.agg 43 (.agg [.agg [.bool bM, .list lM], .agg [.bool kM, .list mM]]))) [] [], .call (.v (.agg 43 (.agg [.agg [.bool bP, .list lP], .agg [.bool kP, .list mP]]))) [] [], .call (.v (.agg 43 (.agg [.agg [.bool bW, .list lW], .agg [.bool kW, .list mW]]))) [] [], .call (.v (.agg 43 (.agg [.agg [.bool bQ, .list lQ], .agg [.bool kQ, .list mQ]]))) [] [], .call (.v (.agg 43 (.agg [.agg [.bool bU, .list lU], .agg [.bool kU, .list mU]]))) [] []] 400 Tryz.func25 rfl rfl rfl fun J hJX L Z hL hZ => ?_
  conv => cbv
  subst hL hZ
  dsimp only [std, deep]
  simp only [hnI, w1, w2, w3, w4, w5, w6, w7, w8, w9, w10, w11]
  repeat' first | exact trivial | exact hred | exact hdet | exact hneg | exact hdis | exact hfac | exact q_red | exact q_det | exact q_neg | exact q_dis | exact q_B | exact q_A | exact q_M | exact q_P | exact q_W | exact q_Q | exact q_U | exact q_S | exact q_G | exact q_H | exact q_M2 | exact q_P2 | exact q_V | exact q_T | exact q_W2 | exact q_Q2 | exact q_X | exact q_roo | exact q_R | exact q_Y | exact q_O | omega | (refine fun (hh : (_ : Prop)) => absurd hh ?_; simp; omega) | (simp; omega) | (simp; done) | refine fun (hh : (_ : Prop)) => ?_ | refine And.intro ?_ ?_
  refine Means.weak (rl' := [(4, boxed 43 (.agg [.agg [.bool false, .list []], .agg [.bool false, .list []]])), (13, boxed 43 (.agg [.agg [.bool bA, .list lA], .agg [.bool kA, .list mA]])), (15, boxed 43 (.agg [.agg [.bool false, .list []], .agg [.bool false, .list []]])), (16, boxed 43 (.agg [.agg [.bool bU, .list lU], .agg [.bool kU, .list mU]]))])
    (sl' := [(0, .imm 31 false HH), (1, .int .i64 mI), (4, .addr 4 0 0 [] 43), (6, .int .i64 nI), (7, .int .i64 sI), (8, .int .i64 dI), (10, .int .i64 disc), (12, .int .i64 fI), (13, .addr 13 0 0 [] 43), (15, .addr 15 0 0 [] 43), (16, .addr 16 0 0 [] 43), (90, .bool true)]) rfl rfl rfl
    ⟨rfl, rfl, rfl, rfl, rfl, rfl, rfl, rfl, rfl, rfl, rfl, (by simp; omega), trivial⟩ ⟨rfl, rfl, rfl, rfl, trivial⟩ ?_
  refine Means.go progOK hJX [.tk true, .call (.v (.agg 43 (.agg [.agg [.bool bS, .list lS], .agg [.bool kS, .list mS]]))) [] [], .call (.v (.agg 43 (.agg [.agg [.bool bG, .list lG], .agg [.bool kG, .list mG]]))) [] [], .call (.v (.agg 43 (.agg [.agg [.bool bH, .list lH], .agg [.bool kH, .list mH]]))) [] [], .call (.v (.agg 43 (.agg [.agg [.bool bM2, .list lM2], .agg [.bool kM2, .list mM2]]))) [] [], .call (.v (.agg 43 (.agg [.agg [.bool bP2, .list lP2], .agg [.bool kP2, .list mP2]]))) [] [], .call (.v (.agg 43 (.agg [.agg [.bool bV, .list lV], .agg [.bool kV, .list mV]]))) [] [], .call (.v (.agg 43 (.agg [.agg [.bool bT, .list lT], .agg [.bool kT, .list mT]]))) [] [], .call (.v (.agg 43 (.agg [.agg [.bool bW2, .list lW2], .agg [.bool kW2, .list mW2]]))) [] [], .call (.v (.agg 43 (.agg [.agg [.bool bQ2, .list lQ2], .agg [.bool kQ2, .list mQ2]]))) [] [], .call (.v (.agg 43 (.agg [.agg [.bool bX, .list lX], .agg [.bool kX, .list mX]]))) [] [], .call (.v (.int .i64 rI)) [] [], .call (.v (.agg 43 (.agg [.agg [.bool bR, .list lR], .agg [.bool kR, .list mR]]))) [] [], .call (.v (.agg 43 (.agg [.agg [.bool bY, .list lY], .agg [.bool kY, .list mY]]))) [] [], .call (.v (.agg 43 (.agg [.agg [.bool bO, .list lO], .agg [.bool kO, .list mO]]))) [] [], .before 148 .hid 13, .before 148 .hid 16, .call (.tup [.v (.imm 79 false L1), .v (.int .i64 0)]) [] []] 400 fun L Z hL hZ => ?_
  conv => cbv
  subst hL hZ
  dsimp only [std, deep]
  simp only [hnI, w1, w2, w3, w4, w5, w6, w7, w8, w9, w10, w11]
  repeat' first | exact trivial | exact hred | exact hdet | exact hneg | exact hdis | exact hfac | exact q_red | exact q_det | exact q_neg | exact q_dis | exact q_B | exact q_A | exact q_M | exact q_P | exact q_W | exact q_Q | exact q_U | exact q_S | exact q_G | exact q_H | exact q_M2 | exact q_P2 | exact q_V | exact q_T | exact q_W2 | exact q_Q2 | exact q_X | exact q_roo | exact q_R | exact q_Y | exact q_O | omega | (refine fun (hh : (_ : Prop)) => absurd hh ?_; simp; omega) | (simp; omega) | (simp; done) | refine fun (hh : (_ : Prop)) => ?_ | refine And.intro ?_ ?_
  obtain ⟨lI, hlI⟩ : ∃ z : Int, (L1.length : Int) = z := ⟨_, rfl⟩
  refine Means.begin (α := Nat × Rat) (fun st => [(4, boxed 43 (.agg [.agg [.bool false, .list []], .agg [.bool false, .list []]])), (15, boxed 43 (ratD st.2))])
    (fun st => [(0, .imm 31 false HH), (1, .int .i64 mI), (4, .addr 4 0 0 [] 43), (6, .int .i64 nI), (7, .int .i64 sI), (10, .int .i64 disc), (15, .addr 15 0 0 [] 43), (155, .imm 79 false L1), (156, .int .i64 lI), (157, .int .i64 (st.1 : Nat))])
    (fun st => st.1 ≤ L0.length ∧ SzR (1300000 + 200 * st.1) st.2 ∧ expGo n (ent h) m (L0.drop st.1) st.2 = RR) (fun st => L0.length - st.1) (0, O) rfl rfl rfl
    ⟨rfl, rfl, rfl, rfl, rfl, rfl, rfl, rfl, hlI, rfl, trivial⟩ ⟨rfl, (by show [_] = [ratD O]; rw [eO]), trivial⟩ ⟨Nat.zero_le _, zO, hRR⟩ ?_
  rintro ⟨i, q⟩ ⟨hi, zq, hgo⟩ ih
  dsimp only at hi zq hgo ih ⊢
  obtain ⟨iI, hiI⟩ : ∃ z : Int, (i : Int) = z := ⟨_, rfl⟩
  obtain ⟨bq, lq, kq, mq, eq⟩ := ratD_ex q
  rw [hiI, eq]
  rcases Nat.lt_or_ge i L0.length with hlt | hge
  · have gi := gL i hlt
    have hmem := List.getElem_mem hlt
    have hpp := hp _ hmem
    have hp2 := hfmem _ hmem
    have hp3 := hfmem2 _ hmem
    rw [drop_cons hlt, expGo, hlocF] at hgo
    generalize L0[i] = pe at *
    obtain ⟨p, e⟩ := pe
    dsimp only at gi hpp hp2 hp3 hgo
    obtain ⟨hpp1, hpp2, hpp3⟩ := hpp
    have c1 := hdens p hp2 hpp1 hpp2 hpp3
    have c2 := kro_ok disc p (by omega) (by omega) (by omega) (by omega)
    have hks := kroI_small disc p
    obtain ⟨c, hc⟩ : ∃ z, kroI disc p = z := ⟨_, rfl⟩
    rw [hc] at c2 hks hgo
    have zd := dens_sz (n := n) (F := ent h) (p := p) (m := m) hn8 (by omega) (by omega) hpp3
    have c3 := factorN_ok c p s ⟨by omega, by omega⟩ ⟨by omega, by omega⟩ (by omega) (by omega)
    have zf := fac_sz (c := c) (p := p) (s := s) ⟨by omega, by omega⟩ ⟨by omega, by omega⟩ (by omega)
    have nf := fac_ne (c := c) (p := p) (s := s) (by omega) (by omega) hs1
    obtain ⟨a, ha⟩ : ∃ z, densR n (ent h) p m = z := ⟨_, rfl⟩
    obtain ⟨u, hu⟩ : ∃ z, facR c p s = z := ⟨_, rfl⟩
    rw [ha] at c1 zd hgo
    rw [hu] at c3 zf nf hgo
    have c4 := over_ok a u nf (zd.mono (by decide)) (zf.mono (by decide))
    have zv : SzR 80 (a / u) := (zd.div zf (by decide)).mono (by decide)
    obtain ⟨v, hv⟩ : ∃ z, a / u = z := ⟨_, rfl⟩
    rw [hv] at c4 zv hgo
    have c9 := mul_rat q v (zq.mono (by omega)) (zv.mono (by decide))
    have lk := ih (i + 1, q * v) ⟨hlt, (zq.mul zv (by omega)).mono (by dsimp only; omega), hgo⟩ (by dsimp only; omega)
    dsimp only at lk
    obtain ⟨bw, lw, kw, mw, ew⟩ := ratD_ex (q * v)
    obtain ⟨ba, la, ka, ma, ea⟩ := ratD_ex a
    obtain ⟨bu, lu, ku, mu, eu⟩ := ratD_ex u
    obtain ⟨bv, lv, kv, mv, ev⟩ := ratD_ex v
    rw [ew] at lk
    simp only [ew, ea, eu, ev, eq] at c1 c3 c4 c9
    obtain ⟨pI, hpI⟩ : ∃ z : Int, (p : Int) = z := ⟨_, rfl⟩
    obtain ⟨eI, heI⟩ : ∃ z : Int, (e : Int) = z := ⟨_, rfl⟩
    rw [hpI, heI] at gi
    simp only [hpI, hsI] at c1 c2 c3
    refine Means.go progOK hJX [.tk true, .call (.tup [.v (.agg 43 (.agg [.agg [.bool ba, .list la], .agg [.bool ka, .list ma]])), .v (.int .i64 0)]) [] [], .tk false, .call (.tup [.v (.int .i64 c), .v (.int .i64 0)]) [] [], .tk true, .call (.v (.agg 43 (.agg [.agg [.bool bu, .list lu], .agg [.bool ku, .list mu]]))) [] [], .call (.v (.agg 43 (.agg [.agg [.bool bv, .list lv], .agg [.bool kv, .list mv]]))) [] [], .call (.v (.agg 43 (.agg [.agg [.bool bw, .list lw], .agg [.bool kw, .list mw]]))) [] [], .before 203 .hid 22, .before 203 .hid 24] 400 fun L Z hL hZ => ?_
    conv => cbv
    subst hL hZ
    dsimp only [std, deep]
    rw [show iI.toNat = i by omega, gi]
    simp only [show ((D.agg [D.int pI, D.int eI]).kid 0).toInt = pI from rfl, w2, w6]
    repeat' first | exact trivial | exact c1 | exact c2 | exact c3 | exact c4 | exact c9 | omega | (simp; omega) | (simp; done) | refine And.intro ?_ ?_
    exact lk.to rfl rfl rfl ⟨rfl, rfl, rfl, rfl, rfl, rfl, rfl, rfl, rfl, (by rw [wrap64 _ (by omega) (by omega)]; omega), trivial⟩ ⟨rfl, rfl, trivial⟩
  · rw [List.drop_eq_nil_of_le hge, expGo] at hgo
    have e5 : D.agg [D.agg [D.bool bq, D.list lq], D.agg [D.bool kq, D.list mq]] = D.agg [D.agg [D.bool bE, D.list lE], D.agg [D.bool kE, D.list mE]] := by rw [← eq, ← eE, hgo]
    refine Means.go progOK hJX [.tk false] 400 fun L Z hL hZ => ?_
    conv => cbv
    subst hL hZ
    dsimp only [std, deep]
    repeat' first | exact trivial | exact e5 | omega | (simp; omega) | (simp; done) | refine And.intro ?_ ?_
set_option maxHeartbeats 8000000 in
theorem expected_odd_ok {h : List (List Int)} {n : Nat} (hq : SqI h n) (hn3 : 3 ≤ n) (hn8 : n ≤ 8) (hpar : n % 2 = 1) (hr : redI n (ent h) = true) (m : Nat) (hm1 : 1 ≤ m) (hm2 : m ≤ 1000)
    (hxs : -500000000 ≤ (sqI (rawF n (ent h) m)).1 ∧ (sqI (rawF n (ent h) m)).1 ≤ 500000000) (hds : -500000000 ≤ (sqI (discF n (ent h) m)).1 ∧ (sqI (discF n (ent h) m)).1 ≤ 500000000)
    (hd0 : discF n (ent h) m ≠ 0) (hdd : discI (discF n (ent h) m) = discF n (ent h) m) (hf : (discF n (ent h) m).natAbs ≤ 40000)
    (hp : ∀ p ∈ facL (2 * detN n (ent h) * m), p.1 ≤ 9973 ∧ isP p.1 = true ∧ p.1 ^ ((2 * expN p.1 (2 * m) + 1) * n) ≤ 2097152) :
    Ok Tryz.prog tab 25 [.imm 31 false (intF n (ent h)), .int .i64 m] [] (.tup [.v (.agg 43 (ratD (expR n (ent h) m))), .v (.int .i64 0)]) [] := by
  have hred := isRed_sq h n hq hn8
  rw [hr, hq.intF] at hred
  have hdet := sdet_ok hq hn8 hr
  obtain ⟨_, hd1, hd2⟩ := redI_det hq.lo hr
  have hdens := fun p h1 h2 h3 h4 => density_ok hq hn8 hr p h1 h2 h3 m hm1 hm2 h4
  have hlenH := intF_length n (ent h)
  have hdN : ((detN n (ent h) : Nat) : Int) = pivI (ent h) n := Int.toNat_of_nonneg (by omega)
  obtain ⟨d, hd⟩ : ∃ d, detN n (ent h) = d := ⟨_, rfl⟩
  obtain ⟨x, hx⟩ : ∃ x, rawF n (ent h) m = x := ⟨_, rfl⟩
  obtain ⟨disc, hdisc⟩ : ∃ x, discF n (ent h) m = x := ⟨_, rfl⟩
  have hxd : discI x = disc := by rw [← hx, ← hdisc]; rfl
  have hlocF : ∀ p, locF n (ent h) m p = (densR n (ent h) p m * facR (kroI disc p) p (n / 2)) / facR 1 p (2 * (n / 2)) := fun p => by rw [locF, if_neg (by omega), hdisc]
  have hexp0 : exp0 n (ent h) m = topO (n / 2) m disc.natAbs d (absR (genR (n / 2) disc)) := by rw [exp0, if_neg (by omega), hdisc, hd]
  have hexpR : expR n (ent h) m = expGo n (ent h) m (facL (2 * d * m)) (topO (n / 2) m disc.natAbs d (absR (genR (n / 2) disc))) := by rw [expR, hexp0, hd]
  rw [hexpR]
  have hx' := hx
  unfold rawF at hx'
  rw [hd, if_pos hpar] at hx'
  rw [hd] at hdN hp
  rw [← hdN] at hdet hd1 hd2
  rw [hx] at hxs
  rw [hdisc] at hds hd0 hdd hf
  have hd1' : 1 ≤ d := by omega
  have hd2' : d ≤ 10000 := by omega
  have hmd : m * d ≤ 10000000 := Nat.mul_le_mul hm2 hd2'
  have hmd1 : 1 ≤ m * d := Nat.mul_pos hm1 hd1'
  have hx0 : x ≠ 0 := by rw [← hx']; unfold negI; split <;> omega
  have hxb : -10000000 ≤ x ∧ x ≤ 10000000 := by rw [← hx']; unfold negI; split <;> omega
  obtain ⟨s, hs⟩ : ∃ s, n / 2 = s := ⟨_, rfl⟩
  rw [hs] at hlocF hx' ⊢
  have hs1 : 1 ≤ s := by omega
  have hs4 : s ≤ 4 := by omega
  have hneg := negated_ok ((m * d : Nat) : Int) s (by omega) (by omega)
  rw [hx'] at hneg
  have hdis := disc_ok x hx0 (by omega) (by omega) hxs
  rw [hxd] at hdis
  have hgen := gen_ok s disc hs1 (by omega) hd0 (by omega) (by omega) hdd hds
  obtain ⟨f, hfe⟩ : ∃ f, disc.natAbs = f := ⟨_, rfl⟩
  have hf1 : 1 ≤ f := by omega
  have hf2 : f ≤ 40000 := by omega
  have hdf : d * f ≤ 10000 * 40000 := Nat.mul_le_mul hd2' hf2
  have hdf1 : 1 ≤ d * f := Nat.mul_pos hd1' hf1
  have hfm : f * m ≤ 40000 * 1000 := Nat.mul_le_mul hf2 hm2
  have hfm1 : 1 ≤ f * m := Nat.mul_pos hf1 hm1
  have hfmd : f * m * d ≤ 40000 * 1000 * 10000 := Nat.mul_le_mul hfm hd2'
  have hfmd1 : 1 ≤ f * m * d := Nat.mul_pos hfm1 hd1'
  have hro : rootN (f * m * d) ≤ 9223372036854775807 := Nat.le_trans (rootN_le (n := f * m * d) (by omega)) (by omega)
  have hro1 := rootN_pos (n := f * m * d) (by omega) (by omega)
  have hdm : 2 * d * m ≤ 2 * 10000 * 1000 := Nat.mul_le_mul (by omega) hm2
  have hdm1 : 1 ≤ 2 * d * m := Nat.mul_pos (by omega) hm1
  have hfac := factor_num_ok (2 * d * m) hdm1 (by omega)
  have hfl : (facL (2 * d * m)).length ≤ 2 * d * m + 46342 := facGo_len _ _ _
  have hfmem : ∀ p ∈ facL (2 * d * m), 2 ≤ p.1 := fun p h => (facL_mem h).1
  have hfmem2 : ∀ p ∈ facL (2 * d * m), p.1 ≤ 2 * d * m := fun p h => (facL_mem h).2.1
  have q_red := hred
  have q_det := hdet
  have q_neg := hneg
  have q_dis := hdis
  have q_B := hgen
  obtain ⟨B, hB⟩ : ∃ q : Rat, genR s disc = q := ⟨_, rfl⟩
  have zB : SzR 1200000 B := by rw [← hB]; exact gen_sz (by omega) hf
  rw [hB] at q_B
  obtain ⟨bB, lB, kB, mB, eB⟩ := ratD_ex B
  have q_A := absolute_ok B (zB.mono (by decide))
  obtain ⟨A, hA⟩ : ∃ q : Rat, absR B = q := ⟨_, rfl⟩
  have zA : SzR 1200000 A := by rw [← hA]; exact absR_sz zB
  rw [hA] at q_A
  obtain ⟨bA, lA, kA, mA, eA⟩ := ratD_ex A
  have q_M := swholeN_ok (m) (by omega)
  obtain ⟨M, hM⟩ : ∃ q : Rat, (((m : Nat) : Int) : Rat) = q := ⟨_, rfl⟩
  have zM : SzR 2 M := by rw [← hM]; exact SzR.nat (by omega)
  rw [hM] at q_M
  obtain ⟨bM, lM, kM, mM, eM⟩ := ratD_ex M
  have q_P := spower_ok M ((s - 1 : Nat) : Int) (by omega) (by omega) (fun h => by omega) (zM.mono (by decide))
  obtain ⟨P, hP⟩ : ∃ q : Rat, M ^ ((s - 1 : Nat) : Int) = q := ⟨_, rfl⟩
  have zP : SzR 20 P := by rw [← hP]; exact (zM.zpow _).mono (by omega)
  rw [hP] at q_P
  obtain ⟨bP, lP, kP, mP, eP⟩ := ratD_ex P
  have q_W := swholeN_ok (2) (by decide)
  obtain ⟨W, hW⟩ : ∃ q : Rat, (((2 : Nat) : Int) : Rat) = q := ⟨_, rfl⟩
  have zW : SzR 2 W := by rw [← hW]; exact SzR.nat (by decide)
  rw [hW] at q_W
  obtain ⟨bW, lW, kW, mW, eW⟩ := ratD_ex W
  have q_Q := spower_ok W ((s : Nat) : Int) (by omega) (by omega) (fun h => by omega) (zW.mono (by decide))
  obtain ⟨Q, hQ⟩ : ∃ q : Rat, W ^ ((s : Nat) : Int) = q := ⟨_, rfl⟩
  have zQ : SzR 20 Q := by rw [← hQ]; exact (zW.zpow _).mono (by omega)
  rw [hQ] at q_Q
  obtain ⟨bQ, lQ, kQ, mQ, eQ⟩ := ratD_ex Q
  have q_U := mul_rat P Q (zP.mono (by decide)) (zQ.mono (by decide))
  obtain ⟨U, hU⟩ : ∃ q : Rat, P * Q = q := ⟨_, rfl⟩
  have zU : SzR 40 U := by rw [← hU]; exact (zP.mul zQ (by decide)).mono (by decide)
  rw [hU] at q_U
  obtain ⟨bU, lU, kU, mU, eU⟩ := ratD_ex U
  have q_C := number_ok (2 * s) (by omega)
  obtain ⟨C, hC⟩ : ∃ q : Rat, berB (2 * s) = q := ⟨_, rfl⟩
  have zC : SzR 1 C := by rw [← hC]; exact berB_sz (by omega)
  rw [hC] at q_C
  obtain ⟨bC, lC, kC, mC, eC⟩ := ratD_ex C
  have q_V := mul_rat U A (zU.mono (by decide)) (zA.mono (by decide))
  obtain ⟨V, hV⟩ : ∃ q : Rat, U * A = q := ⟨_, rfl⟩
  have zV : SzR 1200040 V := by rw [← hV]; exact (zU.mul zA (by decide)).mono (by decide)
  rw [hV] at q_V
  obtain ⟨bV, lV, kV, mV, eV⟩ := ratD_ex V
  have q_roo := root_ok (f * m * d) (by omega)
  have q_R := swholeN_ok (rootN (f * m * d)) (hro)
  obtain ⟨R, hR⟩ : ∃ q : Rat, (((rootN (f * m * d) : Nat) : Int) : Rat) = q := ⟨_, rfl⟩
  have zR : SzR 2 R := by rw [← hR]; exact SzR.nat (hro)
  rw [hR] at q_R
  obtain ⟨bR, lR, kR, mR, eR⟩ := ratD_ex R
  have q_T := mul_rat V R (zV.mono (by decide)) (zR.mono (by decide))
  obtain ⟨T, hT⟩ : ∃ q : Rat, V * R = q := ⟨_, rfl⟩
  have zT : SzR 1200042 T := by rw [← hT]; exact (zV.mul zR (by decide)).mono (by decide)
  rw [hT] at q_T
  obtain ⟨bT, lT, kT, mT, eT⟩ := ratD_ex T
  have q_D1 := swholeN_ok (d) (by omega)
  obtain ⟨D1, hD1⟩ : ∃ q : Rat, (((d : Nat) : Int) : Rat) = q := ⟨_, rfl⟩
  have zD1 : SzR 2 D1 := by rw [← hD1]; exact SzR.nat (by omega)
  rw [hD1] at q_D1
  obtain ⟨bD1, lD1, kD1, mD1, eD1⟩ := ratD_ex D1
  have q_G := swholeN_ok (f) (by omega)
  obtain ⟨G, hG⟩ : ∃ q : Rat, (((f : Nat) : Int) : Rat) = q := ⟨_, rfl⟩
  have zG : SzR 2 G := by rw [← hG]; exact SzR.nat (by omega)
  rw [hG] at q_G
  obtain ⟨bG, lG, kG, mG, eG⟩ := ratD_ex G
  have q_H := spower_ok G ((s : Nat) : Int) (by omega) (by omega) (fun h => by omega) (zG.mono (by decide))
  obtain ⟨H, hH⟩ : ∃ q : Rat, G ^ ((s : Nat) : Int) = q := ⟨_, rfl⟩
  have zH : SzR 20 H := by rw [← hH]; exact (zG.zpow _).mono (by omega)
  rw [hH] at q_H
  obtain ⟨bH, lH, kH, mH, eH⟩ := ratD_ex H
  have q_X := mul_rat D1 H (zD1.mono (by decide)) (zH.mono (by decide))
  obtain ⟨X, hX⟩ : ∃ q : Rat, D1 * H = q := ⟨_, rfl⟩
  have zX : SzR 22 X := by rw [← hX]; exact (zD1.mul zH (by decide)).mono (by decide)
  rw [hX] at q_X
  obtain ⟨bX, lX, kX, mX, eX⟩ := ratD_ex X
  have q_C2 := absolute_ok C (zC.mono (by decide))
  obtain ⟨C2, hC2⟩ : ∃ q : Rat, absR C = q := ⟨_, rfl⟩
  have zC2 : SzR 1 C2 := by rw [← hC2]; exact absR_sz zC
  rw [hC2] at q_C2
  obtain ⟨bC2, lC2, kC2, mC2, eC2⟩ := ratD_ex C2
  have q_Y := mul_rat X C2 (zX.mono (by decide)) (zC2.mono (by decide))
  obtain ⟨Y, hY⟩ : ∃ q : Rat, X * C2 = q := ⟨_, rfl⟩
  have zY : SzR 23 Y := by rw [← hY]; exact (zX.mul zC2 (by decide)).mono (by decide)
  rw [hY] at q_Y
  obtain ⟨bY, lY, kY, mY, eY⟩ := ratD_ex Y
  have nY : Y ≠ 0 := by rw [← hY, ← hX, ← hD1, ← hH, ← hG, ← hC2, ← hC]; exact mul_nz (mul_nz (nat_ne hd1') (pow_ne (nat_ne hf1) s)) (absR_ne (berB_ne s (by omega) hs1))
  have q_O := over_ok T Y (nY) (zT.mono (by decide)) (zY.mono (by decide))
  obtain ⟨O, hO⟩ : ∃ q : Rat, T / Y = q := ⟨_, rfl⟩
  have zO : SzR 1300000 O := by rw [← hO]; exact (zT.div zY (by decide)).mono (by decide)
  rw [hO] at q_O
  obtain ⟨bO, lO, kO, mO, eO⟩ := ratD_ex O
  have hO0 : topO s m disc.natAbs d (absR (genR s disc)) = O := by rw [← hO, ← hT, ← hY, ← hV, ← hU, ← hP, ← hM, ← hQ, ← hW, ← hR, ← hX, ← hD1, ← hH, ← hG, ← hC2, ← hC, ← hA, ← hB, hfe]; rfl
  rw [hO0]
  simp only [eB, eA, eM, eP, eW, eQ, eU, eC, eV, eR, eT, eD1, eG, eH, eX, eC2, eY, eO] at q_red q_det q_neg q_dis q_B q_A q_M q_P q_W q_Q q_U q_C q_V q_roo q_R q_T q_D1 q_G q_H q_X q_C2 q_Y q_O
  obtain ⟨L0, hL0⟩ : ∃ L, facL (2 * d * m) = L := ⟨_, rfl⟩
  rw [hL0] at hfac hfl hfmem hfmem2 hp ⊢
  have gL : ∀ i (h : i < L0.length), (L0.map ppD).getD i .nil = .agg [.int (L0[i].1 : Int), .int (L0[i].2 : Int)] := fun i h => getD_map h
  have lL : (L0.map ppD).length = L0.length := by simp
  obtain ⟨L1, hL1⟩ : ∃ L, L0.map ppD = L := ⟨_, rfl⟩
  rw [hL1] at hfac gL lL
  obtain ⟨bE, lE, kE, mE, eE⟩ := ratD_ex (expGo n (ent h) m L0 O)
  obtain ⟨RR, hRR⟩ : ∃ R : Rat, expGo n (ent h) m L0 O = R := ⟨_, rfl⟩
  rw [hRR] at eE ⊢
  rw [eE]
  generalize intF n (ent h) = HH at *
  obtain ⟨dI, hdI⟩ : ∃ z : Int, ((d : Nat) : Int) = z := ⟨_, rfl⟩
  obtain ⟨mI, hmI⟩ : ∃ z : Int, ((m : Nat) : Int) = z := ⟨_, rfl⟩
  obtain ⟨sI, hsI⟩ : ∃ z : Int, ((s : Nat) : Int) = z := ⟨_, rfl⟩
  obtain ⟨fI, hfI⟩ : ∃ z : Int, ((f : Nat) : Int) = z := ⟨_, rfl⟩
  obtain ⟨rI, hrI⟩ : ∃ z : Int, ((rootN (f * m * d) : Nat) : Int) = z := ⟨_, rfl⟩
  obtain ⟨nI, hnI⟩ : ∃ z : Int, (HH.length : Int) = z := ⟨_, rfl⟩
  rw [hmI]
  simp only [hdI, hmI, hsI, hfI, hrI] at hdet hneg hdis hfac hdens q_red q_det q_neg q_dis q_B q_A q_M q_P q_W q_Q q_U q_C q_V q_roo q_R q_T q_D1 q_G q_H q_X q_C2 q_Y q_O
  have w1 : IntKind.i64.wrap (nI.tdiv 2) = sI := by rw [Int.tdiv_eq_ediv_of_nonneg (by omega), wrap64 _ (by omega) (by omega)]; omega
  have w2 : nI.tmod 2 = ((n % 2 : Nat) : Int) := by rw [Int.tmod_eq_emod_of_nonneg (by omega)]; omega
  have w3 : IntKind.i64.wrap (mI * dI) = ((m * d : Nat) : Int) := by rw [← hmI, ← hdI, ← Int.natCast_mul]; exact wrapN (by omega)
  have w4 : (if IntKind.i64.wrap (0 - disc) > disc then IntKind.i64.wrap (0 - disc) else disc) = fI := by
    rw [wrap64 _ (by omega) (by omega)]; split <;> omega
  have w5 : IntKind.i64.wrap (sI - 1) = ((s - 1 : Nat) : Int) := by rw [wrap64 _ (by omega) (by omega)]; omega
  have w6 : IntKind.i64.wrap (2 * sI) = ((2 * s : Nat) : Int) := by rw [wrap64 _ (by omega) (by omega)]; omega
  have w7 : IntKind.i64.wrap (fI * mI) = ((f * m : Nat) : Int) := by rw [← hmI, ← hfI, ← Int.natCast_mul]; exact wrapN (by omega)
  have w8 : IntKind.i64.wrap (((f * m : Nat) : Int) * dI) = ((f * m * d : Nat) : Int) := by rw [← hdI, ← Int.natCast_mul]; exact wrapN (by omega)
  have w9 : IntKind.i64.wrap (dI * fI) = ((d * f : Nat) : Int) := by rw [← hdI, ← hfI, ← Int.natCast_mul]; exact wrapN (by omega)
  have w10 : IntKind.i64.wrap (2 * dI) = ((2 * d : Nat) : Int) := by rw [wrap64 _ (by omega) (by omega)]; omega
  have w11 : IntKind.i64.wrap (((2 * d : Nat) : Int) * mI) = ((2 * d * m : Nat) : Int) := by rw [← hmI, ← Int.natCast_mul]; exact wrapN (by omega)
  refine Ok.go progOK [] [.call (.v (.bool true)) [] [], .tk false, .tk false, .tk false, .call (.v (.int .i64 dI)) [] [], .tk true, .call (.v (.int .i64 x)) [] [], .call (.tup [.v (.int .i64 disc), .v (.int .i64 0)]) [] [], .tk false, .call (.tup [.v (.agg 43 (.agg [.agg [.bool bB, .list lB], .agg [.bool kB, .list mB]])), .v (.int .i64 0)]) [] [], .call (.v (.agg 43 (.agg [.agg [.bool bA, .list lA], .agg [.bool kA, .list mA]]))) [] [], .call (.v (.agg 43 (.agg [.agg [.bool bM, .list lM], .agg [.bool kM, .list mM]]))) [] [], .call (.v (.agg 43 (.agg [.agg [.bool bP, .list lP], .agg [.bool kP, .list mP]]))) [] [], .call (.v (.agg 43 (.agg [.agg [.bool bW, .list lW], .agg [.bool kW, .list mW]]))) [] [], .call (.v (.agg 43 (.agg [.agg [.bool bQ, .list lQ], .agg [.bool kQ, .list mQ]]))) [] [], .call (.v (.agg 43 (.agg [.agg [.bool bU, .list lU], .agg [.bool kU, .list mU]]))) [] []] 400 Tryz.func25 rfl rfl rfl fun J hJX L Z hL hZ => ?_
  conv => cbv
  subst hL hZ
  dsimp only [std, deep]
  simp only [hnI, w1, w2, w3, w4, w5, w6, w7, w8, w9, w10, w11]
  repeat' first | exact trivial | exact hred | exact hdet | exact hneg | exact hdis | exact hfac | exact q_red | exact q_det | exact q_neg | exact q_dis | exact q_B | exact q_A | exact q_M | exact q_P | exact q_W | exact q_Q | exact q_U | exact q_C | exact q_V | exact q_roo | exact q_R | exact q_T | exact q_D1 | exact q_G | exact q_H | exact q_X | exact q_C2 | exact q_Y | exact q_O | omega | (refine fun (hh : (_ : Prop)) => absurd hh ?_; simp; omega) | (simp; omega) | (simp; done) | refine fun (hh : (_ : Prop)) => ?_ | refine And.intro ?_ ?_
  refine Means.weak (rl' := [(4, boxed 43 (.agg [.agg [.bool false, .list []], .agg [.bool false, .list []]])), (13, boxed 43 (.agg [.agg [.bool bA, .list lA], .agg [.bool kA, .list mA]])), (15, boxed 43 (.agg [.agg [.bool false, .list []], .agg [.bool false, .list []]])), (16, boxed 43 (.agg [.agg [.bool bU, .list lU], .agg [.bool kU, .list mU]]))])
    (sl' := [(0, .imm 31 false HH), (1, .int .i64 mI), (4, .addr 4 0 0 [] 43), (6, .int .i64 nI), (7, .int .i64 sI), (8, .int .i64 dI), (10, .int .i64 disc), (12, .int .i64 fI), (13, .addr 13 0 0 [] 43), (15, .addr 15 0 0 [] 43), (16, .addr 16 0 0 [] 43), (90, .bool false)]) rfl rfl rfl
    ⟨rfl, rfl, rfl, rfl, rfl, rfl, rfl, rfl, rfl, rfl, rfl, (by simp; omega), trivial⟩ ⟨rfl, rfl, rfl, rfl, trivial⟩ ?_
  refine Means.go progOK hJX [.tk false, .call (.tup [.v (.agg 43 (.agg [.agg [.bool bC, .list lC], .agg [.bool kC, .list mC]])), .v (.int .i64 0)]) [] [], .call (.v (.agg 43 (.agg [.agg [.bool bV, .list lV], .agg [.bool kV, .list mV]]))) [] [], .call (.v (.int .i64 rI)) [] [], .call (.v (.agg 43 (.agg [.agg [.bool bR, .list lR], .agg [.bool kR, .list mR]]))) [] [], .call (.v (.agg 43 (.agg [.agg [.bool bT, .list lT], .agg [.bool kT, .list mT]]))) [] [], .call (.v (.agg 43 (.agg [.agg [.bool bD1, .list lD1], .agg [.bool kD1, .list mD1]]))) [] [], .call (.v (.agg 43 (.agg [.agg [.bool bG, .list lG], .agg [.bool kG, .list mG]]))) [] [], .call (.v (.agg 43 (.agg [.agg [.bool bH, .list lH], .agg [.bool kH, .list mH]]))) [] [], .call (.v (.agg 43 (.agg [.agg [.bool bX, .list lX], .agg [.bool kX, .list mX]]))) [] [], .call (.v (.agg 43 (.agg [.agg [.bool bC2, .list lC2], .agg [.bool kC2, .list mC2]]))) [] [], .call (.v (.agg 43 (.agg [.agg [.bool bY, .list lY], .agg [.bool kY, .list mY]]))) [] [], .call (.v (.agg 43 (.agg [.agg [.bool bO, .list lO], .agg [.bool kO, .list mO]]))) [] [], .before 148 .hid 13, .before 148 .hid 16, .before 148 .hid 17, .call (.tup [.v (.imm 79 false L1), .v (.int .i64 0)]) [] []] 400 fun L Z hL hZ => ?_
  conv => cbv
  subst hL hZ
  dsimp only [std, deep]
  simp only [hnI, w1, w2, w3, w4, w5, w6, w7, w8, w9, w10, w11]
  repeat' first | exact trivial | exact hred | exact hdet | exact hneg | exact hdis | exact hfac | exact q_red | exact q_det | exact q_neg | exact q_dis | exact q_B | exact q_A | exact q_M | exact q_P | exact q_W | exact q_Q | exact q_U | exact q_C | exact q_V | exact q_roo | exact q_R | exact q_T | exact q_D1 | exact q_G | exact q_H | exact q_X | exact q_C2 | exact q_Y | exact q_O | omega | (refine fun (hh : (_ : Prop)) => absurd hh ?_; simp; omega) | (simp; omega) | (simp; done) | refine fun (hh : (_ : Prop)) => ?_ | refine And.intro ?_ ?_
  obtain ⟨lI, hlI⟩ : ∃ z : Int, (L1.length : Int) = z := ⟨_, rfl⟩
  refine Means.begin (α := Nat × Rat) (fun st => [(4, boxed 43 (.agg [.agg [.bool false, .list []], .agg [.bool false, .list []]])), (15, boxed 43 (ratD st.2))])
    (fun st => [(0, .imm 31 false HH), (1, .int .i64 mI), (4, .addr 4 0 0 [] 43), (6, .int .i64 nI), (7, .int .i64 sI), (10, .int .i64 disc), (15, .addr 15 0 0 [] 43), (155, .imm 79 false L1), (156, .int .i64 lI), (157, .int .i64 (st.1 : Nat))])
    (fun st => st.1 ≤ L0.length ∧ SzR (1300000 + 200 * st.1) st.2 ∧ expGo n (ent h) m (L0.drop st.1) st.2 = RR) (fun st => L0.length - st.1) (0, O) rfl rfl rfl
    ⟨rfl, rfl, rfl, rfl, rfl, rfl, rfl, rfl, hlI, rfl, trivial⟩ ⟨rfl, (by show [_] = [ratD O]; rw [eO]), trivial⟩ ⟨Nat.zero_le _, zO, hRR⟩ ?_
  rintro ⟨i, q⟩ ⟨hi, zq, hgo⟩ ih
  dsimp only at hi zq hgo ih ⊢
  obtain ⟨iI, hiI⟩ : ∃ z : Int, (i : Int) = z := ⟨_, rfl⟩
  obtain ⟨bq, lq, kq, mq, eq⟩ := ratD_ex q
  rw [hiI, eq]
  rcases Nat.lt_or_ge i L0.length with hlt | hge
  · have gi := gL i hlt
    have hmem := List.getElem_mem hlt
    have hpp := hp _ hmem
    have hp2 := hfmem _ hmem
    have hp3 := hfmem2 _ hmem
    rw [drop_cons hlt, expGo, hlocF] at hgo
    generalize L0[i] = pe at *
    obtain ⟨p, e⟩ := pe
    dsimp only at gi hpp hp2 hp3 hgo
    obtain ⟨hpp1, hpp2, hpp3⟩ := hpp
    have c1 := hdens p hp2 hpp1 hpp2 hpp3
    have c2 := kro_ok disc p (by omega) (by omega) (by omega) (by omega)
    have hks := kroI_small disc p
    obtain ⟨c, hc⟩ : ∃ z, kroI disc p = z := ⟨_, rfl⟩
    rw [hc] at c2 hks hgo
    have zd := dens_sz (n := n) (F := ent h) (p := p) (m := m) hn8 (by omega) (by omega) hpp3
    have c3 := factorN_ok c p s ⟨by omega, by omega⟩ ⟨by omega, by omega⟩ (by omega) (by omega)
    have zf := fac_sz (c := c) (p := p) (s := s) ⟨by omega, by omega⟩ ⟨by omega, by omega⟩ (by omega)
    have nf := fac_ne (c := c) (p := p) (s := s) (by omega) (by omega) hs1
    obtain ⟨a, ha⟩ : ∃ z, densR n (ent h) p m = z := ⟨_, rfl⟩
    obtain ⟨u, hu⟩ : ∃ z, facR c p s = z := ⟨_, rfl⟩
    rw [ha] at c1 zd hgo
    rw [hu] at c3 zf nf hgo
    have c4 := mul_rat a u (zd.mono (by decide)) (zf.mono (by decide))
    have zt : SzR 50 (a * u) := zd.mul zf (by decide)
    obtain ⟨t, ht⟩ : ∃ z, a * u = z := ⟨_, rfl⟩
    rw [ht] at c4 zt hgo
    have c5 := factorN_ok 1 p (2 * s) i64_one ⟨by omega, by omega⟩ (by omega) (by omega)
    have zg := fac_sz (c := 1) (p := p) (s := 2 * s) i64_one ⟨by omega, by omega⟩ (by omega)
    have ng := fac_ne (c := 1) (p := p) (s := 2 * s) (by omega) (by omega) (by omega)
    obtain ⟨g, hg⟩ : ∃ z, facR 1 p (2 * s) = z := ⟨_, rfl⟩
    rw [hg] at c5 zg ng hgo
    have c6 := over_ok t g ng (zt.mono (by decide)) (zg.mono (by decide))
    have zv : SzR 80 (t / g) := (zt.div zg (by decide)).mono (by decide)
    obtain ⟨v, hv⟩ : ∃ z, t / g = z := ⟨_, rfl⟩
    rw [hv] at c6 zv hgo
    have c9 := mul_rat q v (zq.mono (by omega)) (zv.mono (by decide))
    obtain ⟨bt, lt, kt, mt, et⟩ := ratD_ex t
    obtain ⟨bg, lg, kg, mg, eg⟩ := ratD_ex g
    have lk := ih (i + 1, q * v) ⟨hlt, (zq.mul zv (by omega)).mono (by dsimp only; omega), hgo⟩ (by dsimp only; omega)
    dsimp only at lk
    obtain ⟨bw, lw, kw, mw, ew⟩ := ratD_ex (q * v)
    obtain ⟨ba, la, ka, ma, ea⟩ := ratD_ex a
    obtain ⟨bu, lu, ku, mu, eu⟩ := ratD_ex u
    obtain ⟨bv, lv, kv, mv, ev⟩ := ratD_ex v
    rw [ew] at lk
    simp only [ew, ea, eu, ev, eq, et, eg] at c1 c3 c4 c9 c5 c6
    obtain ⟨pI, hpI⟩ : ∃ z : Int, (p : Int) = z := ⟨_, rfl⟩
    obtain ⟨eI, heI⟩ : ∃ z : Int, (e : Int) = z := ⟨_, rfl⟩
    rw [hpI, heI] at gi
    simp only [hpI, hsI] at c1 c2 c3 c5
    refine Means.go progOK hJX [.tk true, .call (.tup [.v (.agg 43 (.agg [.agg [.bool ba, .list la], .agg [.bool ka, .list ma]])), .v (.int .i64 0)]) [] [], .tk false, .call (.tup [.v (.int .i64 c), .v (.int .i64 0)]) [] [], .tk false, .call (.v (.agg 43 (.agg [.agg [.bool bu, .list lu], .agg [.bool ku, .list mu]]))) [] [], .call (.v (.agg 43 (.agg [.agg [.bool bt, .list lt], .agg [.bool kt, .list mt]]))) [] [], .call (.v (.agg 43 (.agg [.agg [.bool bg, .list lg], .agg [.bool kg, .list mg]]))) [] [], .call (.v (.agg 43 (.agg [.agg [.bool bv, .list lv], .agg [.bool kv, .list mv]]))) [] [], .call (.v (.agg 43 (.agg [.agg [.bool bw, .list lw], .agg [.bool kw, .list mw]]))) [] [], .before 203 .hid 22, .before 203 .hid 24] 400 fun L Z hL hZ => ?_
    conv => cbv
    subst hL hZ
    dsimp only [std, deep]
    rw [show iI.toNat = i by omega, gi]
    simp only [show ((D.agg [D.int pI, D.int eI]).kid 0).toInt = pI from rfl, w2, w6]
    repeat' first | exact trivial | exact c1 | exact c2 | exact c3 | exact c4 | exact c9 | exact c5 | exact c6 | omega | (simp; omega) | (simp; done) | refine And.intro ?_ ?_
    exact lk.to rfl rfl rfl ⟨rfl, rfl, rfl, rfl, rfl, rfl, rfl, rfl, rfl, (by rw [wrap64 _ (by omega) (by omega)]; omega), trivial⟩ ⟨rfl, rfl, trivial⟩
  · rw [List.drop_eq_nil_of_le hge, expGo] at hgo
    have e5 : D.agg [D.agg [D.bool bq, D.list lq], D.agg [D.bool kq, D.list mq]] = D.agg [D.agg [D.bool bE, D.list lE], D.agg [D.bool kE, D.list mE]] := by rw [← eq, ← eE, hgo]
    refine Means.go progOK hJX [.tk false] 400 fun L Z hL hZ => ?_
    conv => cbv
    subst hL hZ
    dsimp only [std, deep]
    repeat' first | exact trivial | exact e5 | omega | (simp; omega) | (simp; done) | refine And.intro ?_ ?_
end Go.VI
