/- Rationals as text, and sums of squares: what the program reckons (printed by gen_gt.py). Sums of squares modulo m, counted one square after the other: plain. Siegel's mean of some sums of squares: its values (printed by gen_gu.py). The checks of the examples, and the means of sums of squares: what the program reckons (printed by gen_gv.py). From a contract to a given statement: a law whose answer is true. -/
import Derived.Test.YtnnikgdmdmbooaaGreatJ14
import Derived.Test.YtnnikgdmdmbooaaGreatJ15
import Derived.Test.YtnnikgdmdmbooaaGreatJ12
import Derived.Test.YtnnikgdmdmbooaaGreatJ07
import Derived.ChangeSame
import Derived.RowKit3
set_option linter.unusedVariables false
set_option linter.unusedSimpArgs false
namespace Go.VI
open Go.Proofs
set_option maxRecDepth 20000

theorem isWhole_ok (z : Int) (hz : Sz big z) : Ok Tryz.prog tab 165 [.agg 43 (ratD ((z : Int) : Rat))] [] (.v (.bool true)) [] := by
  have c1 := of_ok ((z : Int) : Rat) (SzR.int hz (by decide))
  have c2 := divmod_ok z 1 (by decide) hz (sz_one (by decide))
  have c3 := sign_ok (z % 1) (by rw [Int.emod_one]; exact sz_zero)
  rw [Int.emod_one] at c2 c3
  have e0 : ratD ((z : Int) : Rat) = .agg [bigD z, bigD 1] := by unfold ratD fracD; rw [Rat.num_intCast, Rat.den_intCast]; rfl
  rw [e0] at c1 ⊢
  obtain ⟨b1, l1, e1⟩ := bigD_ex z
  obtain ⟨b2, l2, e2⟩ := bigD_ex 1
  obtain ⟨b3, l3, e3⟩ := bigD_ex (z / 1)
  obtain ⟨b4, l4, e4⟩ := bigD_ex 0
  simp only [e1, e2, e3, e4] at c1 c2 c3 ⊢
  refine Ok.go progOK [] [.call (.v (.agg 100 (.agg [.agg [.bool b1, .list l1], .agg [.bool b2, .list l2]]))) [] [], .call (.tup [.v (.agg 41 (.agg [.bool b3, .list l3])), .v (.agg 41 (.agg [.bool b4, .list l4])), .v (.bool true)]) [] [], .call (.v (.int .i64 0)) [] []] 400 Tryz.func165 rfl rfl rfl fun J hJX L Z hL hZ => ?_
  conv => cbv
  subst hL hZ
  dsimp only [std, deep]
  repeat' first | exact trivial | exact c1 | exact c2 | exact c3 | rfl | refine And.intro ?_ ?_

theorem qformat_ok (z : Nat) (h1 : 1 ≤ z) (h2 : z < 100000000) : Ok Tryz.prog tab 81 [.agg 43 (ratD (((z : Nat) : Int) : Rat))] [] (.v (.str (decS z))) [] := by
  have c1 := normalize_rat (((z : Nat) : Int) : Rat) ((SzR.i64 (z := (z : Int)) ⟨by omega, by omega⟩).mono (by decide))
  have c2 := isWhole_ok (z : Int) (i64_sz ⟨by omega, by omega⟩)
  have c3 := format_ok z h1 h2
  have e0 : ratD (((z : Nat) : Int) : Rat) = .agg [bigD (z : Int), bigD 1] := by unfold ratD fracD; rw [Rat.num_intCast, Rat.den_intCast]; rfl
  rw [e0] at c1 c2 ⊢
  obtain ⟨b1, l1, e1⟩ := bigD_ex (z : Int)
  obtain ⟨b2, l2, e2⟩ := bigD_ex 1
  obtain ⟨S, hS⟩ : ∃ S, decS z = S := ⟨_, rfl⟩
  simp only [e1, e2, hS] at c1 c2 c3 ⊢
  refine Ok.go progOK [] [.call (.v (.agg 43 (.agg [.agg [.bool b1, .list l1], .agg [.bool b2, .list l2]]))) [] [], .call (.v (.bool true)) [] [], .tk true, .call (.v (.str S)) [] []] 400 Tryz.func81 rfl rfl rfl fun J hJX L Z hL hZ => ?_
  conv => cbv
  subst hL hZ
  dsimp only [std, deep]
  repeat' first | exact trivial | exact c1 | exact c2 | exact c3 | rfl | refine And.intro ?_ ?_

def idF : Nat → Nat → Int := fun i j => if i = j then 1 else 0
set_option maxHeartbeats 1000000 in
theorem identity_ok (n : Nat) (hn : n ≤ 8) : Ok Tryz.prog tab 82 [.int .i64 n] [] (.v (.imm 31 false (intF n idF))) [] := by
  obtain ⟨R, hR⟩ : ∃ A, intF n idF = A := ⟨_, rfl⟩
  have lR : R.length = n := by rw [← hR, intF_length]
  have gR : ∀ i, i < n → R.getD i .nil = .list (rowI n idF i) := fun i h => by rw [← hR]; exact intF_get _ h
  rw [hR]
  obtain ⟨ni, hni⟩ : ∃ z : Int, (n : Int) = z := ⟨_, rfl⟩
  rw [hni]
  refine Ok.go progOK [(6, .mem 6 2), (20, .key 15)] [] 400 Tryz.func82 rfl rfl rfl fun J hJX L Z hL hZ => ?_
  conv => cbv
  subst hL hZ
  dsimp only [std, deep]
  rw [show ni.toNat = n by omega]
  simp only [List.length_replicate]
  refine ⟨trivial, by omega, by omega, by omega, ?_⟩
  refine Means.begin (α := Nat) (fun k => [(6, rows2 31 (R.take k ++ List.replicate (n - k) (.list [])) [])])
    (fun k => [(0, .int .i64 ni), (3, .top 6 0), (8, .int .i64 ni), (9, .int .i64 k)]) (fun k => k ≤ n) (fun k => n - k) 0 rfl rfl rfl
    ⟨rfl, hni, rfl, trivial⟩ ⟨rfl, trivial⟩ (Nat.zero_le _) ?_
  intro k hk ih
  obtain ⟨E, hE⟩ : ∃ E, R.take k ++ List.replicate (n - k) (.list []) = E := ⟨_, rfl⟩
  have lE : E.length = n := by rw [← hE]; simp; omega
  obtain ⟨ki, hki⟩ : ∃ r : Int, (k : Int) = r := ⟨_, rfl⟩
  rw [hE, hki]
  rcases Nat.lt_or_ge k n with hlt | hge
  · have gRk := gR k hlt
    have sr : (List.replicate n (D.int 0)).set k (.int 1) = rowI n idF k := by
      apply List.ext_getElem
      · simp [rowI]
      · intro j h1 h2
        simp only [List.getElem_set, List.getElem_replicate, rowI, List.getElem_map, List.getElem_range, idF]
        split <;> rfl
    obtain ⟨q, hq⟩ : ∃ r, rowI n idF k = r := ⟨_, rfl⟩
    rw [hq] at gRk sr
    have nk : ∀ j K, E.getD j .nil ≠ .key K := by
      rw [← hE]
      refine lists_nokey fun x hx => ?_
      rcases List.mem_append.1 hx with h | h
      · have := List.mem_of_mem_take h
        rw [← hR, intF, List.mem_map] at this
        obtain ⟨r, _, rfl⟩ := this
        exact ⟨_, rfl⟩
      · rw [List.mem_replicate] at h; exact ⟨_, h.2⟩
    refine Means.go progOK hJX [.tk true] 400 fun L Z hL hZ => ?_
    conv => cbv
    subst hL hZ
    dsimp only [std, deep]
    rw [show ki.toNat = k by omega, show ni.toNat = n by omega, show E.set k ((E.getD k D.nil).put [] (D.key 15)) = E.set k (.key 15) from rfl]
    rw [show ((List.replicate n (D.int 0)).getD k D.nil).put [] (D.int 1) = D.int 1 from rfl, sr]
    refine ⟨by simp; omega, trivial, by omega, by omega, by omega, by omega, by omega, trivial, by omega, by rw [List.length_set]; omega, by rw [getD_set_self _ _ _ (by omega)]; rfl, by omega, by rw [List.length_replicate]; omega, trivial, ?_⟩
    refine Means.fold hJX 6 k 15 rfl rfl rfl rfl (by show k < (E.set k _).length; rw [List.length_set]; omega) (by show (E.set k _).getD k .nil = _; rw [getD_set_self _ _ _ (by omega)]) (fun j' h1 h2 => ?_) ?_
    · show (E.set k _).getD j' .nil ≠ _
      rw [getD_set_other _ _ _ _ h2]; exact nk j' 15
    · refine (ih (k + 1) (by omega) (by omega)).to rfl rfl rfl ⟨rfl, rfl, (by rw [wrap64 _ (by omega) (by omega)]; omega), trivial⟩ ⟨?_, trivial⟩
      show (E.set k (.key 15)).set k (.list q) = _
      rw [List.set_set, ← hE, set_fill' _ _ _ _ _ (by rw [List.length_take]; omega) hlt, take_app (by omega) gRk]; rfl
  · have hkn : k = n := by omega
    refine Means.go progOK hJX [.tk false] 400 fun L Z hL hZ => ?_
    conv => cbv
    subst hL hZ
    dsimp only [std, deep]
    exact ⟨by simp; omega, by rw [← hE, hkn, Nat.sub_self, List.replicate_zero, List.append_nil, List.take_of_length_le (by omega)], trivial⟩

theorem lidentity_ok (n : Nat) (hn : n ≤ 8) : Ok Tryz.prog tab 28 [.int .i64 n] [] (.v (.imm 31 false (intF n idF))) [] := by
  have c1 := identity_ok n hn
  generalize intF n idF = R at *
  generalize (n : Int) = ni at *
  refine Ok.go progOK [] [.call (.v (.imm 31 false R)) [] []] 400 Tryz.func28 rfl rfl rfl fun J hJX L Z hL hZ => ?_
  conv => cbv
  subst hL hZ
  dsimp only [std, deep]
  repeat' first | exact trivial | exact c1 | refine And.intro ?_ ?_

theorem shown_ok (n m z : Nat) (h1 : 1 ≤ z) (h2 : z < 100000000) (he : Ok Tryz.prog tab 25 [.imm 31 false (intF n idF), .int .i64 m] [] (.tup [.v (.agg 43 (ratD (((z : Nat) : Int) : Rat))), .v (.int .i64 0)]) []) :
    Ok Tryz.prog tab 27 [.imm 31 false (intF n idF), .int .i64 m] [] (.v (.str (decS z))) [] := by
  have c2 := qformat_ok z h1 h2
  obtain ⟨b, l, c, k, e⟩ := ratD_ex (((z : Nat) : Int) : Rat)
  obtain ⟨S, hS⟩ : ∃ S, decS z = S := ⟨_, rfl⟩
  simp only [e, hS] at he c2 ⊢
  generalize intF n idF = R at *
  generalize (m : Int) = mi at *
  refine Ok.go progOK [] [.call (.tup [.v (.agg 43 (.agg [.agg [.bool b, .list l], .agg [.bool c, .list k]])), .v (.int .i64 0)]) [] [], .tk false, .call (.v (.str S)) [] []] 400 Tryz.func27 rfl rfl rfl fun J hJX L Z hL hZ => ?_
  conv => cbv
  subst hL hZ
  dsimp only [std, deep]
  repeat' first | exact trivial | exact he | exact c2 | rfl | refine And.intro ?_ ?_


end Go.VI

namespace Go.VI

def sqs (n m t : Nat) : Int := sumI n fun i => dgt m t i * dgt m t i
theorem qf_id {n : Nat} {F : Nat → Nat → Int} (h : ∀ i j, i < n → j < n → F i j = if i = j then 1 else 0) (m t : Nat) : qf n F (dgt m t) = sqs n m t := by
  unfold qf sqs
  refine sumI_congr fun i hi => ?_
  congr 1
  unfold gx
  rw [sumI_congr (g := fun j => dgt m t j * unit i j) (fun j hj => ?_), sumI_unit hi]
  rw [h i j hi hj, unit]
  by_cases e : i = j
  · rw [if_pos e, if_pos e.symm, Int.one_mul, Int.mul_one]
  · rw [if_neg e, if_neg (fun e' => e e'.symm), Int.zero_mul, Int.mul_zero]

/-- How many of the first T vectors have r as the sum of their squares. -/
def sc (n m : Nat) : Nat → Int → Nat
  | 0, _ => 0
  | t + 1, r => sc n m t r + (if sqs n m t % (m : Int) = r then 1 else 0)
theorem cnt_sc {n : Nat} {F : Nat → Nat → Int} (h : ∀ i j, i < n → j < n → F i j = if i = j then 1 else 0) (m T r : Nat) : cnt n F m T r = sc n m T r := by
  induction T with
  | zero => rfl
  | succ T ih => rw [cnt, sc, ih, qf_id h]

theorem dgt_low {m n b t i : Nat} (hm : 0 < m) (hi : i < n) : dgt m (b * m ^ n + t) i = dgt m t i := by
  unfold dgt
  obtain ⟨k, rfl⟩ : ∃ k, n = i + (k + 1) := ⟨n - i - 1, by omega⟩
  have e : b * m ^ (i + (k + 1)) + t = m ^ i * (m * (b * m ^ k)) + t := by
    rw [Nat.pow_add, Nat.pow_succ]
    congr 1
    rw [Nat.mul_comm b, Nat.mul_assoc, Nat.mul_comm (m ^ k) m, Nat.mul_assoc, Nat.mul_comm (m ^ k) b]
  rw [e, Nat.mul_add_div (Nat.pow_pos hm), Nat.mul_add_mod]
theorem dgt_top {m n b t : Nat} (hb : b < m) (ht : t < m ^ n) : dgt m (b * m ^ n + t) n = (b : Int) := by
  unfold dgt
  rw [Nat.mul_comm b, Nat.mul_add_div (by omega), Nat.div_eq_of_lt ht, Nat.add_zero, Nat.mod_eq_of_lt hb]
theorem sqs_split {m n b t : Nat} (hb : b < m) (ht : t < m ^ n) : sqs (n + 1) m (b * m ^ n + t) = sqs n m t + (b : Int) * b := by
  unfold sqs
  rw [sumI, dgt_top hb ht, sumI_congr (fun i hi => by rw [dgt_low (by omega) hi])]
theorem shift_iff {s b r : Int} {m : Nat} (hr0 : 0 ≤ r) (hr : r < m) : (s + b) % (m : Int) = r ↔ s % (m : Int) = (r - b) % (m : Int) := by
  constructor
  · intro h
    have : (s + b - b) % (m : Int) = (r - b) % (m : Int) := by rw [Int.sub_emod, h, Int.sub_emod r b, Int.emod_eq_of_lt hr0 hr]
    rwa [Int.add_sub_cancel] at this
  · intro h
    rw [Int.add_emod, h, ← Int.add_emod, Int.sub_add_cancel, Int.emod_eq_of_lt hr0 hr]
theorem sc_block {m n b : Nat} (hb : b < m) {r : Int} (hr0 : 0 ≤ r) (hr : r < m) : ∀ T, T ≤ m ^ n → sc (n + 1) m (b * m ^ n + T) r = sc (n + 1) m (b * m ^ n) r + sc n m T ((r - (b : Int) * b) % (m : Int))
  | 0, _ => rfl
  | T + 1, hT => by
    rw [show b * m ^ n + (T + 1) = (b * m ^ n + T) + 1 from rfl, sc, sc, sc_block hb hr0 hr T (by omega), sqs_split hb (by omega)]
    simp only [shift_iff hr0 hr]
    omega
theorem sc_sum {m n : Nat} {r : Int} (hr0 : 0 ≤ r) (hr : r < m) : ∀ B, B ≤ m → sc (n + 1) m (B * m ^ n) r = ((List.range B).map fun b : Nat => sc n m (m ^ n) ((r - (b : Int) * b) % (m : Int))).sum
  | 0, _ => by rw [Nat.zero_mul]; rfl
  | B + 1, hB => by
    rw [Nat.succ_mul, sc_block (by omega) hr0 hr _ (Nat.le_refl _), sc_sum hr0 hr B (by omega), List.range_succ, List.map_append, List.sum_append]
    simp
def stepL (m : Nat) (L : List Nat) : List Nat := (List.range m).map fun r => ((List.range m).map fun b => L.getD ((r + m * m - b * b) % m) 0).sum
theorem stepL_get {m : Nat} {L : List Nat} {r : Nat} (h : r < m) : (stepL m L).getD r 0 = ((List.range m).map fun b => L.getD ((r + m * m - b * b) % m) 0).sum := by
  simp [stepL, List.getD_eq_getElem?_getD, h]
theorem sc_step {m n : Nat} {L : List Nat} (hm : 0 < m) (h : ∀ r : Nat, r < m → sc n m (m ^ n) (r : Int) = L.getD r 0) {r : Nat} (hr : r < m) : sc (n + 1) m (m ^ (n + 1)) (r : Int) = (stepL m L).getD r 0 := by
  rw [stepL_get hr, Nat.pow_succ, Nat.mul_comm (m ^ n), sc_sum (by omega) (by omega) m (Nat.le_refl _)]
  congr 1
  refine List.map_congr_left fun b hb => ?_
  have hb := List.mem_range.1 hb
  have hbb : b * b ≤ m * m := Nat.mul_le_mul (by omega) (by omega)
  have hmod := Nat.mod_lt (r + m * m - b * b) hm
  rw [← h _ hmod]
  congr 1
  rw [Int.natCast_emod, Int.natCast_sub (by omega), Int.natCast_add, Int.natCast_mul, Int.natCast_mul, show (r : Int) + (m : Int) * m - (b : Int) * b = (r : Int) - (b : Int) * b + (m : Int) * m by omega, Int.add_mul_emod_self_left]
theorem sc_zero {m : Nat} (r : Nat) (hr : r < m) : sc 0 m (m ^ 0) (r : Int) = (1 :: List.replicate (m - 1) 0).getD r 0 := by
  rw [Nat.pow_zero, sc, sc]
  have e : sqs 0 m 0 % (m : Int) = 0 := Int.zero_emod _
  rw [e]
  cases r with
  | zero => rfl
  | succ r =>
    rw [if_neg (by omega), List.getD_cons_succ]
    simp only [List.getD_eq_getElem?_getD, List.getElem?_replicate]
    split <;> rfl
end Go.VI

namespace Go.VI
open Go.Proofs
set_option maxRecDepth 20000

def idM (n : Nat) : List (List Int) := (List.range n).map fun i => (List.range n).map fun j => idF i j
theorem idM_ent {n i j : Nat} (hi : i < n) (hj : j < n) : ent (idM n) i j = idF i j := by simp [ent, idM, List.getD_eq_getElem?_getD, hi, hj]
theorem idM_sq {n : Nat} (h : 1 ≤ n) : SqI (idM n) n := by
  refine ⟨by simp [idM], fun r hr => ?_, h, fun r hr z hz => ?_⟩
  · simp only [idM, List.mem_map] at hr
    obtain ⟨i, _, rfl⟩ := hr
    simp
  · simp only [idM, List.mem_map] at hr
    obtain ⟨i, _, rfl⟩ := hr
    simp only [List.mem_map] at hz
    obtain ⟨j, _, rfl⟩ := hz
    unfold idF I64; split <;> omega
theorem idM_intF (n : Nat) : intF n (ent (idM n)) = intF n idF := by
  unfold intF
  refine List.map_congr_left fun i hi => ?_
  unfold rowI
  rw [List.map_congr_left fun j hj => by rw [idM_ent (List.mem_range.1 hi) (List.mem_range.1 hj)]]
theorem idM_id (n : Nat) : ∀ i j, i < n → j < n → ent (idM n) i j = if i = j then 1 else 0 := fun i j hi hj => idM_ent hi hj

theorem sc8_1 : ∀ r : Nat, r < 8 → sc 1 8 (8 ^ 1) (r : Int) = [2, 4, 0, 0, 2, 0, 0, 0].getD r 0 := fun r hr => by
  rw [sc_step (by decide) (fun r hr => sc_zero r hr) hr, show stepL 8 (1 :: List.replicate (8 - 1) 0) = [2, 4, 0, 0, 2, 0, 0, 0] from by decide +kernel]

theorem sc8_2 : ∀ r : Nat, r < 8 → sc 2 8 (8 ^ 2) (r : Int) = [8, 16, 16, 0, 8, 16, 0, 0].getD r 0 := fun r hr => by
  rw [sc_step (by decide) (sc8_1) hr, show stepL 8 [2, 4, 0, 0, 2, 0, 0, 0] = [8, 16, 16, 0, 8, 16, 0, 0] from by decide +kernel]

theorem sc8_3 : ∀ r : Nat, r < 8 → sc 3 8 (8 ^ 3) (r : Int) = [32, 96, 96, 64, 32, 96, 96, 0].getD r 0 := fun r hr => by
  rw [sc_step (by decide) (sc8_2) hr, show stepL 8 [8, 16, 16, 0, 8, 16, 0, 0] = [32, 96, 96, 64, 32, 96, 96, 0] from by decide +kernel]

theorem sc8_4 : ∀ r : Nat, r < 8 → sc 4 8 (8 ^ 4) (r : Int) = [128, 512, 768, 512, 384, 512, 768, 512].getD r 0 := fun r hr => by
  rw [sc_step (by decide) (sc8_3) hr, show stepL 8 [32, 96, 96, 64, 32, 96, 96, 0] = [128, 512, 768, 512, 384, 512, 768, 512] from by decide +kernel]

theorem sc8_5 : ∀ r : Nat, r < 8 → sc 5 8 (8 ^ 5) (r : Int) = [3072, 2560, 5120, 5120, 3072, 3584, 5120, 5120].getD r 0 := fun r hr => by
  rw [sc_step (by decide) (sc8_4) hr, show stepL 8 [128, 512, 768, 512, 384, 512, 768, 512] = [3072, 2560, 5120, 5120, 3072, 3584, 5120, 5120] from by decide +kernel]

theorem sc27_1 : ∀ r : Nat, r < 27 → sc 1 27 (27 ^ 1) (r : Int) = [3, 2, 0, 0, 2, 0, 0, 2, 0, 6, 2, 0, 0, 2, 0, 0, 2, 0, 0, 2, 0, 0, 2, 0, 0, 2, 0].getD r 0 := fun r hr => by
  rw [sc_step (by decide) (fun r hr => sc_zero r hr) hr, show stepL 27 (1 :: List.replicate (27 - 1) 0) = [3, 2, 0, 0, 2, 0, 0, 2, 0, 6, 2, 0, 0, 2, 0, 0, 2, 0, 0, 2, 0, 0, 2, 0, 0, 2, 0] from by decide +kernel]

theorem sc27_2 : ∀ r : Nat, r < 27 → sc 2 27 (27 ^ 2) (r : Int) = [9, 36, 36, 0, 36, 36, 0, 36, 36, 36, 36, 36, 0, 36, 36, 0, 36, 36, 36, 36, 36, 0, 36, 36, 0, 36, 36].getD r 0 := fun r hr => by
  rw [sc_step (by decide) (sc27_1) hr, show stepL 27 [3, 2, 0, 0, 2, 0, 0, 2, 0, 6, 2, 0, 0, 2, 0, 0, 2, 0, 0, 2, 0, 0, 2, 0, 0, 2, 0] = [9, 36, 36, 0, 36, 36, 0, 36, 36, 36, 36, 36, 0, 36, 36, 0, 36, 36, 36, 36, 36, 0, 36, 36, 0, 36, 36] from by decide +kernel]

theorem sc27_3 : ∀ r : Nat, r < 27 → sc 3 27 (27 ^ 3) (r : Int) = [891, 486, 972, 648, 486, 972, 648, 486, 972, 810, 486, 972, 648, 486, 972, 648, 486, 972, 972, 486, 972, 648, 486, 972, 648, 486, 972].getD r 0 := fun r hr => by
  rw [sc_step (by decide) (sc27_2) hr, show stepL 27 [9, 36, 36, 0, 36, 36, 0, 36, 36, 36, 36, 36, 0, 36, 36, 0, 36, 36, 36, 36, 36, 0, 36, 36, 0, 36, 36] = [891, 486, 972, 648, 486, 972, 648, 486, 972, 810, 486, 972, 648, 486, 972, 648, 486, 972, 972, 486, 972, 648, 486, 972, 648, 486, 972] from by decide +kernel]

theorem sc32_1 : ∀ r : Nat, r < 32 → sc 1 32 (32 ^ 1) (r : Int) = [4, 4, 0, 0, 8, 0, 0, 0, 0, 4, 0, 0, 0, 0, 0, 0, 4, 4, 0, 0, 0, 0, 0, 0, 0, 4, 0, 0, 0, 0, 0, 0].getD r 0 := fun r hr => by
  rw [sc_step (by decide) (fun r hr => sc_zero r hr) hr, show stepL 32 (1 :: List.replicate (32 - 1) 0) = [4, 4, 0, 0, 8, 0, 0, 0, 0, 4, 0, 0, 0, 0, 0, 0, 4, 4, 0, 0, 0, 0, 0, 0, 0, 4, 0, 0, 0, 0, 0, 0] from by decide +kernel]

theorem sc32_2 : ∀ r : Nat, r < 32 → sc 2 32 (32 ^ 2) (r : Int) = [32, 64, 64, 0, 64, 64, 0, 0, 64, 64, 64, 0, 0, 64, 0, 0, 32, 64, 64, 0, 64, 64, 0, 0, 0, 64, 64, 0, 0, 64, 0, 0].getD r 0 := fun r hr => by
  rw [sc_step (by decide) (sc32_1) hr, show stepL 32 [4, 4, 0, 0, 8, 0, 0, 0, 0, 4, 0, 0, 0, 0, 0, 0, 4, 4, 0, 0, 0, 0, 0, 0, 0, 4, 0, 0, 0, 0, 0, 0] = [32, 64, 64, 0, 64, 64, 0, 0, 64, 64, 64, 0, 0, 64, 0, 0, 32, 64, 64, 0, 64, 64, 0, 0, 0, 64, 64, 0, 0, 64, 0, 0] from by decide +kernel]

theorem sc32_3 : ∀ r : Nat, r < 32 → sc 3 32 (32 ^ 3) (r : Int) = [256, 1536, 1536, 1024, 768, 1536, 1536, 0, 768, 1536, 1536, 1024, 512, 1536, 1536, 0, 256, 1536, 1536, 1024, 768, 1536, 1536, 0, 768, 1536, 1536, 1024, 0, 1536, 1536, 0].getD r 0 := fun r hr => by
  rw [sc_step (by decide) (sc32_2) hr, show stepL 32 [32, 64, 64, 0, 64, 64, 0, 0, 64, 64, 64, 0, 0, 64, 0, 0, 32, 64, 64, 0, 64, 64, 0, 0, 0, 64, 64, 0, 0, 64, 0, 0] = [256, 1536, 1536, 1024, 768, 1536, 1536, 0, 768, 1536, 1536, 1024, 512, 1536, 1536, 0, 256, 1536, 1536, 1024, 768, 1536, 1536, 0, 768, 1536, 1536, 1024, 0, 1536, 1536, 0] from by decide +kernel]

theorem red_3 : redI 3 (ent (idM 3)) = true := by decide +kernel

theorem red_4 : redI 4 (ent (idM 4)) = true := by decide +kernel

theorem red_5 : redI 5 (ent (idM 5)) = true := by decide +kernel

theorem dens_3_1_2 : densR 3 (ent (idM 3)) 2 1 = mkRat 3 2 := by
  unfold densR
  rw [show expN 2 (2 * 1) = 1 from by decide +kernel, show (2 : Nat) ^ (2 * 1 + 1) = 8 from rfl, cnt_sc (idM_id 3), sc8_3 _ (by decide)]
  decide +kernel

theorem mean_3_1 : expR 3 (ent (idM 3)) 1 = (((6 : Nat) : Int) : Rat) := by
  have e : expR 3 (ent (idM 3)) 1 = exp0 3 (ent (idM 3)) 1 * locF 3 (ent (idM 3)) 1 2 := by
    unfold expR
    rw [show facL (2 * detN 3 (ent (idM 3)) * 1) = [(2, 1)] from by decide +kernel]
    rfl
  rw [e]
  unfold locF
  rw [if_neg (by decide), dens_3_1_2]
  decide +kernel

theorem shown_3_1 : Ok Tryz.prog tab 27 [.imm 31 false (intF 3 idF), .int .i64 1] [] (.v (.str (decS 6))) [] := by
  have h := expected_odd_ok (h := idM 3) (n := 3) (idM_sq (by decide)) (by decide) (by decide) (by decide) red_3 1 (by decide) (by decide) (by decide +kernel) (by decide +kernel) (by decide +kernel) (by decide +kernel) (by decide +kernel) (by decide +kernel)
  rw [mean_3_1, idM_intF] at h
  exact shown_ok 3 1 6 (by decide) (by decide) h

theorem dens_3_2_2 : densR 3 (ent (idM 3)) 2 2 = mkRat 3 2 := by
  unfold densR
  rw [show expN 2 (2 * 2) = 2 from by decide +kernel, show (2 : Nat) ^ (2 * 2 + 1) = 32 from rfl, cnt_sc (idM_id 3), sc32_3 _ (by decide)]
  decide +kernel

theorem mean_3_2 : expR 3 (ent (idM 3)) 2 = (((12 : Nat) : Int) : Rat) := by
  have e : expR 3 (ent (idM 3)) 2 = exp0 3 (ent (idM 3)) 2 * locF 3 (ent (idM 3)) 2 2 := by
    unfold expR
    rw [show facL (2 * detN 3 (ent (idM 3)) * 2) = [(2, 2)] from by decide +kernel]
    rfl
  rw [e]
  unfold locF
  rw [if_neg (by decide), dens_3_2_2]
  decide +kernel

theorem shown_3_2 : Ok Tryz.prog tab 27 [.imm 31 false (intF 3 idF), .int .i64 2] [] (.v (.str (decS 12))) [] := by
  have h := expected_odd_ok (h := idM 3) (n := 3) (idM_sq (by decide)) (by decide) (by decide) (by decide) red_3 2 (by decide) (by decide) (by decide +kernel) (by decide +kernel) (by decide +kernel) (by decide +kernel) (by decide +kernel) (by decide +kernel)
  rw [mean_3_2, idM_intF] at h
  exact shown_ok 3 2 12 (by decide) (by decide) h

theorem dens_3_3_2 : densR 3 (ent (idM 3)) 2 3 = mkRat 1 1 := by
  unfold densR
  rw [show expN 2 (2 * 3) = 1 from by decide +kernel, show (2 : Nat) ^ (2 * 1 + 1) = 8 from rfl, cnt_sc (idM_id 3), sc8_3 _ (by decide)]
  decide +kernel

theorem dens_3_3_3 : densR 3 (ent (idM 3)) 3 3 = mkRat 8 9 := by
  unfold densR
  rw [show expN 3 (2 * 3) = 1 from by decide +kernel, show (3 : Nat) ^ (2 * 1 + 1) = 27 from rfl, cnt_sc (idM_id 3), sc27_3 _ (by decide)]
  decide +kernel

theorem mean_3_3 : expR 3 (ent (idM 3)) 3 = (((8 : Nat) : Int) : Rat) := by
  have e : expR 3 (ent (idM 3)) 3 = exp0 3 (ent (idM 3)) 3 * locF 3 (ent (idM 3)) 3 2 * locF 3 (ent (idM 3)) 3 3 := by
    unfold expR
    rw [show facL (2 * detN 3 (ent (idM 3)) * 3) = [(2, 1), (3, 1)] from by decide +kernel]
    rfl
  rw [e]
  unfold locF
  rw [if_neg (by decide), if_neg (by decide), dens_3_3_2, dens_3_3_3]
  decide +kernel

theorem shown_3_3 : Ok Tryz.prog tab 27 [.imm 31 false (intF 3 idF), .int .i64 3] [] (.v (.str (decS 8))) [] := by
  have h := expected_odd_ok (h := idM 3) (n := 3) (idM_sq (by decide)) (by decide) (by decide) (by decide) red_3 3 (by decide) (by decide) (by decide +kernel) (by decide +kernel) (by decide +kernel) (by decide +kernel) (by decide +kernel) (by decide +kernel)
  rw [mean_3_3, idM_intF] at h
  exact shown_ok 3 3 8 (by decide) (by decide) h

theorem dens_3_6_2 : densR 3 (ent (idM 3)) 2 6 = mkRat 3 2 := by
  unfold densR
  rw [show expN 2 (2 * 6) = 2 from by decide +kernel, show (2 : Nat) ^ (2 * 2 + 1) = 32 from rfl, cnt_sc (idM_id 3), sc32_3 _ (by decide)]
  decide +kernel

theorem dens_3_6_3 : densR 3 (ent (idM 3)) 3 6 = mkRat 8 9 := by
  unfold densR
  rw [show expN 3 (2 * 6) = 1 from by decide +kernel, show (3 : Nat) ^ (2 * 1 + 1) = 27 from rfl, cnt_sc (idM_id 3), sc27_3 _ (by decide)]
  decide +kernel

theorem mean_3_6 : expR 3 (ent (idM 3)) 6 = (((24 : Nat) : Int) : Rat) := by
  have e : expR 3 (ent (idM 3)) 6 = exp0 3 (ent (idM 3)) 6 * locF 3 (ent (idM 3)) 6 2 * locF 3 (ent (idM 3)) 6 3 := by
    unfold expR
    rw [show facL (2 * detN 3 (ent (idM 3)) * 6) = [(2, 2), (3, 1)] from by decide +kernel]
    rfl
  rw [e]
  unfold locF
  rw [if_neg (by decide), if_neg (by decide), dens_3_6_2, dens_3_6_3]
  decide +kernel

theorem shown_3_6 : Ok Tryz.prog tab 27 [.imm 31 false (intF 3 idF), .int .i64 6] [] (.v (.str (decS 24))) [] := by
  have h := expected_odd_ok (h := idM 3) (n := 3) (idM_sq (by decide)) (by decide) (by decide) (by decide) red_3 6 (by decide) (by decide) (by decide +kernel) (by decide +kernel) (by decide +kernel) (by decide +kernel) (by decide +kernel) (by decide +kernel)
  rw [mean_3_6, idM_intF] at h
  exact shown_ok 3 6 24 (by decide) (by decide) h

theorem dens_4_1_2 : densR 4 (ent (idM 4)) 2 1 = mkRat 1 1 := by
  unfold densR
  rw [show expN 2 (2 * 1) = 1 from by decide +kernel, show (2 : Nat) ^ (2 * 1 + 1) = 8 from rfl, cnt_sc (idM_id 4), sc8_4 _ (by decide)]
  decide +kernel

theorem mean_4_1 : expR 4 (ent (idM 4)) 1 = (((8 : Nat) : Int) : Rat) := by
  have e : expR 4 (ent (idM 4)) 1 = exp0 4 (ent (idM 4)) 1 * locF 4 (ent (idM 4)) 1 2 := by
    unfold expR
    rw [show facL (2 * detN 4 (ent (idM 4)) * 1) = [(2, 1)] from by decide +kernel]
    rfl
  rw [e]
  unfold locF
  rw [if_pos (by decide), dens_4_1_2]
  decide +kernel

theorem shown_4_1 : Ok Tryz.prog tab 27 [.imm 31 false (intF 4 idF), .int .i64 1] [] (.v (.str (decS 8))) [] := by
  have h := expected_even_ok (h := idM 4) (n := 4) (idM_sq (by decide)) (by decide) (by decide) (by decide) red_4 1 (by decide) (by decide) (by decide +kernel) (by decide +kernel) (by decide +kernel) (by decide +kernel) (by decide +kernel) (by decide +kernel) (by decide +kernel)
  rw [mean_4_1, idM_intF] at h
  exact shown_ok 4 1 8 (by decide) (by decide) h

theorem dens_5_1_2 : densR 5 (ent (idM 5)) 2 1 = mkRat 5 8 := by
  unfold densR
  rw [show expN 2 (2 * 1) = 1 from by decide +kernel, show (2 : Nat) ^ (2 * 1 + 1) = 8 from rfl, cnt_sc (idM_id 5), sc8_5 _ (by decide)]
  decide +kernel

theorem mean_5_1 : expR 5 (ent (idM 5)) 1 = (((10 : Nat) : Int) : Rat) := by
  have e : expR 5 (ent (idM 5)) 1 = exp0 5 (ent (idM 5)) 1 * locF 5 (ent (idM 5)) 1 2 := by
    unfold expR
    rw [show facL (2 * detN 5 (ent (idM 5)) * 1) = [(2, 1)] from by decide +kernel]
    rfl
  rw [e]
  unfold locF
  rw [if_neg (by decide), dens_5_1_2]
  decide +kernel

theorem shown_5_1 : Ok Tryz.prog tab 27 [.imm 31 false (intF 5 idF), .int .i64 1] [] (.v (.str (decS 10))) [] := by
  have h := expected_odd_ok (h := idM 5) (n := 5) (idM_sq (by decide)) (by decide) (by decide) (by decide) red_5 1 (by decide) (by decide) (by decide +kernel) (by decide +kernel) (by decide +kernel) (by decide +kernel) (by decide +kernel) (by decide +kernel)
  rw [mean_5_1, idM_intF] at h
  exact shown_ok 5 1 10 (by decide) (by decide) h

end Go.VI

namespace Go.VI
open Go.Proofs
set_option maxRecDepth 20000

theorem awake_ok : Ok Tryz.prog tab 12 [] [] (.v (.bool true)) [] := by
  have i3 := lidentity_ok 3 (by decide)
  have i4 := lidentity_ok 4 (by decide)
  have s3_1 := shown_3_1
  have s4_1 := shown_4_1
  generalize intF 3 idF = A3 at *
  generalize intF 4 idF = A4 at *
  obtain ⟨S6, h6⟩ : ∃ S, decS 6 = S := ⟨_, rfl⟩
  have q6 : (S6.toList == (ByteArray.mk ⟨[54]⟩).toList) = true := by rw [← h6, show decS 6 = ByteArray.mk ⟨[54]⟩ from rfl]; exact beq_self_eq_true _
  obtain ⟨S8, h8⟩ : ∃ S, decS 8 = S := ⟨_, rfl⟩
  have q8 : (S8.toList == (ByteArray.mk ⟨[56]⟩).toList) = true := by rw [← h8, show decS 8 = ByteArray.mk ⟨[56]⟩ from rfl]; exact beq_self_eq_true _
  rw [h6] at s3_1
  rw [h8] at s4_1
  refine Ok.go progOK [] [.call (.v (.imm 31 false A3)) [] [], .call (.v (.str S6)) [] [], .call (.v (.imm 31 false A4)) [] [], .call (.v (.str S8)) [] []] 400 Tryz.func12 rfl rfl rfl fun J hJX L Z hL hZ => ?_
  conv => cbv
  subst hL hZ
  dsimp only [std, deep]
  repeat' first | exact trivial | exact i3 | exact i4 | exact s3_1 | exact s4_1 | exact q6 | exact q8 | exact fun hh => absurd (hh.symm.trans q6) (by decide) | exact fun hh => absurd (hh.symm.trans q8) (by decide) | refine fun (hh : (_ : Prop)) => ?_ | refine And.intro ?_ ?_

theorem squares_ok : Ok Tryz.prog tab 7 [] [] (.v (.bool true)) [] := by
  have i3 := lidentity_ok 3 (by decide)
  have i4 := lidentity_ok 4 (by decide)
  have i5 := lidentity_ok 5 (by decide)
  have s3_1 := shown_3_1
  have s3_2 := shown_3_2
  have s3_3 := shown_3_3
  have s3_6 := shown_3_6
  have s4_1 := shown_4_1
  have s5_1 := shown_5_1
  have aw := awake_ok
  generalize intF 3 idF = A3 at *
  generalize intF 4 idF = A4 at *
  generalize intF 5 idF = A5 at *
  obtain ⟨S6, h6⟩ : ∃ S, decS 6 = S := ⟨_, rfl⟩
  have q6 : (S6.toList == (ByteArray.mk ⟨[54]⟩).toList) = true := by rw [← h6, show decS 6 = ByteArray.mk ⟨[54]⟩ from rfl]; exact beq_self_eq_true _
  obtain ⟨S8, h8⟩ : ∃ S, decS 8 = S := ⟨_, rfl⟩
  have q8 : (S8.toList == (ByteArray.mk ⟨[56]⟩).toList) = true := by rw [← h8, show decS 8 = ByteArray.mk ⟨[56]⟩ from rfl]; exact beq_self_eq_true _
  obtain ⟨S10, h10⟩ : ∃ S, decS 10 = S := ⟨_, rfl⟩
  have q10 : (S10.toList == (ByteArray.mk ⟨[49, 48]⟩).toList) = true := by rw [← h10, show decS 10 = ByteArray.mk ⟨[49, 48]⟩ from rfl]; exact beq_self_eq_true _
  obtain ⟨S12, h12⟩ : ∃ S, decS 12 = S := ⟨_, rfl⟩
  have q12 : (S12.toList == (ByteArray.mk ⟨[49, 50]⟩).toList) = true := by rw [← h12, show decS 12 = ByteArray.mk ⟨[49, 50]⟩ from rfl]; exact beq_self_eq_true _
  obtain ⟨S24, h24⟩ : ∃ S, decS 24 = S := ⟨_, rfl⟩
  have q24 : (S24.toList == (ByteArray.mk ⟨[50, 52]⟩).toList) = true := by rw [← h24, show decS 24 = ByteArray.mk ⟨[50, 52]⟩ from rfl]; exact beq_self_eq_true _
  rw [h6] at s3_1
  rw [h12] at s3_2
  rw [h8] at s3_3
  rw [h24] at s3_6
  rw [h8] at s4_1
  rw [h10] at s5_1
  refine Ok.go progOK [] [.call (.v (.imm 31 false A3)) [] [], .call (.v (.str S6)) [] [], .call (.v (.imm 31 false A3)) [] [], .call (.v (.str S12)) [] []] 400 Tryz.func7 rfl rfl rfl fun J hJX L Z hL hZ => ?_
  conv => cbv
  subst hL hZ
  dsimp only [std, deep]
  repeat' first | exact trivial | exact i3 | exact i4 | exact i5 | exact s3_1 | exact s3_2 | exact s3_3 | exact s3_6 | exact s4_1 | exact s5_1 | exact aw | exact q6 | exact q8 | exact q10 | exact q12 | exact q24 | exact fun hh => absurd (hh.symm.trans q6) (by decide) | exact fun hh => absurd (hh.symm.trans q8) (by decide) | exact fun hh => absurd (hh.symm.trans q10) (by decide) | exact fun hh => absurd (hh.symm.trans q12) (by decide) | exact fun hh => absurd (hh.symm.trans q24) (by decide) | refine fun (hh : (_ : Prop)) => ?_ | refine And.intro ?_ ?_
  simp only [q6, q12]
  refine Means.go progOK hJX [.call (.v (.imm 31 false A3)) [] [], .call (.v (.str S8)) [] []] 400 fun L Z hL hZ => ?_
  conv => cbv
  subst hL hZ
  dsimp only [std, deep]
  repeat' first | exact trivial | exact i3 | exact i4 | exact i5 | exact s3_1 | exact s3_2 | exact s3_3 | exact s3_6 | exact s4_1 | exact s5_1 | exact aw | exact q6 | exact q8 | exact q10 | exact q12 | exact q24 | exact fun hh => absurd (hh.symm.trans q6) (by decide) | exact fun hh => absurd (hh.symm.trans q8) (by decide) | exact fun hh => absurd (hh.symm.trans q10) (by decide) | exact fun hh => absurd (hh.symm.trans q12) (by decide) | exact fun hh => absurd (hh.symm.trans q24) (by decide) | refine fun (hh : (_ : Prop)) => ?_ | refine And.intro ?_ ?_
  simp only [q6, q8, q12]
  refine Means.go progOK hJX [.call (.v (.imm 31 false A3)) [] [], .call (.v (.str S24)) [] []] 400 fun L Z hL hZ => ?_
  conv => cbv
  subst hL hZ
  dsimp only [std, deep]
  repeat' first | exact trivial | exact i3 | exact i4 | exact i5 | exact s3_1 | exact s3_2 | exact s3_3 | exact s3_6 | exact s4_1 | exact s5_1 | exact aw | exact q6 | exact q8 | exact q10 | exact q12 | exact q24 | exact fun hh => absurd (hh.symm.trans q6) (by decide) | exact fun hh => absurd (hh.symm.trans q8) (by decide) | exact fun hh => absurd (hh.symm.trans q10) (by decide) | exact fun hh => absurd (hh.symm.trans q12) (by decide) | exact fun hh => absurd (hh.symm.trans q24) (by decide) | refine fun (hh : (_ : Prop)) => ?_ | refine And.intro ?_ ?_
  simp only [q6, q8, q12, q24]
  refine Means.go progOK hJX [.call (.v (.imm 31 false A4)) [] [], .call (.v (.str S8)) [] []] 400 fun L Z hL hZ => ?_
  conv => cbv
  subst hL hZ
  dsimp only [std, deep]
  repeat' first | exact trivial | exact i3 | exact i4 | exact i5 | exact s3_1 | exact s3_2 | exact s3_3 | exact s3_6 | exact s4_1 | exact s5_1 | exact aw | exact q6 | exact q8 | exact q10 | exact q12 | exact q24 | exact fun hh => absurd (hh.symm.trans q6) (by decide) | exact fun hh => absurd (hh.symm.trans q8) (by decide) | exact fun hh => absurd (hh.symm.trans q10) (by decide) | exact fun hh => absurd (hh.symm.trans q12) (by decide) | exact fun hh => absurd (hh.symm.trans q24) (by decide) | refine fun (hh : (_ : Prop)) => ?_ | refine And.intro ?_ ?_
  simp only [q6, q8, q12, q24]
  refine Means.go progOK hJX [.call (.v (.imm 31 false A5)) [] [], .call (.v (.str S10)) [] []] 400 fun L Z hL hZ => ?_
  conv => cbv
  subst hL hZ
  dsimp only [std, deep]
  repeat' first | exact trivial | exact i3 | exact i4 | exact i5 | exact s3_1 | exact s3_2 | exact s3_3 | exact s3_6 | exact s4_1 | exact s5_1 | exact aw | exact q6 | exact q8 | exact q10 | exact q12 | exact q24 | exact fun hh => absurd (hh.symm.trans q6) (by decide) | exact fun hh => absurd (hh.symm.trans q8) (by decide) | exact fun hh => absurd (hh.symm.trans q10) (by decide) | exact fun hh => absurd (hh.symm.trans q12) (by decide) | exact fun hh => absurd (hh.symm.trans q24) (by decide) | refine fun (hh : (_ : Prop)) => ?_ | refine And.intro ?_ ?_
  simp only [q6, q8, q10, q12, q24]
  refine Means.go progOK hJX [.call (.v (.bool true)) [] []] 400 fun L Z hL hZ => ?_
  conv => cbv
  subst hL hZ
  dsimp only [std, deep]
  repeat' first | exact trivial | exact i3 | exact i4 | exact i5 | exact s3_1 | exact s3_2 | exact s3_3 | exact s3_6 | exact s4_1 | exact s5_1 | exact aw | exact q6 | exact q8 | exact q10 | exact q12 | exact q24 | exact fun hh => absurd (hh.symm.trans q6) (by decide) | exact fun hh => absurd (hh.symm.trans q8) (by decide) | exact fun hh => absurd (hh.symm.trans q10) (by decide) | exact fun hh => absurd (hh.symm.trans q12) (by decide) | exact fun hh => absurd (hh.symm.trans q24) (by decide) | refine fun (hh : (_ : Prop)) => ?_ | refine And.intro ?_ ?_

end Go.VI

namespace Go.VI
open Go.ChangeShapes Go.WideShapes

/-- What was there before the call is as it was. -/
def Stays (W W' : World) : Prop := (∀ may : MemPlace → Prop, W.keptBut W' may) ∧ ∀ a : Addr, a.block < W.heap.size → W'.frozen? a = W.frozen? a

theorem Ev.stays {w w' : World} {g g' : Tags} (h : Ev w g w' g') (hg : ∀ b o r q k, g b o ≠ .own r q k) : Stays w w' := by
  have hb : ∀ b, b < w.heap.size → w'.heap[b]? = w.heap[b]? := fun b hb => h.blk b hb fun o r q k => hg b o r q k
  refine ⟨fun may => ⟨h.os, h.output, fun i hi => ?_⟩, fun a ha => ?_⟩
  · rw [hb i hi]
    cases w.heap[i]? with
    | none => rfl
    | some x =>
      cases x with
      | cells c t fr => exact ⟨rfl, rfl, rfl, fun _ _ => rfl⟩
      | map es clock => exact .inr ⟨rfl, rfl⟩
      | _ => rfl
  · unfold World.frozen?
    rw [hb a.block ha]

theorem Ok.truth {P : Program} {T : Tab} {f : FuncId} {b : Bool} (h : Ok P T f [] [] (.v (.bool b)) []) (w : World) : Calls P f #[] w fun e w' => e = .returned (.bool b) ∧ Stays w w' := by
  refine Calls.mono (h.2 w (fun _ _ => .imm) (fun _ => .bool false) #[] ⟨rfl, fun i x v hx => by simp at hx, fun x hx => by simp at hx, fun r root hr => by simp [ofList, ups, noRoots] at hr, fun b o r q k e => by cases e⟩) ?_
  rintro e w' ⟨v, g', rv', he, hl⟩
  refine ⟨?_, hl.ev.stays fun b o r q k e => by cases e⟩
  have hv := hl.value
  cases hv with
  | v hs _ => cases hs; exact he

section
variable {H : Type} {enc : TypeId × Value → H} {P : Program}
/-- The kit's 'post_of_same' asks of new blocks too that they are not frozen; the old ones suffice. -/
theorem post_of_stays {f : Func} {s : ChangeSpec} {apart fresh handsOn again : Bool} {W W' : World} {args : Array Value} {v : Value} {ds gs : List (DataW H)} {before pa pv : List MemPlace}
    (hW : DataW.Whole enc P f.params.toList s.vars apart W args.toList ds gs before)
    (hres : ∀ (b : Nat) (sp : Nat → Bool) (hd : Bool), DataW.TrodAll enc P W' b sp hd f.resultTypes.toList (v.resultList f.resultTypes.size) (s.fn H (ds ++ gs)).results [])
    (hargs : ∀ sp : Nat → Bool, (∀ p ∈ before, sp p.block = true) → DataW.TrodAll enc P W' 0 sp true f.params.toList args.toList (s.fn H (ds ++ gs)).args pa)
    (hvars : ∀ sp : Nat → Bool, (∀ p ∈ before, sp p.block = true) → DataW.TrodVars enc P W' sp s.vars (s.fn H (ds ++ gs)).vars pv)
    (hps : before = pa ++ pv) (hs : Stays W W')
    (hok : ∀ (j : Nat) (t : TypeId) (r : Value), f.resultTypes[j]? = some t → (v.resultList f.resultTypes.size)[j]? = some r → Value.okWide P W' .any 0 t r) :
    s.post enc P f apart fresh handsOn again W args v W' := by
  have hlt := fun p hp => hW.lt p hp
  have hold : ∀ p ∈ before, (fun b => decide (b < W.heap.size)) p.block = true := fun p hp => by simpa using hlt p hp
  refine ⟨ds, gs, before, [], pa, pv, hW, hres _ _ _, hargs _ hold, hvars _ hold, hs.1 _, fun _ => ?_⟩
  obtain ⟨_, _, _, _, _, hz, hn⟩ := hW
  refine ⟨hok, _, _, ([] ++ pa) ++ pv, ⟨[] ++ pa, pv, trodAll_append (hargs _ (fun _ _ => rfl)) (hres _ _ _), hvars _ (fun _ _ => rfl), rfl, ?_, ?_⟩, ?_⟩
  · intro b off hp
    have hp' : MemPlace.cell b off ∈ before := by rw [hps]; simpa using hp
    rw [hs.2 _ (hlt _ hp')]
    exact hz b off hp'
  · intro ha
    have := hn ha
    rw [hps] at this
    simpa using this
  · intro p hp _
    rw [hps]
    simpa using hp
end
end Go.VI
