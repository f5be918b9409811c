/- Long division: what a guessed digit may be. The program's limbs: one digit of a quotient. The program's limbs: long division. The program's integers: signs, sums, products. The program's integers: quotients, divisors, comparing. -/
import Derived.Test.YtnnikgdmdmbooaaGreatJ08
set_option linter.unusedVariables false
set_option linter.unusedSimpArgs false
namespace Go.VI

theorem val_split (w : List Nat) (i : Nat) (h : i ≤ w.length) : val w = val (w.take i) + B32 ^ i * val (w.drop i) := by
  conv => lhs; rw [← List.take_append_drop i w]
  rw [val_append, List.length_take, Nat.min_eq_left h]

theorem take_set_succ (w : List Nat) (i s : Nat) (h : i < w.length) : (w.set i s).take (i + 1) = w.take i ++ [s] := by
  rw [List.take_succ_eq_append_getElem (by simpa using h)]
  simp [List.take_set_of_le]

theorem drop_set_succ (w : List Nat) (i s : Nat) : (w.set i s).drop (i + 1) = w.drop (i + 1) := by
  rw [List.drop_set_of_lt (by omega)]

theorem getD_of_drop {a b : List Nat} {i : Nat} (h : a.drop i = b.drop i) : a.getD i 0 = b.getD i 0 := by
  have := congrArg (fun l => l.getD 0 0) h
  simpa [List.getD_eq_getElem?_getD, List.getElem?_drop] using this
theorem drop_succ_of {a b : List Nat} {i : Nat} (h : a.drop i = b.drop i) : a.drop (i + 1) = b.drop (i + 1) := by
  rw [← List.drop_drop, ← List.drop_drop, h]

variable {P L M v1 v2 u2 top Q q rest : Nat}

theorem knuth_core (hM : M < P) (h : Q * (L + P * (v2 + B32 * v1)) ≤ M + P * (u2 + B32 * top)) : Q * (v2 + B32 * v1) ≤ u2 + B32 * top := by
  refine Nat.le_of_lt_succ (Nat.lt_of_mul_lt_mul_left (a := P) ?_)
  calc P * (Q * (v2 + B32 * v1)) = Q * (P * (v2 + B32 * v1)) := Nat.mul_left_comm _ _ _
    _ ≤ Q * (L + P * (v2 + B32 * v1)) := Nat.mul_le_mul_left _ (Nat.le_add_left _ _)
    _ ≤ M + P * (u2 + B32 * top) := h
    _ < P + P * (u2 + B32 * top) := by omega
    _ = P * (u2 + B32 * top).succ := by rw [Nat.mul_succ, Nat.add_comm]

theorem knuth_a (hu : u2 < B32) (h : Q * (v2 + B32 * v1) ≤ u2 + B32 * top) : Q * v1 ≤ top := by
  refine Nat.le_of_lt_succ (Nat.lt_of_mul_lt_mul_left (a := B32) ?_)
  have e : Q * (v2 + B32 * v1) = Q * v2 + B32 * (Q * v1) := by rw [Nat.mul_add, Nat.mul_left_comm]
  rw [Nat.mul_succ]; omega

theorem knuth_b (h : Q * (v2 + B32 * v1) ≤ u2 + B32 * top) (hr : Q * v1 + rest = top) : Q * v2 ≤ B32 * rest + u2 := by
  have e : Q * (v2 + B32 * v1) = Q * v2 + B32 * (Q * v1) := by rw [Nat.mul_add, Nat.mul_left_comm]
  have e2 : B32 * (Q * v1 + rest) = B32 * (Q * v1) + B32 * rest := Nat.mul_add _ _ _
  rw [← hr, e, e2] at h
  omega

theorem knuth_c (hL : L < P) (hq : q < B32) (hv : 1 ≤ v1) (hr : q * v1 + rest = top) (h : q * v2 ≤ B32 * rest + u2) :
    q ≤ (M + P * (u2 + B32 * top)) / (L + P * (v2 + B32 * v1)) + 1 := by
  rcases Nat.eq_zero_or_pos q with h0 | h0
  · rw [h0]; exact Nat.zero_le _
  obtain ⟨t, rfl⟩ : ∃ t, q = t + 1 := ⟨q - 1, by omega⟩
  refine Nat.add_le_add_right ?_ 1
  have hV : 0 < v2 + B32 * v1 := by
    have : 0 < B32 * v1 := Nat.mul_pos (by decide) hv
    omega
  have hP : 0 < P := by omega
  rw [Nat.le_div_iff_mul_le (by have := Nat.mul_pos hP hV; omega)]
  have e : (t + 1) * (v2 + B32 * v1) = (t + 1) * v2 + B32 * ((t + 1) * v1) := by rw [Nat.mul_add, Nat.mul_left_comm]
  have h1 : (t + 1) * (v2 + B32 * v1) ≤ u2 + B32 * top := by
    have e2 : B32 * ((t + 1) * v1 + rest) = B32 * ((t + 1) * v1) + B32 * rest := Nat.mul_add _ _ _
    rw [e, ← hr, e2]; omega
  have h2 : t ≤ v2 + B32 * v1 := by
    have : B32 * 1 ≤ B32 * v1 := Nat.mul_le_mul_left _ hv
    omega
  calc t * (L + P * (v2 + B32 * v1)) ≤ t * (P + P * (v2 + B32 * v1)) := Nat.mul_le_mul_left _ (by omega)
    _ = P * (t + t * (v2 + B32 * v1)) := by
      generalize v2 + B32 * v1 = z
      rw [Nat.mul_add, Nat.mul_add, Nat.mul_comm t P, Nat.mul_left_comm]
    _ ≤ P * ((t + 1) * (v2 + B32 * v1)) := by
      have h3 : ∀ z, t ≤ z → t + t * z ≤ (t + 1) * z := fun z h => by rw [Nat.succ_mul, Nat.add_comm]; exact Nat.add_le_add_left h _
      exact Nat.mul_le_mul_left _ (h3 _ h2)
    _ ≤ P * (u2 + B32 * top) := Nat.mul_le_mul_left _ h1
    _ ≤ M + P * (u2 + B32 * top) := Nat.le_add_left _ _

/-- The lead of a divisor and of what is divided. -/
theorem lead_v (v : List Nat) (m : Nat) (h : v.length = m + 2) : val v = val (v.take m) + B32 ^ m * (v.getD m 0 + B32 * v.getD (m + 1) 0) := by
  rw [val_split v m (by omega), val_drop v m, val_drop v (m + 1), List.drop_of_length_le (l := v) (i := m + 1 + 1) (by omega)]
  simp [val]
theorem lead_u (w : List Nat) (m : Nat) (h : w.length = m + 3) : val w = val (w.take m) + B32 ^ m * (w.getD m 0 + B32 * (w.getD (m + 2) 0 * 4294967296 + w.getD (m + 1) 0)) := by
  rw [val_split w m (by omega), val_drop w m, val_drop w (m + 1), val_drop w (m + 1 + 1), List.drop_of_length_le (l := w) (i := m + 1 + 1 + 1) (by omega)]
  simp only [val, Nat.mul_zero, Nat.add_zero]
  rw [Nat.add_comm (w.getD (m + 1) 0), Nat.mul_comm B32 (w.getD (m + 2) 0)]

/-- What is left where the guess was right, and where it was one too great. -/
theorem left_eq {U V q R : Nat} (hV : 0 < V) (hq : U / V ≤ q) (h : R + q * V = U) : q = U / V ∧ R = U % V := by
  have h1 : q ≤ U / V := (Nat.le_div_iff_mul_le hV).2 (by omega)
  have e : q = U / V := by omega
  refine ⟨e, ?_⟩
  have := Nat.div_add_mod U V
  rw [← e, Nat.mul_comm] at this; omega
theorem left_over {U V q R T : Nat} (hV : 0 < V) (hq : q ≤ U / V + 1) (hR : R < T) (h : R + q * V = U + T) : q = U / V + 1 ∧ R + V = U % V + T := by
  have hlt : U < q * V := by omega
  have h1 : U / V < q := (Nat.div_lt_iff_lt_mul hV).2 hlt
  have e : q = U / V + 1 := by omega
  refine ⟨e, ?_⟩
  have := Nat.div_add_mod U V
  rw [e, Nat.succ_mul, Nat.mul_comm] at h
  omega

end Go.VI

namespace Go.VI
open Go.Proofs
set_option maxRecDepth 20000

theorem get_win (pre w post : List Nat) (i : Nat) (h : i < w.length) : ((lim (pre ++ w ++ post)).getD (pre.length + i) .nil).toInt = ((w.getD i 0 : Nat) : Int) := by
  rw [lim_get]
  simp only [List.getD_eq_getElem?_getD, List.append_assoc]
  rw [List.getElem?_append_right (by omega), Nat.add_sub_cancel_left, List.getElem?_append_left h]

theorem set_win (pre w post : List Nat) (i x : Nat) (h : i < w.length) (d : D) : (lim (pre ++ w ++ post)).set (pre.length + i) (d.put [] (.int (x : Int))) = lim (pre ++ w.set i x ++ post) := by
  rw [show d.put [] (.int (x : Int)) = .int (x : Int) from rfl, lim_set]
  congr 1
  rw [List.append_assoc, List.set_append_right _ _ (by omega), Nat.add_sub_cancel_left, List.set_append_left _ _ h, List.append_assoc]

set_option maxHeartbeats 4000000 in
theorem digit_ok (pre w post v : List Nat) (ww : Word w) (wv : Word v) (hn : 2 ≤ v.length) (hwl : w.length = v.length + 1) (hv1 : v.getD (v.length - 1) 0 ≠ 0) (hlt : val w < val v * B32)
    (hsz : pre.length + w.length + post.length ≤ 549755813888) :
    Ok Tryz.prog tab 234 [.win 5 0 pre.length (v.length + 1) false, .imm 169 false (lim v)] [(5, made 169 (lim (pre ++ w ++ post)))]
      (.v (.int .u32 (val w / val v : Nat))) [(5, made 169 (lim (pre ++ dig w.length (val w % val v) ++ post)))] := by
  obtain ⟨E, hE⟩ : ∃ E, E = lim (pre ++ w ++ post) := ⟨_, rfl⟩
  obtain ⟨E', hE'⟩ : ∃ E, E = lim (pre ++ dig w.length (val w % val v) ++ post) := ⟨_, rfl⟩
  obtain ⟨len, hlen⟩ : ∃ l, l = v.length + 1 := ⟨_, rfl⟩
  obtain ⟨off, hoff⟩ : ∃ l, l = pre.length := ⟨_, rfl⟩
  obtain ⟨Q, hQ⟩ : ∃ l : Int, l = (val w / val v : Nat) := ⟨_, rfl⟩
  rw [← hE, ← hE', ← hlen, ← hoff, ← hQ]
  have gv := lim_get v
  have llv := lim_length v
  generalize lim v = V at *
  refine Ok.goI progOK [] [] 400 Tryz.func234 rfl rfl rfl rfl fun J hX L Z hL hZ => ?_
  conv => cbv
  subst hL hZ
  dsimp only [std, deep]
  obtain ⟨m, hm⟩ : ∃ m, v.length = m + 2 := ⟨v.length - 2, by omega⟩
  rw [hm] at hwl hv1 llv hlen
  replace hv1 : v.getD (m + 1) 0 ≠ 0 := hv1
  have bv1 : v.getD (m + 1) 0 < 4294967296 := word_get wv _
  have bv2 : v.getD m 0 < 4294967296 := word_get wv _
  have bw0 : w.getD (m + 2) 0 < 4294967296 := word_get ww _
  have bw1 : w.getD (m + 1) 0 < 4294967296 := word_get ww _
  have bw2 : w.getD m 0 < 4294967296 := word_get ww _
  have hlu := lead_u w m hwl
  have hlv := lead_v v m hm
  have hM := val_take_lt ww m
  have hL := val_take_lt wv m
  have hV0 : 0 < val v := by
    have : 0 < v.getD (m + 1) 0 := Nat.pos_of_ne_zero hv1
    rw [hlv]
    have := Nat.mul_pos (Nat.pow_pos (n := m) (show 0 < B32 by decide)) (Nat.mul_pos (show 0 < B32 by decide) this)
    rw [Nat.mul_add]; omega
  have hQB : val w / val v < B32 := (Nat.div_lt_iff_lt_mul hV0).2 (by rw [Nat.mul_comm]; exact hlt)
  have hQV : val w / val v * val v ≤ val w := Nat.div_mul_le_self _ _
  have gv1 : IntKind.u64.wrap (V.getD (m + 1) D.nil).toInt = ((v.getD (m + 1) 0 : Nat) : Int) := by rw [gv, wrapu64 (by omega) (by omega)]
  have gv2 : IntKind.u64.wrap (V.getD m D.nil).toInt = ((v.getD m 0 : Nat) : Int) := by rw [gv, wrapu64 (by omega) (by omega)]
  have gE : ∀ (u : List Nat), Word u → ∀ i, i < u.length → IntKind.u64.wrap (((lim (pre ++ u ++ post)).getD (off + i) D.nil).at []).toInt = ((u.getD i 0 : Nat) : Int) := by
    intro u wu i hi
    have := word_get wu i
    rw [show ∀ d : D, d.at [] = d from fun _ => rfl, hoff, get_win _ _ _ _ hi, wrapu64 (by omega) (by simp only [B32] at this; omega)]
  have g0 := gE w ww (m + 2) (by omega)
  have g1 := gE w ww (m + 1) (by omega)
  have g2 := gE w ww m (by omega)
  rw [← hE] at g0 g1 g2
  generalize hni : (V.length : Int) = ni at *
  have hni2 : ni = (m : Int) + 2 := by omega
  have wn : IntKind.i64.wrap (ni - 1) = ((m + 1 : Nat) : Int) := by rw [wrap64 _ (by omega) (by omega)]; omega
  have wn2 : IntKind.i64.wrap (ni - 2) = ((m : Nat) : Int) := by rw [wrap64 _ (by omega) (by omega)]; omega
  have hcore : val w / val v * (v.getD m 0 + B32 * v.getD (m + 1) 0) ≤ w.getD m 0 + B32 * (w.getD (m + 2) 0 * 4294967296 + w.getD (m + 1) 0) := by
    refine knuth_core (P := B32 ^ m) (L := val (v.take m)) (M := val (w.take m)) hM ?_
    rw [← hlu, ← hlv]; exact hQV
  have hkc := fun (q rest : Nat) => knuth_c (P := B32 ^ m) (L := val (v.take m)) (M := val (w.take m)) (v1 := v.getD (m + 1) 0) (v2 := v.getD m 0) (u2 := w.getD m 0) (top := w.getD (m + 2) 0 * 4294967296 + w.getD (m + 1) 0) (q := q) (rest := rest) hL
  rw [← hlu, ← hlv] at hkc
  rw [wn, show ni.toNat = m + 2 by omega]
  simp only [Int.toNat_natCast]
  rw [g0, g1, gv1]
  generalize v.getD (m + 1) 0 = v1 at *
  generalize v.getD m 0 = v2 at *
  generalize w.getD (m + 2) 0 = u0 at *
  generalize w.getD (m + 1) 0 = u1 at *
  generalize w.getD m 0 = u2 at *
  have et : bitsV .or .u64 (IntKind.u64.wrap ((u0 : Int) * 2 ^ min (Int.toNat 32) IntKind.u64.bits)) (u1 : Int) = ((u0 * 4294967296 + u1 : Nat) : Int) := by
    rw [shl32 _ (by omega) (by omega), join64 _ _ bw0 bw1]
  obtain ⟨top, htop⟩ : ∃ t, t = u0 * 4294967296 + u1 := ⟨_, rfl⟩
  rw [← htop] at et hcore hkc
  have hQv := knuth_a bw2 hcore
  obtain ⟨q0, hq0⟩ : ∃ q, q = min (top / v1) 4294967295 := ⟨_, rfl⟩
  have hv10 : 0 < v1 := Nat.pos_of_ne_zero hv1
  have hq0v : q0 * v1 ≤ top := Nat.le_trans (Nat.mul_le_mul_right _ (by rw [hq0]; exact Nat.min_le_left _ _)) (Nat.div_mul_le_self _ _)
  have hq0Q : val w / val v ≤ q0 := by
    rw [hq0]
    exact Nat.le_min.2 ⟨(Nat.le_div_iff_mul_le hv10).2 hQv, by simp only [B32] at hQB; omega⟩
  have hq0B : q0 ≤ 4294967295 := by rw [hq0]; exact Nat.min_le_right _ _
  have htl : top / v1 ≤ top := Nat.div_le_self _ _
  have ed : IntKind.u64.wrap ((top : Int).tdiv (v1 : Int)) = ((top / v1 : Nat) : Int) := by
    rw [Int.tdiv_eq_ediv_of_nonneg (Int.natCast_nonneg _), ← Int.natCast_ediv]
    generalize top / v1 = d at htl ⊢
    exact wrapu64 (by omega) (by omega)
  have eq0 : (if (4294967295 : Int) < ((top / v1 : Nat) : Int) then (4294967295 : Int) else ((top / v1 : Nat) : Int)) = (q0 : Int) := by
    rw [hq0]
    generalize top / v1 = d
    split <;> omega
  have er : IntKind.u64.wrap ((top : Int) - IntKind.u64.wrap ((q0 : Int) * (v1 : Int))) = ((top - q0 * v1 : Nat) : Int) := by
    rw [← Int.natCast_mul]
    generalize q0 * v1 = z at hq0v ⊢
    have e1 : IntKind.u64.wrap (z : Int) = z := wrapu64 (by omega) (by omega)
    rw [e1, wrapu64 (by omega) (by omega)]; omega
  rw [et, ed, eq0, er]
  refine ⟨by omega, by omega, by decide, by omega, by omega, by omega, by omega, by omega, by omega, by omega, ?_⟩
  refine Means.begin2 (α := Int × Int) (β := Int) (fun x => [(5, made 169 E)])
    (fun x => [(0, .win 5 0 off len false), (1, .imm 169 false V), (5, .int .i64 ni), (7, .int .u64 x.1), (8, .int .u64 x.2)])
    (fun x => ∃ (q rest : Nat), x.1 = q ∧ x.2 = rest ∧ val w / val v ≤ q ∧ q ≤ 4294967295 ∧ q * v1 + rest = top) (fun x => x.1.toNat) ((q0 : Int), ((top - q0 * v1 : Nat) : Int))
    (fun x => [(5, made 169 E)]) (fun x => [(0, .win 5 0 off len false), (1, .imm 169 false V), (5, .int .i64 ni), (7, .int .u64 x)])
    (fun x => ∃ q : Nat, x = q ∧ val w / val v ≤ q ∧ q ≤ val w / val v + 1 ∧ q ≤ 4294967295)
    rfl rfl rfl ⟨rfl, rfl, rfl, rfl, rfl, rfl, trivial⟩ ⟨rfl, trivial⟩ ⟨q0, top - q0 * v1, rfl, rfl, hq0Q, hq0B, by omega⟩ ?_ ?_
  · rintro ⟨qi, ri⟩ ⟨q, rest, hqi, hri, hqQ, hqB, hqr⟩ ih post
    dsimp only at hqi hri ih ⊢
    refine Means.go progOK hX [.both, .halt] 400 fun L Z hL hZ => ?_
    conv => cbv
    subst hL hZ
    dsimp only [std, deep]
    rw [wn, wn2]
    simp only [Int.toNat_natCast]
    have hqv : q * v1 ≤ 4294967295 * 4294967295 := Nat.mul_le_mul hqB (by omega)
    have hqv2 : q * v2 ≤ 4294967295 * 4294967295 := Nat.mul_le_mul hqB (by omega)
    have ez : IntKind.u64.wrap (qi * (v2 : Int)) = ((q * v2 : Nat) : Int) := by
      rw [hqi, ← Int.natCast_mul]
      generalize q * v2 = z at hqv2 ⊢
      exact wrapu64 (by omega) (by omega)
    simp only [gv1, gv2, g2, ez]
    refine ⟨fun h => ⟨by omega, by omega, by decide, by omega, by omega, fun h2 => ?_, fun h2 => ?_⟩, fun h => ?_⟩ <;> simp only [decide_eq_true_eq, decide_eq_false_iff_not] at h
    · have ej : bitsV .or .u64 (IntKind.u64.wrap (ri * 2 ^ min (Int.toNat 32) IntKind.u64.bits)) (u2 : Int) = ((rest * 4294967296 + u2 : Nat) : Int) := by
        rw [hri, shl32 _ (by omega) (by omega), join64 _ _ (by omega) bw2]
      simp only [ej, decide_eq_true_eq] at h2
      have hgt : rest * 4294967296 + u2 < q * v2 := by omega
      have hne : val w / val v ≠ q := by
        intro e
        have := knuth_b hcore (rest := rest) (by rw [e]; exact hqr)
        rw [e] at this
        have e5 : B32 * rest = rest * 4294967296 := Nat.mul_comm _ _
        rw [e5] at this
        exact absurd hgt (Nat.not_lt.2 this)
      have hq1 : q ≠ 0 := by rintro rfl; simp at hgt
      obtain ⟨t, rfl⟩ : ∃ t, q = t + 1 := ⟨q - 1, by omega⟩
      refine ⟨by omega, by omega, ?_⟩
      refine (ih (qi - 1, ri + v1) ⟨t, rest + v1, by omega, by omega, by omega, by omega, by rw [Nat.succ_mul] at hqr; omega⟩ (by show (qi - 1).toNat < _; omega)).to rfl rfl rfl
        ⟨rfl, rfl, rfl, rfl, wrapu64 (by omega) (by omega), wrapu64 (by omega) (by omega), trivial⟩ ⟨rfl, trivial⟩
    · have ej : bitsV .or .u64 (IntKind.u64.wrap (ri * 2 ^ min (Int.toNat 32) IntKind.u64.bits)) (u2 : Int) = ((rest * 4294967296 + u2 : Nat) : Int) := by
        rw [hri, shl32 _ (by omega) (by omega), join64 _ _ (by omega) bw2]
      simp only [ej, decide_eq_false_iff_not] at h2
      have hle : q * v2 ≤ B32 * rest + u2 := by rw [Nat.mul_comm B32]; simp only [B32]; omega
      exact (post qi ⟨q, hqi, hqQ, hkc q rest (by simp only [B32]; omega) hv10 hqr hle, hqB⟩).to rfl rfl rfl ⟨rfl, rfl, rfl, rfl, rfl, trivial⟩ ⟨rfl, trivial⟩
    · have hr : 4294967296 ≤ rest := by omega
      have hle : q * v2 ≤ B32 * rest + u2 := by
        have : 4294967296 * 4294967296 ≤ B32 * rest := Nat.mul_le_mul (Nat.le_refl _) hr
        omega
      refine ⟨fun h0 => by simp at h0, fun _ => ?_⟩
      exact (post qi ⟨q, hqi, hqQ, hkc q rest (by simp only [B32]; omega) hv10 hqr hle, hqB⟩).to rfl rfl rfl ⟨rfl, rfl, rfl, rfl, rfl, trivial⟩ ⟨rfl, trivial⟩
  · rintro qi ⟨q, hqi, hqQ, hqQ1, hqB⟩
    refine Means.go progOK hX [] 400 fun L Z hL hZ => ?_
    conv => cbv
    subst hL hZ
    dsimp only [std, deep]
    refine Means.begin (α := List D × Int × Int × Int) (fun x => [(5, made 169 x.1)])
      (fun x => [(0, .win 5 0 off len false), (1, .imm 169 false V), (5, .int .i64 ni), (7, .int .u64 qi), (9, .int .u64 x.2.1), (10, .int .u64 x.2.2.1), (81, .int .i64 ni), (82, .int .i64 x.2.2.2)])
      (fun x => ∃ (u : List Nat) (b c i : Nat), x.1 = lim (pre ++ u ++ post) ∧ x.2.1 = b ∧ x.2.2.1 = c ∧ x.2.2.2 = i ∧ u.length = m + 3 ∧ Word u ∧ i ≤ m + 2 ∧ b ≤ 1 ∧ c < 4294967296 ∧ u.drop i = w.drop i ∧
        val (u.take i) + q * val (v.take i) = val (w.take i) + B32 ^ i * (c + b)) (fun x => m + 2 - x.2.2.2.toNat) (E, 0, 0, 0) rfl rfl rfl
      ⟨rfl, rfl, rfl, rfl, rfl, rfl, rfl, rfl, rfl, trivial⟩ ⟨rfl, trivial⟩ ⟨w, 0, 0, 0, hE, rfl, rfl, rfl, by omega, ww, by omega, by omega, by omega, rfl, by simp [val]⟩ ?_
    rintro ⟨E1, bi, ci, ii⟩ ⟨u, b, c, i, hE1, hb, hc, hi, hul, wu, him, hb1, hcB, hdr, hv⟩ ih
    dsimp only at hE1 hb hc hi ih ⊢
    have lE1 : E1.length = pre.length + (m + 3) + post.length := by rw [hE1, lim_length]; simp [hul]; omega
    refine Means.go progOK hX [.fork [] [.both]] 400 fun L Z hL hZ => ?_
    conv => cbv
    subst hL hZ
    dsimp only [std, deep]
    refine ⟨fun h => ?_, fun h => ?_⟩ <;> simp only [decide_eq_true_eq, decide_eq_false_iff_not] at h
    · have hin : i < m + 2 := by omega
      have bx : v.getD i 0 < 4294967296 := word_get wv _
      have gx := gv i
      have tv := val_take_succ v i
      have tw := val_take_succ w i
      have by_ : u.getD i 0 < 4294967296 := word_get wu _
      have guw := getD_of_drop hdr
      have gu := gE u wu i (by omega)
      rw [← hE1] at gu
      rw [← guw] at tw
      generalize v.getD i 0 = x at *
      generalize u.getD i 0 = y at *
      have hqx : q * x ≤ 4294967295 * 4294967295 := Nat.mul_le_mul hqB (by omega)
      obtain ⟨z, hz⟩ : ∃ z, z = q * x := ⟨_, rfl⟩
      rw [← hz] at hqx
      obtain ⟨t, ht⟩ : ∃ t, t = c + z := ⟨_, rfl⟩
      have et : IntKind.u64.wrap (ci + IntKind.u64.wrap (qi * IntKind.u64.wrap (V.getD ii.toNat D.nil).toInt)) = (t : Int) := by
        rw [show ii.toNat = i by omega, gx]
        have e1 : IntKind.u64.wrap (x : Int) = x := wrapu64 (by omega) (by omega)
        rw [e1, hqi, ← Int.natCast_mul, ← hz]
        have e2 : IntKind.u64.wrap (z : Int) = z := wrapu64 (by omega) (by omega)
        rw [e2, wrapu64 (by omega) (by omega)]; omega
      rw [et, bits_and64 t (by omega), show ii.toNat = i by omega, gu]
      obtain ⟨b', s, hs, hb', hsB, hd, hdd⟩ : ∃ b' s : Nat, s + t % 4294967296 + b = y + 4294967296 * b' ∧ b' ≤ 1 ∧ s < 4294967296 ∧
          IntKind.u32.wrap (IntKind.u64.wrap (IntKind.u64.wrap ((y : Int) - ((t % 4294967296 : Nat) : Int)) - bi)) = (s : Int) ∧
          (IntKind.u64.wrap (IntKind.u64.wrap ((y : Int) - ((t % 4294967296 : Nat) : Int)) - bi)).fdiv (2 ^ min (Int.toNat 63) IntKind.u64.bits) = (b' : Int) := by
        rw [shr63]
        have hm0 : t % 4294967296 < 4294967296 := Nat.mod_lt _ (by decide)
        generalize t % 4294967296 = l at hm0 ⊢
        simp only [IntKind.wrap_u64, wrapu32]
        rcases Nat.lt_or_ge y (l + b) with h' | h'
        · exact ⟨1, y + 4294967296 - l - b, by omega, by omega, by omega, by omega, by omega⟩
        · exact ⟨0, y - l - b, by omega, by omega, by omega, by omega, by omega⟩
      rw [hd, hdd, shr32, show (t : Int) / 4294967296 = ((t / 4294967296 : Nat) : Int) by omega]
      refine ⟨by omega, by omega, by omega, by omega, by omega, by omega, trivial, by decide, by decide, ?_⟩
      have eS : E1.set (off + i) ((E1.getD (off + i) D.nil).put [] (D.int (s : Int))) = lim (pre ++ u.set i s ++ post) := by
        rw [hE1, hoff, set_win _ _ _ _ _ (by omega)]
      rw [eS]
      refine (ih (_, _, _, ii + 1) ⟨u.set i s, b', t / 4294967296, i + 1, rfl, rfl, rfl, by simp; omega, by simp; omega, word_set wu hsB _, by omega, hb', by omega, ?_, ?_⟩ (by show m + 2 - (ii + 1).toNat < _; omega)).to rfl rfl rfl
        ⟨rfl, rfl, rfl, rfl, rfl, rfl, rfl, rfl, wrap64 _ (by omega) (by omega), trivial⟩ ⟨rfl, trivial⟩
      · rw [drop_set_succ]; exact drop_succ_of hdr
      · have hui : (u.take i).length = i := by simp; omega
        rw [take_set_succ _ _ _ (by omega), val_snoc, hui, tv, tw, Nat.pow_succ, Nat.mul_add q, Nat.mul_left_comm q, ← hz]
        have e1 := congrArg (B32 ^ i * ·) hs
        have e2 : t % 4294967296 + 4294967296 * (t / 4294967296) = t := Nat.mod_add_div _ _
        have e3 := congrArg (B32 ^ i * ·) e2
        have e4 := congrArg (B32 ^ i * ·) ht
        simp only [Nat.mul_add, ← Nat.mul_assoc] at e1 e3 e4 hv ⊢
        have e5 : B32 ^ i * B32 = B32 ^ i * 4294967296 := rfl
        rw [e5]; omega
    · have hin : i = m + 2 := by omega
      subst hin
      have by_ : u.getD (m + 2) 0 < 4294967296 := word_get wu _
      have guw := getD_of_drop hdr
      have gu := gE u wu (m + 2) (by omega)
      have tw := val_take_succ w (m + 2)
      rw [← hE1] at gu
      rw [← guw, List.take_of_length_le (by omega)] at tw
      rw [List.take_of_length_le (l := v) (by omega)] at hv
      have eset := take_set_succ u (m + 2)
      generalize u.getD (m + 2) 0 = y at *
      rw [show ni.toNat = m + 2 by omega, gu]
      obtain ⟨b', s, hs, hb', hsB, hd, hdd⟩ : ∃ b' s : Nat, s + c + b = y + 4294967296 * b' ∧ b' ≤ 1 ∧ s < 4294967296 ∧
          IntKind.u32.wrap (IntKind.u64.wrap (IntKind.u64.wrap ((y : Int) - ci) - bi)) = (s : Int) ∧
          (IntKind.u64.wrap (IntKind.u64.wrap ((y : Int) - ci) - bi)).fdiv (2 ^ min (Int.toNat 63) IntKind.u64.bits) = (b' : Int) := by
        rw [shr63]
        simp only [IntKind.wrap_u64, wrapu32]
        rcases Nat.lt_or_ge y (c + b) with h' | h'
        · exact ⟨1, y + 4294967296 - c - b, by omega, by omega, by omega, by omega, by omega⟩
        · exact ⟨0, y - c - b, by omega, by omega, by omega, by omega, by omega⟩
      simp only [hd, hdd]
      have eS : E1.set (off + (m + 2)) ((E1.getD (off + (m + 2)) D.nil).put [] (D.int (s : Int))) = lim (pre ++ u.set (m + 2) s ++ post) := by
        rw [hE1, hoff, set_win _ _ _ _ _ (by omega)]
      rw [eS]
      have wu1 : Word (u.set (m + 2) s) := word_set wu hsB _
      have lu1 : (u.set (m + 2) s).length = m + 3 := by simp; omega
      have eset1 := eset s (by omega)
      rw [List.take_of_length_le (by omega)] at eset1
      generalize u.set (m + 2) s = u1 at *
      obtain ⟨T, hT⟩ : ∃ T, T = B32 ^ (m + 2) * B32 := ⟨_, rfl⟩
      have hu1T : val u1 < T := by
        have := val_lt wu1
        rw [lu1, show m + 3 = (m + 2) + 1 from rfl, Nat.pow_succ] at this
        omega
      have key : val u1 + q * val v = val w + T * b' := by
        have hut : (u.take (m + 2)).length = m + 2 := by simp; omega
        rw [eset1, val_snoc, hut, tw, hT]
        have e1 := congrArg (B32 ^ (m + 2) * ·) hs
        simp only [Nat.mul_add, ← Nat.mul_assoc] at e1 hv ⊢
        have e5 : B32 ^ (m + 2) * B32 = B32 ^ (m + 2) * 4294967296 := rfl
        rw [e5]; omega
      refine ⟨by omega, by omega, by omega, by omega, trivial, by decide, fun h2 => ?_, fun h2 => ?_⟩ <;> simp only [beq_iff_eq, beq_eq_false_iff_ne, ne_eq] at h2
      · have hb0 : b' = 0 := by omega
        rw [hb0, Nat.mul_zero, Nat.add_zero] at key
        obtain ⟨k1, k2⟩ := left_eq hV0 hqQ key
        have hd := dig_of wu1
        rw [k2, lu1, show m + 3 = w.length by omega] at hd
        refine ⟨by rw [wrapu32, hQ, ← k1, hqi]; omega, by rw [hE', hd], trivial⟩
      · have hb1' : b' = 1 := by omega
        rw [hb1', Nat.mul_one] at key
        obtain ⟨k1, k2⟩ := left_over hV0 hqQ1 hu1T key
        refine Means.begin (α := List D × Int × Int) (fun x => [(5, made 169 x.1)])
          (fun x => [(0, .win 5 0 off len false), (1, .imm 169 false V), (5, .int .i64 ni), (7, .int .u64 qi), (10, .int .u64 x.2.1), (133, .int .i64 ni), (134, .int .i64 x.2.2)])
          (fun x => ∃ (u2 : List Nat) (c i : Nat), x.1 = lim (pre ++ u2 ++ post) ∧ x.2.1 = c ∧ x.2.2 = i ∧ u2.length = m + 3 ∧ Word u2 ∧ i ≤ m + 2 ∧ c ≤ 1 ∧ u2.drop i = u1.drop i ∧
            val (u2.take i) + B32 ^ i * c = val (u1.take i) + val (v.take i)) (fun x => m + 2 - x.2.2.toNat) (lim (pre ++ u1 ++ post), 0, 0) rfl rfl rfl
          ⟨rfl, rfl, rfl, rfl, rfl, rfl, rfl, rfl, trivial⟩ ⟨rfl, trivial⟩ ⟨u1, 0, 0, rfl, rfl, rfl, lu1, wu1, by omega, by omega, rfl, by simp [val]⟩ ?_
        clear ih hE1 hdr hv gu eS eset lE1
        rintro ⟨E2, ci2, ii2⟩ ⟨u2', c2, i2, hE2, hc2, hi2, hul2, wu2, him2, hcB2, hdr2, hv2⟩ ih
        dsimp only at hE2 hc2 hi2 ih ⊢
        have lE2 : E2.length = pre.length + (m + 3) + post.length := by rw [hE2, lim_length]; simp [hul2]; omega
        refine Means.go progOK hX [.both] 400 fun L Z hL hZ => ?_
        conv => cbv
        subst hL hZ
        dsimp only [std, deep]
        refine ⟨fun h => ?_, fun h => ?_⟩ <;> simp only [decide_eq_true_eq, decide_eq_false_iff_not] at h
        · have hin : i2 < m + 2 := by omega
          have bx : v.getD i2 0 < 4294967296 := word_get wv _
          have gx := gv i2
          have tv := val_take_succ v i2
          have tw := val_take_succ u1 i2
          have by2 : u2'.getD i2 0 < 4294967296 := word_get wu2 _
          have guw := getD_of_drop hdr2
          have gu := gE u2' wu2 i2 (by omega)
          rw [← hE2] at gu
          rw [← guw] at tw
          generalize v.getD i2 0 = x at *
          generalize u2'.getD i2 0 = y at *
          obtain ⟨t, ht⟩ : ∃ t, t = c2 + (y + x) := ⟨_, rfl⟩
          have et : IntKind.u64.wrap (ci2 + IntKind.u64.wrap ((y : Int) + IntKind.u64.wrap (V.getD ii2.toNat D.nil).toInt)) = (t : Int) := by
            rw [show ii2.toNat = i2 by omega, gx]
            have e1 : IntKind.u64.wrap (x : Int) = x := wrapu64 (by omega) (by omega)
            have e2 : IntKind.u64.wrap ((y : Int) + x) = (y : Int) + x := wrapu64 (by omega) (by omega)
            rw [e1, e2, wrapu64 (by omega) (by omega)]; omega
          have e6 : IntKind.u32.wrap (t : Int) = ((t % B32 : Nat) : Int) := by rw [wrapu32]; simp only [B32]; omega
          have e7 : (t : Int).fdiv (2 ^ min (Int.toNat 32) IntKind.u64.bits) = ((t / B32 : Nat) : Int) := by rw [shr32]; simp only [B32]; omega
          rw [show ii2.toNat = i2 by omega] at et ⊢
          rw [gu, et, e6, e7]
          refine ⟨by omega, by omega, by omega, by omega, by omega, by omega, trivial, by decide, ?_⟩
          have eS : E2.set (off + i2) ((E2.getD (off + i2) D.nil).put [] (D.int ((t % B32 : Nat) : Int))) = lim (pre ++ u2'.set i2 (t % B32) ++ post) := by
            rw [hE2, hoff, set_win _ _ _ _ _ (by omega)]
          rw [eS]
          refine (ih (_, _, ii2 + 1) ⟨u2'.set i2 (t % B32), t / B32, i2 + 1, rfl, rfl, by simp; omega, by simp; omega, word_set wu2 (Nat.mod_lt _ (by decide)) _, by omega, by simp only [B32]; omega, ?_, ?_⟩ (by show m + 2 - (ii2 + 1).toNat < _; omega)).to rfl rfl rfl
            ⟨rfl, rfl, rfl, rfl, rfl, rfl, rfl, wrap64 _ (by omega) (by omega), trivial⟩ ⟨rfl, trivial⟩
          · rw [drop_set_succ]; exact drop_succ_of hdr2
          · have hui : (u2'.take i2).length = i2 := by simp; omega
            rw [take_set_succ _ _ _ (by omega), val_snoc, hui, tv, tw, Nat.pow_succ]
            have e2 : t % B32 + B32 * (t / B32) = t := Nat.mod_add_div _ _
            have e3 := congrArg (B32 ^ i2 * ·) e2
            have e4 := congrArg (B32 ^ i2 * ·) ht
            simp only [Nat.mul_add, ← Nat.mul_assoc] at e3 e4 hv2 ⊢
            omega
        · have hin : i2 = m + 2 := by omega
          subst hin
          have by2 : u2'.getD (m + 2) 0 < 4294967296 := word_get wu2 _
          have guw := getD_of_drop hdr2
          have gu := gE u2' wu2 (m + 2) (by omega)
          have gu' : ((E2.getD (off + (m + 2)) D.nil).at []).toInt = ((u2'.getD (m + 2) 0 : Nat) : Int) := by
            rw [show ∀ d : D, d.at [] = d from fun _ => rfl, hE2, hoff, get_win _ _ _ _ (by omega)]
          have tw := val_take_succ u1 (m + 2)
          rw [← guw, List.take_of_length_le (by omega)] at tw
          rw [List.take_of_length_le (l := v) (by omega)] at hv2
          have eset := take_set_succ u2' (m + 2)
          generalize u2'.getD (m + 2) 0 = y at *
          obtain ⟨t, ht⟩ : ∃ t, t = y + c2 := ⟨_, rfl⟩
          have et : IntKind.u32.wrap ((y : Int) + IntKind.u32.wrap ci2) = ((t % B32 : Nat) : Int) := by
            rw [wrapu32, wrapu32]; simp only [B32]; omega
          rw [show ni.toNat = m + 2 by omega, gu', et]
          have eS : E2.set (off + (m + 2)) ((E2.getD (off + (m + 2)) D.nil).put [] (D.int ((t % B32 : Nat) : Int))) = lim (pre ++ u2'.set (m + 2) (t % B32) ++ post) := by
            rw [hE2, hoff, set_win _ _ _ _ _ (by omega)]
          rw [eS]
          have wu3 : Word (u2'.set (m + 2) (t % B32)) := word_set wu2 (Nat.mod_lt _ (by decide)) _
          have lu3 : (u2'.set (m + 2) (t % B32)).length = m + 3 := by simp; omega
          have eset3 := eset (t % B32) (by omega)
          rw [List.take_of_length_le (by omega)] at eset3
          generalize u2'.set (m + 2) (t % B32) = u3 at *
          have hu3T : val u3 < T := by
            have := val_lt wu3
            rw [lu3, show m + 3 = (m + 2) + 1 from rfl, Nat.pow_succ] at this
            omega
          have hvT : val v < T := by
            have := val_lt wv
            rw [hm] at this
            have h2 : B32 ^ (m + 2) * 1 ≤ B32 ^ (m + 2) * B32 := Nat.mul_le_mul_left _ (by decide)
            omega
          have hRv : val w % val v < val v := Nat.mod_lt _ hV0
          have hk : t / B32 ≤ 1 := by simp only [B32]; omega
          have key3 : val u3 + T * (t / B32) = val w % val v + T := by
            have hut : (u2'.take (m + 2)).length = m + 2 := by simp; omega
            rw [← k2, eset3, val_snoc, hut, tw, hT]
            have e2 : t % B32 + B32 * (t / B32) = t := Nat.mod_add_div _ _
            have e3 := congrArg (B32 ^ (m + 2) * ·) e2
            have e4 := congrArg (B32 ^ (m + 2) * ·) ht
            simp only [Nat.mul_add, ← Nat.mul_assoc] at e3 e4 hv2 ⊢
            omega
          have hfin : val u3 = val w % val v := by
            rcases Nat.lt_or_ge (t / B32) 1 with h' | h'
            · have : t / B32 = 0 := Nat.lt_one_iff.1 h'
              rw [this, Nat.mul_zero] at key3; omega
            · have : t / B32 = 1 := Nat.le_antisymm hk h'
              rw [this, Nat.mul_one] at key3; omega
          have hd := dig_of wu3
          rw [hfin, lu3, show m + 3 = w.length by omega] at hd
          refine ⟨by omega, by omega, by omega, by omega, trivial, ?_, by rw [hE', hd], trivial⟩
          have hq1 : 1 ≤ q := by rw [k1]; exact Nat.le_add_left _ _
          have e1 : IntKind.u64.wrap (qi - 1) = qi - 1 := wrapu64 (by omega) (by omega)
          have e8 : (val w / val v : Nat) = q - 1 := by rw [k1]; rfl
          rw [e1, wrapu32, hQ, e8]; omega

end Go.VI

namespace Go.VI
open Go.Proofs
set_option maxRecDepth 20000

theorem limbs_single {n : Nat} (h : (limbs n).length = 1) : n < 4294967296 ∧ limbs n = [n] := by
  have h0 : n ≠ 0 := by rintro rfl; rw [limbs_zero] at h; simp at h
  rw [limbs_pos h0] at h
  have h1 : limbs (n / B32) = [] := by simpa using h
  have h2 : n / B32 = 0 := by rw [← val_limbs (n / B32), h1]; rfl
  have h3 : n < B32 := by
    rcases Nat.lt_or_ge n B32 with h' | h'
    · exact h'
    · have := Nat.div_pos h' (show 0 < B32 by decide); omega
  refine ⟨h3, ?_⟩
  rw [limbs_pos h0, h2, limbs_zero, Nat.mod_eq_of_lt h3]

theorem limbs_lt {n : Nat} : n < B32 ^ (limbs n).length := by
  have := val_lt (word_limbs n)
  rwa [val_limbs] at this

/-- The lead of the limbs is no zero. -/
theorem limbs_lead {n : Nat} (h : n ≠ 0) : (limbs n).getD ((limbs n).length - 1) 0 ≠ 0 ∧ B32 ^ ((limbs n).length - 1) * (limbs n).getD ((limbs n).length - 1) 0 ≤ n ∧
    n < B32 ^ ((limbs n).length - 1) * ((limbs n).getD ((limbs n).length - 1) 0 + 1) := by
  have hl : 0 < (limbs n).length := by rw [limbs_pos h]; simp
  have h1 := limbs_pow h
  have h2 := limbs_lt (n := n)
  have hd := get_digit (word_limbs n) ((limbs n).length - 1)
  rw [val_limbs] at hd
  have hp : 0 < B32 ^ ((limbs n).length - 1) := Nat.pow_pos (by decide)
  have h3 : n / B32 ^ ((limbs n).length - 1) < B32 := by
    rw [Nat.div_lt_iff_lt_mul hp, Nat.mul_comm, ← Nat.pow_succ, Nat.succ_eq_add_one, Nat.sub_add_cancel hl]; exact h2
  rw [Nat.mod_eq_of_lt h3] at hd
  rw [hd]
  refine ⟨?_, Nat.mul_div_le _ _, ?_⟩
  · have := Nat.div_pos h1 hp; omega
  · have := Nat.lt_mul_div_succ n hp
    exact this

theorem dig3 (j k r M : Nat) : dig (j + k + r) M = dig j M ++ dig k (M / B32 ^ j) ++ dig r (M / B32 ^ j / B32 ^ k) := by
  rw [dig_add (j + k) r, dig_add j k, Nat.pow_add, ← Nat.div_div_eq_div_mul]

theorem pow_pos32 (k : Nat) : 0 < B32 ^ k := Nat.pow_pos (by decide)

/-- One step of a long division. -/
theorem div_step {X j lb la V : Nat} (hX : X < V * B32 ^ (j + 1)) (hV : V < B32 ^ lb) (hle : j + lb ≤ la) :
    X / B32 ^ j < V * B32 ∧ dig (la + 1) X = dig j X ++ dig (lb + 1) (X / B32 ^ j) ++ dig (la - lb - j) 0 ∧
    ∀ R, R < V → dig (la + 1) (X % B32 ^ j + B32 ^ j * R) = dig j X ++ dig (lb + 1) R ++ dig (la - lb - j) 0 := by
  have h1 : X / B32 ^ j < V * B32 := by
    rw [Nat.div_lt_iff_lt_mul (pow_pos32 _), Nat.mul_assoc, Nat.mul_comm B32, ← Nat.pow_succ]; exact hX
  have h2 : V * B32 < B32 ^ (lb + 1) := by rw [Nat.pow_succ]; exact Nat.mul_lt_mul_of_pos_right hV (by decide)
  have e : la + 1 = j + (lb + 1) + (la - lb - j) := by omega
  refine ⟨h1, ?_, fun R hR => ?_⟩
  · rw [e, dig3, Nat.div_eq_of_lt (a := X / B32 ^ j) (by omega)]
  · have e1 : (X % B32 ^ j + B32 ^ j * R) / B32 ^ j = R := by rw [Nat.add_mul_div_left _ _ (pow_pos32 _), Nat.div_eq_of_lt (Nat.mod_lt _ (pow_pos32 _)), Nat.zero_add]
    have e2 : dig j (X % B32 ^ j + B32 ^ j * R) = dig j X := by rw [← dig_mod, Nat.add_mul_mod_self_left, Nat.mod_mod, dig_mod]
    have h3 : V ≤ V * B32 := Nat.le_mul_of_pos_right _ (by decide)
    rw [e, dig3, e1, e2, Nat.div_eq_of_lt (a := R) (b := B32 ^ (lb + 1)) (by omega)]

set_option maxHeartbeats 4000000 in
theorem divide_ok (m n : Nat) (hn : n ≠ 0) (lm : (limbs m).length ≤ 274877906944) (ln : (limbs n).length ≤ 274877906944) :
    Ok Tryz.prog tab 212 [.imm 169 false (lim (limbs m)), .imm 169 false (lim (limbs n))] []
      (.tup [.v (.imm 169 false (lim (limbs (m / n)))), .v (.imm 169 false (lim (limbs (m % n))))]) [] := by
  have hcmp := compare_ok m n (by omega) (by omega)
  obtain ⟨rq, hrq⟩ : ∃ r, lim (limbs (m / n)) = r := ⟨_, rfl⟩
  obtain ⟨rr, hrr⟩ : ∃ r, lim (limbs (m % n)) = r := ⟨_, rfl⟩
  rw [hrq, hrr]
  obtain ⟨s, hs⟩ : ∃ s, ((m : Int) - n).sign = s := ⟨_, rfl⟩
  rw [hs] at hcmp
  have wa := word_limbs m
  have wb := word_limbs n
  have va := val_limbs m
  have vb := val_limbs n
  have hshort := fun b h0 h1 => shortDivide_ok (limbs m) b wa (by omega) h0 h1
  have hsa := fun k h => shift_ok (limbs m) k wa (by omega) h
  have hsb := fun k h => shift_ok (limbs n) k wb (by omega) h
  have hsing := limbs_single (n := n)
  have hlead := limbs_lead hn
  have hmono := limbs_mono (m := n) (n := m)
  have hmlt := limbs_lt (n := m)
  have hnlt := limbs_lt (n := n)
  have hnl : 0 < (limbs n).length := by rw [limbs_pos hn]; simp
  have gb := lim_get (limbs n)
  have lla := lim_length (limbs m)
  have llb := lim_length (limbs n)
  obtain ⟨z, hz⟩ : ∃ z, z = 32 - blen ((limbs n).getD ((limbs n).length - 1) 0) := ⟨_, rfl⟩
  obtain ⟨UA, hUA⟩ : ∃ U, U = lim (dig ((limbs m).length + 1) (val (limbs m) * 2 ^ z)) := ⟨_, rfl⟩
  obtain ⟨UB, hUB⟩ : ∃ U, U = lim (dig ((limbs n).length + 1) (val (limbs n) * 2 ^ z)) := ⟨_, rfl⟩
  obtain ⟨zi, hzi⟩ : ∃ i : Int, i = z := ⟨_, rfl⟩
  generalize hA : lim (limbs m) = A at *
  generalize hB : lim (limbs n) = B at *
  have hdt := fun x h => trim_val [x] (show Word [x] from h) (by simp)
  generalize hmi : ((m % n : Nat) : Int) = mi at *
  refine Ok.go progOK [] [.call (.v (.int .i64 s)) [] [], .fork [] [.fork [.call (.tup [.v (.imm 169 false rq), .v (.int .u32 mi)]) [] [], .call (.v (.imm 169 true rr)) [] []]
    [.call (.v (.int .i64 zi)) [] [], .call (.own (made 169 UA)) [] [], .call (.own (made 169 UB)) [] [], .before 51 (.mv 5) 1704, .before 52 .frz 1752]]] 400 Tryz.func212 rfl rfl rfl fun J hJX L Z hL hZ => ?_
  conv => cbv
  subst hL hZ
  dsimp only [std, deep]
  have hbr : (s < 0) ↔ m < n := by
    rw [← hs]
    rcases Int.lt_trichotomy ((m : Int) - n) 0 with h | h | h
    · rw [Int.sign_eq_neg_one_of_neg h]; omega
    · rw [h]; simp; omega
    · rw [Int.sign_eq_one_of_pos h]; omega
  refine ⟨hcmp, fun h => ?_, fun h => ⟨fun h1 => ?_, fun h1 => ?_⟩⟩ <;> simp only [decide_eq_true_eq, decide_eq_false_iff_not] at h
  · have hlt := hbr.1 h
    refine ⟨by simp; omega, by simp; omega, ?_, ?_, trivial⟩
    · rw [← hrq, Nat.div_eq_of_lt hlt, limbs_zero]; rfl
    · rw [← hrr, Nat.mod_eq_of_lt hlt, hA]
  · simp only [beq_iff_eq] at h1
    obtain ⟨h2, h3⟩ := hsing (by omega)
    have g0 := gb 0
    rw [h3] at g0
    have g0' : (B.getD (Int.toNat 0) D.nil).toInt = (n : Int) := g0
    rw [g0']
    have hsh := hshort n (by omega) h2
    rw [va, hrq, hmi] at hsh
    have ht := hdt (m % n) (by intro y hy; simp at hy; rw [hy]; exact Nat.lt_trans (Nat.mod_lt _ (by omega)) h2)
    simp only [val, Nat.mul_zero, Nat.add_zero, lim, List.map_cons, List.map_nil] at ht
    simp only [lim] at hrr
    rw [hmi, hrr] at ht
    exact ⟨by decide, by omega, hsh, ht, trivial, trivial, trivial⟩
  · simp only [beq_eq_false_iff_ne, ne_eq] at h1
    have hge : n ≤ m := by
      rcases Nat.lt_or_ge m n with h' | h'
      · exact absurd (hbr.2 h') h
      · exact h'
    have hab := hmono hge
    obtain ⟨l1, l2, l3⟩ := hlead
    have gbl := gb ((limbs n).length - 1)
    have blead : (limbs n).getD ((limbs n).length - 1) 0 < 4294967296 := word_get wb _
    rw [va] at hsa hUA
    rw [vb] at hsb hUB
    generalize hx : (limbs n).getD ((limbs n).length - 1) 0 = x at *
    generalize hLA : (limbs m).length = la at *
    generalize hLB : (limbs n).length = lb at *
    clear hx hshort hsing hmono gb hdt wa wb va vb
    have hlz := lead_ok x (Nat.pos_of_ne_zero l1) blead
    obtain ⟨z1, z2, z3⟩ := lead_bits (Nat.pos_of_ne_zero l1) blead
    rw [← hz] at hlz z1 z2 z3
    rw [← hzi] at hlz
    have ezi : IntKind.u64.wrap zi = (z : Int) := by rw [hzi]; exact wrapu64 (by omega) (by omega)
    have hsa' := hsa z z1
    have hsb' := hsb z z1
    rw [← hUA] at hsa'
    rw [← hUB] at hsb'
    have e1 : IntKind.i64.wrap ((B.length : Int) - 1) = ((lb - 1 : Nat) : Int) := by rw [wrap64 _ (by omega) (by omega)]; omega
    have e2 : IntKind.i64.wrap ((A.length : Int) - B.length) = ((la - lb : Nat) : Int) := by rw [wrap64 _ (by omega) (by omega)]; omega
    have e3 : IntKind.i64.wrap (((la - lb : Nat) : Int) + 1) = ((la - lb + 1 : Nat) : Int) := by rw [wrap64 _ (by omega) (by omega)]; omega
    have hUBl : UB.length = lb + 1 := by rw [hUB, lim_length, dig_length]
    rw [e1, e2, e3, ezi]
    simp only [Int.toNat_natCast]
    rw [gbl]
    refine ⟨by omega, by omega, hlz, hsa', hsb', by decide, by omega, by omega, trivial, by omega, by omega, by omega, ?_⟩
    -- what is divided, and by what
    obtain ⟨V, hV⟩ : ∃ V, V = n * 2 ^ z := ⟨_, rfl⟩
    obtain ⟨U, hU⟩ : ∃ U, U = m * 2 ^ z := ⟨_, rfl⟩
    rw [← hV] at hUB
    rw [← hU] at hUA
    have hzp : 0 < 2 ^ z := Nat.pow_pos (by decide)
    have hz31 : 2 ^ z ≤ 2147483648 := Nat.pow_le_pow_right (by decide) z1
    have hP := pow_pos32 (lb - 1)
    have hPB : B32 ^ lb = B32 ^ (lb - 1) * B32 := by rw [← Nat.pow_succ, Nat.succ_eq_add_one, Nat.sub_add_cancel hnl]
    have hV1 : B32 ^ (lb - 1) * 2147483648 ≤ V := by
      rw [hV]
      calc B32 ^ (lb - 1) * 2147483648 ≤ B32 ^ (lb - 1) * (x * 2 ^ z) := Nat.mul_le_mul_left _ z2
        _ = B32 ^ (lb - 1) * x * 2 ^ z := (Nat.mul_assoc _ _ _).symm
        _ ≤ n * 2 ^ z := Nat.mul_le_mul_right _ l2
    have hx32 : (x + 1) * 2 ^ z ≤ B32 := by
      have : x < 2 ^ (32 - z) := by
        refine Nat.lt_of_mul_lt_mul_right (a := 2 ^ z) ?_
        rw [← Nat.pow_add, show 32 - z + z = 32 by omega]; exact z3
      have := Nat.mul_le_mul_right (2 ^ z) (show x + 1 ≤ 2 ^ (32 - z) from this)
      rwa [← Nat.pow_add, show 32 - z + z = 32 by omega] at this
    have hV2 : V < B32 ^ lb := by
      rw [hV, hPB]
      calc n * 2 ^ z < B32 ^ (lb - 1) * (x + 1) * 2 ^ z := Nat.mul_lt_mul_of_pos_right l3 hzp
        _ = B32 ^ (lb - 1) * ((x + 1) * 2 ^ z) := Nat.mul_assoc _ _ _
        _ ≤ B32 ^ (lb - 1) * B32 := Nat.mul_le_mul_left _ hx32
    have hV0 : 0 < V := Nat.lt_of_lt_of_le (Nat.mul_pos hP (by decide)) hV1
    have hU1 : U < V * B32 ^ (la - lb + 1) := by
      have h3 : B32 ^ (lb - 1) * 2147483648 * B32 ^ (la - lb + 1) ≤ V * B32 ^ (la - lb + 1) := Nat.mul_le_mul_right _ hV1
      have h4 : B32 ^ (lb - 1) * 2147483648 * B32 ^ (la - lb + 1) = B32 ^ la * 2147483648 := by
        rw [Nat.mul_right_comm, ← Nat.pow_add, show lb - 1 + (la - lb + 1) = la by omega]
      have h5 : U < B32 ^ la * 2147483648 := by
        rw [hU]
        exact Nat.lt_of_lt_of_le (Nat.mul_lt_mul_of_pos_right hmlt hzp) (Nat.mul_le_mul_left _ hz31)
      omega
    have hVl : List.take ((B.length : Int) - 0).toNat (List.drop (Int.toNat 0) UB) = lim (dig lb V) := by
      rw [show ((B.length : Int) - 0).toNat = lb by omega, show Int.toNat 0 = 0 from rfl, List.drop_zero, hUB, dig_snoc, lim_append, List.take_left' (by rw [lim_length, dig_length])]
    rw [hVl]
    have hvv : val (dig lb V) = V := by rw [dig_val, Nat.mod_eq_of_lt hV2]
    have hvl : (dig lb V).length = lb := dig_length _ _
    have hv1 : (dig lb V).getD (lb - 1) 0 ≠ 0 := by
      rw [get_digit (dig_word _ _), hvv]
      have h3 : V / B32 ^ (lb - 1) < B32 := by rw [Nat.div_lt_iff_lt_mul hP, Nat.mul_comm, ← hPB]; exact hV2
      rw [Nat.mod_eq_of_lt h3]
      have := Nat.div_le_div_right (c := B32 ^ (lb - 1)) hV1
      rw [Nat.mul_div_cancel_left _ hP] at this
      omega
    have hdg := fun (pre w post : List Nat) (ww : Word w) (hwl : w.length = lb + 1) hlt hsz => digit_ok pre w post (dig lb V) ww (dig_word _ _) (by rw [hvl]; omega) (hwl.trans (by rw [hvl])) (by rw [hvl]; exact hv1) hlt hsz
    rw [hvv, hvl] at hdg
    generalize lim (dig lb V) = VB at *
    have hdiv : m / n = U / V := by rw [hU, hV, Nat.mul_div_mul_right _ _ hzp]
    have hmod : m % n = U % V / 2 ^ z := by rw [hU, hV, Nat.mul_mod_mul_right, Nat.mul_div_cancel _ hzp]
    refine Means.begin (α := List D × List D × Int) (fun x => [(5, made 169 x.1), (57, made 169 x.2.1)])
      (fun x => [(1, .imm 169 false B), (8, .int .u64 zi), (9, .top 5 0), (10, .imm 169 false VB), (11, .top 57 0), (12, .int .i64 x.2.2)])
      (fun x => ∃ (X k : Nat) (o : List Nat), x.1 = lim (dig (la + 1) X) ∧ x.2.1 = lim (List.replicate k 0 ++ o) ∧ x.2.2 = (k : Int) - 1 ∧ k + o.length = la - lb + 1 ∧ Word o ∧ X < V * B32 ^ k ∧
        X + V * (B32 ^ k * val o) = U) (fun x => (x.2.2 + 1).toNat) (UA, lim (List.replicate (la - lb + 1) 0), ((la - lb : Nat) : Int)) rfl rfl rfl
      ⟨rfl, hzi.symm, rfl, ?_, trivial⟩ ⟨rfl, by rw [← lim_zeros]; rfl, trivial⟩ ⟨U, la - lb + 1, [], hUA, (by rw [List.append_nil]), (by show ((la - lb : Nat) : Int) = ((la - lb + 1 : Nat) : Int) - 1; omega), rfl, (fun y hy => absurd hy List.not_mem_nil), hU1, (by rw [show val [] = 0 from rfl, Nat.mul_zero, Nat.mul_zero, Nat.add_zero])⟩ ?_
    · simp only [List.length_replicate]
      rw [wrap64 _ (by omega) (by omega)]; omega
    rintro ⟨E, Eq, ii⟩ ⟨X, k, o, hE, hEq, hi, ho, hwo, hX, hXU⟩ ih
    dsimp only at hE hEq hi ih ⊢
    have lE : E.length = la + 1 := by rw [hE, lim_length, dig_length]
    have lEq : Eq.length = la - lb + 1 := by rw [hEq, lim_length]; simp; omega
    obtain ⟨E', hE'⟩ : ∃ E', E' = lim (dig (la + 1) (X % B32 ^ (k - 1) + B32 ^ (k - 1) * (X / B32 ^ (k - 1) % V))) := ⟨_, rfl⟩
    obtain ⟨di, hdi⟩ : ∃ d : Int, d = (X / B32 ^ (k - 1) / V : Nat) := ⟨_, rfl⟩
    obtain ⟨RX, hRX⟩ : ∃ R, R = lim (limbs X) := ⟨_, rfl⟩
    refine Means.go progOK hJX [.fork [.call (.v (.int .u32 di)) [5] [(5, made 169 E')]] [.tell .frz 57, .tell .frz 5, .call (.v (.imm 169 true rq)) [] [], .call (.v (.imm 169 true RX)) [] [], .call (.v (.imm 169 true rr)) [] []]] 400 fun L Z hL hZ => ?_
    conv => cbv
    subst hL hZ
    dsimp only [std, deep]
    refine ⟨fun h => ?_, fun h => ?_⟩ <;> simp only [decide_eq_true_eq, decide_eq_false_iff_not] at h
    · obtain ⟨j, rfl⟩ : ∃ j, k = j + 1 := ⟨k - 1, by omega⟩
      simp only [Nat.add_sub_cancel] at hE' hdi
      obtain ⟨s1, s2, s3⟩ := div_step (lb := lb) (la := la) hX hV2 (by omega)
      have hR := Nat.mod_lt (X / B32 ^ j) hV0
      have s4 := s3 _ hR
      have hYB : X / B32 ^ j < B32 ^ (lb + 1) := by
        have : V * B32 < B32 ^ (lb + 1) := by rw [Nat.pow_succ]; exact Nat.mul_lt_mul_of_pos_right hV2 (by decide)
        omega
      have hd := hdg (dig j X) (dig (lb + 1) (X / B32 ^ j)) (dig (la - lb - j) 0) (dig_word _ _) (dig_length _ _) (by rw [dig_val, Nat.mod_eq_of_lt hYB]; exact s1) (by simp only [dig_length]; omega)
      rw [dig_val, Nat.mod_eq_of_lt hYB, dig_length, dig_length, ← s2, ← s4, ← hE, ← hE', ← hdi] at hd
      have e5 : IntKind.i64.wrap (ii + (B.length : Int)) = ((j + lb : Nat) : Int) := by rw [wrap64 _ (by omega) (by omega)]; omega
      have e6 : IntKind.i64.wrap (((j + lb : Nat) : Int) + 1) = ((j + lb + 1 : Nat) : Int) := by rw [wrap64 _ (by omega) (by omega)]; omega
      have lE' : E'.length = la + 1 := by rw [hE', lim_length, dig_length]
      have e7 : (((j + lb + 1 : Nat) : Int) - ii).toNat = lb + 1 := by omega
      have hq : X / B32 ^ j / V < B32 := by rw [Nat.div_lt_iff_lt_mul hV0, Nat.mul_comm]; exact s1
      rw [e5, e6, e7, show ii.toNat = j by omega]
      refine ⟨by omega, by omega, by omega, hd, by omega, by omega, by omega, trivial, ?_⟩
      rw [hdi, hEq, set_zero_end]
      refine (ih (E', _, ii - 1) ⟨_, j, X / B32 ^ j / V :: o, hE', rfl, (by show ii - 1 = (j : Int) - 1; omega), (by simp only [List.length_cons]; omega), ?_, ?_, ?_⟩ (by show (ii - 1 + 1).toNat < _; omega)).to rfl rfl rfl
        ⟨rfl, rfl, rfl, wrap64 _ (by omega) (by omega), trivial⟩ ⟨rfl, rfl, trivial⟩
      · intro y hy
        simp only [List.mem_cons] at hy
        rcases hy with rfl | hy
        · exact hq
        · exact hwo y hy
      · have h1 := Nat.mod_lt X (pow_pos32 j)
        have h2 : B32 ^ j * (X / B32 ^ j % V + 1) ≤ B32 ^ j * V := Nat.mul_le_mul_left _ hR
        rw [Nat.mul_succ] at h2
        rw [Nat.mul_comm V]; omega
      · rw [← hXU]
        have h1 := Nat.mod_add_div X (B32 ^ j)
        have h2 := Nat.mod_add_div (X / B32 ^ j) V
        have h3 := congrArg (B32 ^ j * ·) h2
        simp only [Nat.mul_add] at h3
        have h4 : V * (B32 ^ j * (X / B32 ^ j / V + B32 * val o)) = B32 ^ j * (V * (X / B32 ^ j / V)) + V * (B32 ^ (j + 1) * val o) := by
          rw [Nat.mul_add, Nat.mul_add, Nat.mul_left_comm V, Nat.pow_succ, Nat.mul_assoc (B32 ^ j) B32]
        rw [val, h4]; omega
    · have hk : k = 0 := by omega
      subst hk
      simp only [List.replicate_zero, List.nil_append, Nat.pow_zero, Nat.mul_one, Nat.one_mul] at hEq hX hXU
      have hq : val o = U / V := by rw [← hXU, Nat.add_mul_div_left _ _ hV0, Nat.div_eq_of_lt hX, Nat.zero_add]
      have hr : X = U % V := by rw [← hXU, Nat.add_mul_mod_self_left, Nat.mod_eq_of_lt hX]
      have t1 := trim_val o hwo (by omega)
      rw [hq, ← hdiv, hrq, ← hEq] at t1
      have t2 := trim_val (dig lb X) (dig_word _ _) (by rw [dig_length]; omega)
      have hXl : X < B32 ^ lb := by omega
      rw [dig_val, Nat.mod_eq_of_lt hXl, ← hRX] at t2
      have t3 := unshift_ok (limbs X) z (word_limbs _) (by have := limbs_length_le (dig_word lb X); rw [dig_val, Nat.mod_eq_of_lt hXl, dig_length] at this; omega) z1
      rw [val_limbs, ← hRX, ← hzi, hr, ← hmod, hrr] at t3
      have e5 : List.take ((B.length : Int) - 0).toNat (List.drop (Int.toNat 0) E) = lim (dig lb X) := by
        rw [show ((B.length : Int) - 0).toNat = lb by omega, show Int.toNat 0 = 0 from rfl, List.drop_zero, hE, show la + 1 = lb + (la + 1 - lb) by omega, dig_add lb, lim_append, List.take_left' (by rw [lim_length, dig_length])]
      rw [e5]
      exact ⟨t1, by decide, by omega, by omega, t2, t3, trivial, trivial, trivial⟩

end Go.VI

namespace Go.VI
open Go.Proofs
set_option maxRecDepth 20000

/-- A number by its sign and size. -/
def sg (neg : Bool) (n : Nat) : Int := if neg then -(n : Int) else n
def intD (neg : Bool) (l : List D) : D := .agg [.bool neg, .list l]
/-- A number of at most k limbs. -/
def Sz (k : Nat) (z : Int) : Prop := (limbs z.natAbs).length ≤ k

theorem bigD_int (z : Int) : bigD z = intD (decide (z < 0)) (lim (limbs z.natAbs)) := rfl
theorem sg_self (z : Int) : sg (decide (z < 0)) z.natAbs = z := by
  unfold sg; split <;> simp_all <;> omega

theorem mag0 (neg : Bool) (n : Nat) (h : (limbs n).length ≤ 1099511627776) : Ok Tryz.prog tab 173 [.agg 41 (intD neg (lim (limbs n)))] [] (.v (.imm 169 true (lim (limbs n)))) [] := by
  have := magnitude_ok neg (limbs n) (word_limbs _) h
  rwa [val_limbs] at this
theorem signed0 (neg : Bool) (n : Nat) (h : (limbs n).length ≤ 1099511627776) : Ok Tryz.prog tab 186 [.bool neg, .imm 169 false (lim (limbs n))] [] (.v (.agg 41 (bigD (sg neg n)))) [] := by
  have := signed_ok neg (limbs n) (word_limbs _) h
  rwa [val_limbs] at this

theorem limbs_len_of {n k : Nat} (h : n < B32 ^ k) : (limbs n).length ≤ k := by
  have := limbs_length_le (l := dig k n) (dig_word _ _)
  rwa [dig_val, Nat.mod_eq_of_lt h, dig_length] at this
theorem limbs_len_mul (a b : Nat) : (limbs (a * b)).length ≤ (limbs a).length + (limbs b).length := by
  refine limbs_len_of ?_
  rw [Nat.pow_add]; exact Nat.mul_lt_mul_of_lt_of_lt limbs_lt limbs_lt
theorem limbs_len_add (a b : Nat) {k : Nat} (ha : (limbs a).length ≤ k) (hb : (limbs b).length ≤ k) : (limbs (a + b)).length ≤ k + 1 := by
  refine limbs_len_of ?_
  have h7 : a < B32 ^ k := Nat.lt_of_lt_of_le limbs_lt (Nat.pow_le_pow_right (by decide) ha)
  have h8 : b < B32 ^ k := Nat.lt_of_lt_of_le limbs_lt (Nat.pow_le_pow_right (by decide) hb)
  rw [Nat.pow_succ]
  have : B32 ^ k * 2 ≤ B32 ^ k * B32 := Nat.mul_le_mul_left _ (by decide)
  omega
theorem Sz.mul {x y : Int} {k l : Nat} (hx : Sz k x) (hy : Sz l y) : Sz (k + l) (x * y) := by
  unfold Sz at *
  rw [Int.natAbs_mul]
  exact Nat.le_trans (limbs_len_mul _ _) (Nat.add_le_add hx hy)
theorem Sz.add {x y : Int} {k : Nat} (hx : Sz k x) (hy : Sz k y) : Sz (k + 1) (x + y) := by
  unfold Sz at *
  exact Nat.le_trans (limbs_mono (Int.natAbs_add_le x y)) (limbs_len_add _ _ hx hy)
theorem Sz.neg {x : Int} {k : Nat} (hx : Sz k x) : Sz k (-x) := by unfold Sz at *; rwa [Int.natAbs_neg]
theorem Sz.sub {x y : Int} {k : Nat} (hx : Sz k x) (hy : Sz k y) : Sz (k + 1) (x - y) := by rw [Int.sub_eq_add_neg]; exact hx.add hy.neg
theorem Sz.mono {x : Int} {k l : Nat} (hx : Sz k x) (h : k ≤ l) : Sz l x := Nat.le_trans hx h
theorem Sz.of_le {x y : Int} {k : Nat} (hx : Sz k x) (h : y.natAbs ≤ x.natAbs) : Sz k y := Nat.le_trans (limbs_mono h) hx

theorem laid_all (ys : List D) (els : List D) (h : els.length = ys.length) : laid els 0 (min ys.length els.length) ys = ys := by
  unfold laid
  rw [h, Nat.min_self, List.take_zero, List.nil_append, List.take_length, Nat.zero_add, List.drop_of_length_le (by omega), List.append_nil]

theorem normalize0 (neg : Bool) (n : Nat) (h : (limbs n).length ≤ 549755813888) : Ok Tryz.prog tab 185 [.agg 41 (intD neg (lim (limbs n)))] [] (.v (.agg 41 (bigD (sg neg n)))) [] := by
  have h1 := mag0 neg n (by omega)
  have h2 := signed0 neg n (by omega)
  have hl := lim_length (limbs n)
  generalize bigD (sg neg n) = r at *
  generalize lim (limbs n) = l at *
  unfold intD at *
  refine Ok.go progOK [] [.call (.v (.imm 169 true l)) [] [], .before 16 .frz 9, .call (.v (.agg 41 r)) [] []] 400 Tryz.func185 rfl rfl rfl fun J hX L Z hL hZ => ?_
  conv => cbv
  subst hL hZ
  dsimp only [std, deep]
  rw [laid_all _ _ (by simp)]
  exact ⟨h1, trivial, by omega, by omega, by omega, h2, trivial, trivial, trivial⟩

theorem neg_ok (z : Int) (h : Sz 549755813888 z) : Ok Tryz.prog tab 171 [.agg 41 (bigD z)] [] (.v (.agg 41 (bigD (-z)))) [] := by
  have h1 := normalize0 (decide (z < 0)) z.natAbs h
  rw [sg_self, ← bigD_int] at h1
  have h2 := signed0 (!decide (z < 0)) z.natAbs (Nat.le_trans h (by omega))
  have e : sg (!decide (z < 0)) z.natAbs = -z := by unfold sg; split <;> simp_all <;> omega
  rw [e] at h2
  rw [bigD_int] at h1 ⊢
  generalize bigD (-z) = r at *
  generalize lim (limbs z.natAbs) = l at *
  generalize decide (z < 0) = b at *
  unfold intD at *
  refine Ok.go progOK [] [.call (.v (.agg 41 (.agg [.bool b, .list l]))) [] [], .call (.v (.agg 41 r)) [] []] 400 Tryz.func171 rfl rfl rfl fun J hX L Z hL hZ => ?_
  conv => cbv
  subst hL hZ
  dsimp only [std, deep]
  exact ⟨h1, trivial, h2, trivial, trivial, trivial⟩

theorem mul0 (n1 n2 : Bool) (a b : Nat) (ha : (limbs a).length ≤ 274877906944) (hb : (limbs b).length ≤ 274877906944) :
    Ok Tryz.prog tab 134 [.agg 41 (intD n1 (lim (limbs a))), .agg 41 (intD n2 (lim (limbs b)))] [] (.v (.agg 41 (bigD (sg n1 a * sg n2 b)))) [] := by
  have h1 := mag0 n1 a (by omega)
  have h2 := mag0 n2 b (by omega)
  have h3 := times_ok (limbs a) (limbs b) (word_limbs _) (word_limbs _) (by omega) (by omega)
  rw [val_limbs, val_limbs] at h3
  have hl := limbs_len_mul a b
  have h4 := signed0 (!(n1 == n2)) (a * b) (by omega)
  have e : sg (!(n1 == n2)) (a * b) = sg n1 a * sg n2 b := by cases n1 <;> cases n2 <;> simp [sg, Int.neg_mul, Int.mul_neg]
  rw [e] at h4
  generalize bigD (sg n1 a * sg n2 b) = r at *
  generalize lim (limbs (a * b)) = lab at *
  generalize lim (limbs a) = la at *
  generalize lim (limbs b) = lb at *
  unfold intD at *
  refine Ok.go progOK [] [.call (.v (.imm 169 true la)) [] [], .call (.v (.imm 169 true lb)) [] [], .call (.v (.imm 169 true lab)) [] [], .call (.v (.agg 41 r)) [] []] 400 Tryz.func134 rfl rfl rfl fun J hX L Z hL hZ => ?_
  conv => cbv
  subst hL hZ
  dsimp only [std, deep]
  exact ⟨h1, h2, h3, h4, trivial, trivial, trivial⟩

theorem add0 (n1 n2 : Bool) (a b : Nat) (ha : (limbs a).length ≤ 274877906944) (hb : (limbs b).length ≤ 274877906944) :
    Ok Tryz.prog tab 133 [.agg 41 (intD n1 (lim (limbs a))), .agg 41 (intD n2 (lim (limbs b)))] [] (.v (.agg 41 (bigD (sg n1 a + sg n2 b)))) [] := by
  have h1 := mag0 n1 a (by omega)
  have h2 := mag0 n2 b (by omega)
  have h3 := plus_ok (limbs a) (limbs b) (word_limbs _) (word_limbs _) (by omega) (by omega)
  rw [val_limbs, val_limbs] at h3
  have h4 := compare_ok a b (by omega) (by omega)
  have h5 := fun h => minus_ok a b h (by omega)
  have h6 := fun h => minus_ok b a h (by omega)
  have hl := limbs_len_add a b ha hb
  have s1 := fun n => signed0 n (a + b) (by omega)
  have s2 := fun n => signed0 n (a - b) (Nat.le_trans (limbs_mono (Nat.sub_le _ _)) (by omega))
  have s3 := fun n => signed0 n (b - a) (Nat.le_trans (limbs_mono (Nat.sub_le _ _)) (by omega))
  obtain ⟨s, hs⟩ : ∃ s, ((a : Int) - b).sign = s := ⟨_, rfl⟩
  rw [hs] at h4
  have hbr : (s ≥ 0) ↔ b ≤ a := by
    rw [← hs]
    rcases Int.lt_trichotomy ((a : Int) - b) 0 with h | h | h
    · rw [Int.sign_eq_neg_one_of_neg h]; omega
    · rw [h]; simp; omega
    · rw [Int.sign_eq_one_of_pos h]; omega
  have e1 : n1 = n2 → sg n1 (a + b) = sg n1 a + sg n2 b := by rintro rfl; cases n1 <;> simp [sg] <;> omega
  have e2 : n1 ≠ n2 → b ≤ a → sg n1 (a - b) = sg n1 a + sg n2 b := by intro h h'; cases n1 <;> cases n2 <;> simp_all [sg] <;> omega
  have e3 : n1 ≠ n2 → a ≤ b → sg n2 (b - a) = sg n1 a + sg n2 b := by intro h h'; cases n1 <;> cases n2 <;> simp_all [sg] <;> omega
  generalize sg n1 a + sg n2 b = c at *
  generalize hr : bigD c = r at *
  generalize hp : lim (limbs (a + b)) = p at *
  generalize hm : lim (limbs (a - b)) = m at *
  generalize hm' : lim (limbs (b - a)) = m' at *
  generalize lim (limbs a) = la at *
  generalize lim (limbs b) = lb at *
  unfold intD at *
  refine Ok.go progOK [] [.call (.v (.imm 169 true la)) [] [], .call (.v (.imm 169 true lb)) [] [], .fork [.call (.v (.imm 169 true p)) [] [], .call (.v (.agg 41 r)) [] []]
    [.call (.v (.int .i64 s)) [] [], .fork [.call (.v (.imm 169 true m)) [] [], .call (.v (.agg 41 r)) [] []] [.call (.v (.imm 169 true m')) [] [], .call (.v (.agg 41 r)) [] []]]] 400 Tryz.func133 rfl rfl rfl fun J hX L Z hL hZ => ?_
  conv => cbv
  subst hL hZ
  dsimp only [std, deep]
  refine ⟨h1, h2, fun h => ?_, fun h => ⟨h4, fun h' => ?_, fun h' => ?_⟩⟩ <;> simp only [beq_iff_eq, beq_eq_false_iff_ne, ne_eq] at h
  · have s1' := s1 n1
    rw [e1 h, hr] at s1'
    exact ⟨h3, s1', trivial, trivial, trivial⟩
  · simp only [decide_eq_true_eq] at h'
    have hba := hbr.1 h'
    have s2' := s2 n1
    rw [e2 h hba, hr] at s2'
    exact ⟨h5 hba, s2', trivial, trivial, trivial⟩
  · simp only [decide_eq_false_iff_not] at h'
    have hab : a ≤ b := by
      rcases Nat.le_total a b with h'' | h''
      · exact h''
      · exact absurd (hbr.2 h'') h'
    have s3' := s3 n2
    rw [e3 h hab, hr] at s3'
    exact ⟨h6 hab, s3', trivial, trivial, trivial⟩

theorem sub0 (n1 n2 : Bool) (a b : Nat) (ha : (limbs a).length ≤ 274877906944) (hb : (limbs b).length ≤ 274877906944) :
    Ok Tryz.prog tab 230 [.agg 41 (intD n1 (lim (limbs a))), .agg 41 (intD n2 (lim (limbs b)))] [] (.v (.agg 41 (bigD (sg n1 a - sg n2 b)))) [] := by
  have h1 := add0 n1 (!n2) a b ha hb
  have e : sg n1 a + sg (!n2) b = sg n1 a - sg n2 b := by cases n2 <;> simp [sg] <;> omega
  rw [e] at h1
  generalize bigD (sg n1 a - sg n2 b) = r at *
  generalize lim (limbs a) = la at *
  generalize lim (limbs b) = lb at *
  unfold intD at *
  refine Ok.go progOK [] [.call (.v (.agg 41 r)) [] []] 400 Tryz.func230 rfl rfl rfl fun J hX L Z hL hZ => ?_
  conv => cbv
  subst hL hZ
  dsimp only [std, deep]
  exact ⟨h1, trivial, trivial, trivial⟩

/-- Sizes for which the memory lasts. -/
abbrev big : Nat := 274877906944

theorem add_ok (x y : Int) (hx : Sz big x) (hy : Sz big y) : Ok Tryz.prog tab 133 [.agg 41 (bigD x), .agg 41 (bigD y)] [] (.v (.agg 41 (bigD (x + y)))) [] := by
  have := add0 (decide (x < 0)) (decide (y < 0)) x.natAbs y.natAbs hx hy
  rwa [sg_self, sg_self] at this
theorem sub_ok (x y : Int) (hx : Sz big x) (hy : Sz big y) : Ok Tryz.prog tab 230 [.agg 41 (bigD x), .agg 41 (bigD y)] [] (.v (.agg 41 (bigD (x - y)))) [] := by
  have := sub0 (decide (x < 0)) (decide (y < 0)) x.natAbs y.natAbs hx hy
  rwa [sg_self, sg_self] at this
theorem mul_ok (x y : Int) (hx : Sz big x) (hy : Sz big y) : Ok Tryz.prog tab 134 [.agg 41 (bigD x), .agg 41 (bigD y)] [] (.v (.agg 41 (bigD (x * y)))) [] := by
  have := mul0 (decide (x < 0)) (decide (y < 0)) x.natAbs y.natAbs hx hy
  rwa [sg_self, sg_self] at this
theorem normalize_ok (x : Int) (hx : Sz big x) : Ok Tryz.prog tab 185 [.agg 41 (bigD x)] [] (.v (.agg 41 (bigD x))) [] := by
  have := normalize0 (decide (x < 0)) x.natAbs (Nat.le_trans hx (by decide))
  rwa [sg_self] at this

end Go.VI

namespace Go.VI
open Go.Proofs
set_option maxRecDepth 20000

theorem bigD_zero : bigD 0 = .agg [.bool false, .list []] := by simp [bigD, limbs_zero, lim]

/-- A variable of the call's own. -/
def boxed (t : Nat) (d : D) : Root := { e := t, els := [d], dep := 1, full := true, av := 0, held := false, keys := [], one := true }

theorem ediv_sg (n1 n2 : Bool) (a b : Nat) (hb : b ≠ 0) :
    (sg n1 a / sg n2 b = sg (!(n1 == n2)) (if n1 = true ∧ 0 < a % b then a / b + 1 else a / b)) ∧
    (sg n1 a % sg n2 b = ((if n1 = true ∧ 0 < a % b then b - a % b else a % b : Nat) : Int)) := by
  have hb0 : (0 : Int) < b := by omega
  have hm := Nat.mod_add_div a b
  have hl := Nat.mod_lt a (Nat.pos_of_ne_zero hb)
  have pos : (sg n1 a) / (b : Int) = sg n1 (if n1 = true ∧ 0 < a % b then a / b + 1 else a / b) ∧ (sg n1 a) % (b : Int) = ((if n1 = true ∧ 0 < a % b then b - a % b else a % b : Nat) : Int) := by
    rw [Int.ediv_emod_unique hb0]
    generalize a / b = q at *
    generalize a % b = r at *
    have hm2 : (r : Int) + (b : Int) * q = a := by rw [← hm]; simp
    cases n1
    · simp [sg]; omega
    · by_cases h : 0 < r
      · simp only [sg, h, and_self, if_true]
        refine ⟨?_, by omega, by omega⟩
        rw [← hm2, Int.mul_neg]
        have : ((b - r : Nat) : Int) = b - r := by omega
        rw [this, Int.natCast_add, Int.mul_add]; simp; omega
      · have : r = 0 := by omega
        subst this
        simp [sg]
        refine ⟨?_, by omega⟩
        rw [← hm2]; simp [Int.mul_neg]
  cases n2
  · have e : sg false b = (b : Int) := rfl
    rw [e]
    have : (!(n1 == false)) = n1 := by cases n1 <;> rfl
    rw [this]; exact pos
  · have e : sg true b = -(b : Int) := rfl
    rw [e, Int.ediv_neg, Int.emod_neg, pos.1, pos.2]
    refine ⟨?_, rfl⟩
    cases n1 <;> simp [sg]

theorem limbs_small {n : Nat} (h0 : n ≠ 0) (h : n < B32) : limbs n = [n] := by
  rw [limbs_pos h0, Nat.div_eq_of_lt h, limbs_zero, Nat.mod_eq_of_lt h]
theorem limbs_one : limbs 1 = [1] := limbs_small (by decide) (by decide)

theorem divmod0 (n1 n2 : Bool) (a b : Nat) (hb : b ≠ 0) (ha : (limbs a).length ≤ 274877906944) (hbl : (limbs b).length ≤ 274877906944) :
    Ok Tryz.prog tab 211 [.agg 41 (intD n1 (lim (limbs a))), .agg 41 (intD n2 (lim (limbs b)))] []
      (.tup [.v (.agg 41 (bigD (sg n1 a / sg n2 b))), .v (.agg 41 (bigD (sg n1 a % sg n2 b))), .v (.bool true)]) [] := by
  obtain ⟨e1, e2⟩ := ediv_sg n1 n2 a b hb
  rw [e1, e2]
  have h1 := mag0 n1 a (by omega)
  have h2 := mag0 n2 b (by omega)
  have h3 := divide_ok a b hb ha hbl
  have hq : (limbs (a / b)).length ≤ 274877906944 := Nat.le_trans (limbs_mono (Nat.div_le_self _ _)) ha
  have hr : (limbs (a % b)).length ≤ 274877906944 := Nat.le_trans (limbs_mono (Nat.mod_le _ _)) ha
  have hlt := Nat.mod_lt a (Nat.pos_of_ne_zero hb)
  have h4 := plus_ok (limbs (a / b)) [1] (word_limbs _) (by intro y hy; simp at hy; rw [hy]; decide) (by omega) (by simp)
  rw [val_limbs, show val [1] = 1 from rfl] at h4
  have h5 := minus_ok b (a % b) (by omega) (by omega)
  have hq1 := limbs_len_add (a / b) 1 hq (show (limbs 1).length ≤ 274877906944 by
    rw [limbs_one]; simp)
  have s1 := fun n => signed0 n (a / b) (by omega)
  have s2 := fun n => signed0 n (a / b + 1) (by omega)
  have s3 := signed0 false (a % b) (by omega)
  have s4 := signed0 false (b - a % b) (Nat.le_trans (limbs_mono (Nat.sub_le _ _)) (by omega))
  have z1 : (lim (limbs b)).length ≠ 0 := by rw [lim_length, limbs_pos hb]; simp
  have z2 : (0 < (lim (limbs (a % b))).length) ↔ 0 < a % b := by
    rw [lim_length]
    constructor
    · intro h
      rcases Nat.eq_zero_or_pos (a % b) with h' | h'
      · rw [h', limbs_zero] at h; simp at h
      · exact h'
    · intro h; rw [limbs_pos (by omega)]; simp
  have w1 : ∀ (k : Nat), bigD (sg false k) = bigD (k : Int) := fun k => rfl
  generalize hQ : sg (!(n1 == n2)) (if n1 = true ∧ 0 < a % b then a / b + 1 else a / b) = Q at *
  generalize hR : (if n1 = true ∧ 0 < a % b then b - a % b else a % b) = R at *
  generalize hD : bigD Q = dq at *
  generalize hE : bigD ((R : Nat) : Int) = dr at *
  generalize hA : lim (limbs a) = A at *
  generalize hB : lim (limbs b) = B at *
  generalize hq' : lim (limbs (a / b)) = lq at *
  generalize hr' : lim (limbs (a % b)) = lr at *
  generalize hq'' : lim (limbs (a / b + 1)) = lq1 at *
  generalize hr'' : lim (limbs (b - a % b)) = lr1 at *
  unfold intD at *
  refine Ok.go progOK [] [.call (.v (.imm 169 true B)) [] [], .fork [] [.call (.v (.imm 169 true A)) [] [], .call (.tup [.v (.imm 169 false lq), .v (.imm 169 false lr)]) [] [],
    .fork [.call (.v (.imm 169 true lq1)) [] [], .call (.v (.imm 169 true lr1)) [] []] [], .call (.v (.agg 41 dq)) [] [], .call (.v (.agg 41 dr)) [] []]] 400 Tryz.func211 rfl rfl rfl fun J hX L Z hL hZ => ?_
  conv => cbv
  subst hL hZ
  dsimp only [std, deep]
  have one : n1 = true ∧ 0 < a % b → Ok Tryz.prog tab 186 [.bool (!(n1 == n2)), .imm 169 false lq1] [] (.v (.agg 41 dq)) [] ∧
      Ok Tryz.prog tab 186 [.bool false, .imm 169 false lr1] [] (.v (.agg 41 dr)) [] := by
    intro h
    rw [if_pos h] at hQ hR
    have s2' := s2 (!(n1 == n2))
    rw [hQ, hD] at s2'
    rw [w1, hR, hE] at s4
    exact ⟨s2', s4⟩
  have two : ¬(n1 = true ∧ 0 < a % b) → Ok Tryz.prog tab 186 [.bool (!(n1 == n2)), .imm 169 false lq] [] (.v (.agg 41 dq)) [] ∧
      Ok Tryz.prog tab 186 [.bool false, .imm 169 false lr] [] (.v (.agg 41 dr)) [] := by
    intro h
    rw [if_neg h] at hQ hR
    have s1' := s1 (!(n1 == n2))
    rw [hQ, hD] at s1'
    rw [w1, hR, hE] at s3
    exact ⟨s1', s3⟩
  refine ⟨h2, fun h => ?_, fun h => ⟨h1, h3, fun hn => ⟨fun h' => ?_, fun h' => ?_⟩, fun hn => ⟨fun h' => by simp at h', fun _ => ?_⟩⟩⟩
  · simp only [beq_iff_eq] at h; omega
  · simp only [decide_eq_true_eq] at h'
    obtain ⟨o1, o2⟩ := one ⟨hn, z2.1 (by omega)⟩
    exact ⟨h4, h5, o1, o2, trivial, trivial, trivial, trivial, trivial, trivial⟩
  · simp only [decide_eq_false_iff_not] at h'
    obtain ⟨o1, o2⟩ := two (fun hh => by have := z2.2 hh.2; omega)
    exact ⟨o1, o2, trivial, trivial, trivial, trivial, trivial, trivial⟩
  · obtain ⟨o1, o2⟩ := two (fun hh => by rw [hn] at hh; simp at hh)
    exact ⟨o1, o2, trivial, trivial, trivial, trivial, trivial, trivial⟩

theorem divmod_ok (x y : Int) (hy0 : y ≠ 0) (hx : Sz big x) (hy : Sz big y) : Ok Tryz.prog tab 211 [.agg 41 (bigD x), .agg 41 (bigD y)] []
    (.tup [.v (.agg 41 (bigD (x / y))), .v (.agg 41 (bigD (x % y))), .v (.bool true)]) [] := by
  have := divmod0 (decide (x < 0)) (decide (y < 0)) x.natAbs y.natAbs (by omega) hx hy
  rwa [sg_self, sg_self] at this

theorem gcd_ok (x y : Int) (hx : Sz big x) (hy : Sz big y) : Ok Tryz.prog tab 210 [.agg 41 (bigD x), .agg 41 (bigD y)] [] (.v (.agg 41 (bigD (Int.gcd x y)))) [] := by
  have h1 := normalize_ok x hx
  have h2 := normalize_ok y hy
  obtain ⟨r, hr⟩ : ∃ r, bigD ((Int.gcd x y : Nat) : Int) = r := ⟨_, rfl⟩
  have hg : Int.gcd x y = Nat.gcd x.natAbs y.natAbs := rfl
  rw [hr]
  have hsx : (limbs x.natAbs).length ≤ big := hx
  have hsy : (limbs y.natAbs).length ≤ big := hy
  rw [bigD_int] at h1 h2 ⊢
  rw [bigD_int y]
  unfold intD at *
  generalize decide (x < 0) = b1 at *
  generalize decide (y < 0) = b2 at *
  generalize hp : x.natAbs = p at *
  generalize hq : y.natAbs = q at *
  obtain ⟨X, hX⟩ : ∃ X, lim (limbs p) = X := ⟨_, rfl⟩
  obtain ⟨Y, hY⟩ : ∃ Y, lim (limbs q) = Y := ⟨_, rfl⟩
  rw [hX] at h1 ⊢
  rw [hY] at h2 ⊢
  refine Ok.go progOK [] [.call (.v (.agg 41 (.agg [.bool b1, .list X]))) [] [], .call (.v (.agg 41 (.agg [.bool b2, .list Y]))) [] []] 400 Tryz.func210 rfl rfl rfl fun J hJX L Z hL hZ => ?_
  conv => cbv
  subst hL hZ
  dsimp only [std, deep]
  refine ⟨h1, h2, ?_⟩
  refine Means.begin (α := Nat × Nat) (fun _ => [(2, boxed 41 (.agg [.bool b1, .list X])), (3, boxed 41 (.agg [.bool b2, .list Y])), (4, boxed 41 (.agg [.bool false, .list []]))])
    (fun s => [(4, .addr 4 0 0 [] 41), (5, .imm 169 false (lim (limbs s.1))), (6, .imm 169 false (lim (limbs s.2)))])
    (fun s => (limbs s.1).length ≤ big ∧ (limbs s.2).length ≤ big ∧ Nat.gcd s.1 s.2 = Int.gcd x y) (fun s => s.2) (p, q) rfl rfl rfl ⟨rfl, hX.symm, hY.symm, trivial⟩ ⟨rfl, rfl, rfl, trivial⟩ ⟨hsx, hsy, hg.symm⟩ ?_
  rintro ⟨a, b⟩ ⟨ha, hb, hgab⟩ ih
  dsimp only at ha hb hgab ih ⊢
  have h3 := fun h => divide_ok a b h ha hb
  have s1 := signed0 false a (Nat.le_trans ha (by decide))
  have hl := lim_length (limbs b)
  obtain ⟨A, hA⟩ : ∃ A, lim (limbs a) = A := ⟨_, rfl⟩
  obtain ⟨B, hB⟩ : ∃ B, lim (limbs b) = B := ⟨_, rfl⟩
  obtain ⟨q0, hq0⟩ : ∃ B, lim (limbs (a / b)) = B := ⟨_, rfl⟩
  obtain ⟨r0, hr0⟩ : ∃ B, lim (limbs (a % b)) = B := ⟨_, rfl⟩
  rw [hA, hB, hq0, hr0] at h3
  rw [hA] at s1
  rw [hB] at hl
  rw [hA, hB]
  refine Means.go progOK hJX [.fork [.call (.tup [.v (.imm 169 false q0), .v (.imm 169 false r0)]) [] []] [.call (.v (.agg 41 r)) [] []]] 400 fun L Z hL hZ => ?_
  conv => cbv
  subst hL hZ
  dsimp only [std, deep]
  refine ⟨fun h => ?_, fun h => ?_⟩ <;> simp only [decide_eq_true_eq, decide_eq_false_iff_not] at h
  · have hb0 : b ≠ 0 := by
      rintro rfl
      have : B.length = 0 := by rw [hl, limbs_zero]; rfl
      omega
    refine ⟨h3 hb0, ?_⟩
    refine (ih (b, a % b) ⟨hb, Nat.le_trans (limbs_mono (Nat.mod_le _ _)) ha, by rw [← hgab, Nat.gcd_comm a b, Nat.gcd_rec b a, Nat.gcd_comm]⟩ (Nat.mod_lt _ (by omega))).to rfl rfl rfl ⟨rfl, hB.symm, hr0.symm, trivial⟩ ⟨rfl, rfl, rfl, trivial⟩
  · have hb0 : b = 0 := by
      rcases Nat.eq_zero_or_pos b with h' | h'
      · exact h'
      · rw [limbs_pos (by omega), List.length_cons] at hl; omega
    subst hb0
    rw [Nat.gcd_zero_right] at hgab
    have e : sg false a = ((Int.gcd x y : Nat) : Int) := by rw [← hgab]; rfl
    rw [e, hr] at s1
    exact ⟨s1, trivial, trivial, trivial⟩

theorem cmp_ok (x y : Int) (hx : Sz big x) (hy : Sz big y) : Ok Tryz.prog tab 124 [.agg 41 (bigD x), .agg 41 (bigD y)] [] (.v (.int .i64 ((x - y).sign))) [] := by
  have h1 := sign_ok x (Nat.le_trans hx (by decide))
  have h2 := sign_ok y (Nat.le_trans hy (by decide))
  have h3 := mag0 (decide (x < 0)) x.natAbs (Nat.le_trans hx (by decide))
  have h4 := mag0 (decide (y < 0)) y.natAbs (Nat.le_trans hy (by decide))
  have h5 := compare_ok x.natAbs y.natAbs (Nat.le_trans hx (by decide)) (Nat.le_trans hy (by decide))
  have k1 : x.sign ≠ y.sign → x.sign < y.sign → (x - y).sign = -1 := by
    intro h h'
    rcases Int.lt_trichotomy x 0 with hx | hx | hx <;> rcases Int.lt_trichotomy y 0 with hy | hy | hy <;>
      simp only [Int.sign_eq_neg_one_of_neg, Int.sign_eq_one_of_pos, hx, hy, Int.sign_zero, ne_eq, not_true_eq_false] at h h' <;> first | omega | (exact Int.sign_eq_neg_one_of_neg (by omega))
  have k2 : x.sign ≠ y.sign → ¬x.sign < y.sign → (x - y).sign = 1 := by
    intro h h'
    rcases Int.lt_trichotomy x 0 with hx | hx | hx <;> rcases Int.lt_trichotomy y 0 with hy | hy | hy <;>
      simp only [Int.sign_eq_neg_one_of_neg, Int.sign_eq_one_of_pos, hx, hy, Int.sign_zero, ne_eq, not_true_eq_false] at h h' <;> first | omega | (exact Int.sign_eq_one_of_pos (by omega))
  have k3 : x.sign = y.sign → x.sign * ((x.natAbs : Int) - y.natAbs).sign = (x - y).sign := by
    intro h
    rcases Int.lt_trichotomy x 0 with hx | hx | hx <;> rcases Int.lt_trichotomy y 0 with hy | hy | hy <;>
      simp only [Int.sign_eq_neg_one_of_neg, Int.sign_eq_one_of_pos, hx, hy, Int.sign_zero] at h ⊢ <;> first | omega | skip
    · rw [show x - y = -((x.natAbs : Int) - y.natAbs) by omega, Int.sign_neg]; omega
    · simp
    · rw [show x - y = ((x.natAbs : Int) - y.natAbs) by omega]; omega
  have k4 : -1 ≤ (x - y).sign ∧ (x - y).sign ≤ 1 := by
    rcases Int.lt_trichotomy (x - y) 0 with h | h | h
    · rw [Int.sign_eq_neg_one_of_neg h]; omega
    · rw [h]; simp
    · rw [Int.sign_eq_one_of_pos h]; omega
  rw [bigD_int] at h1 h2 ⊢
  rw [bigD_int y]
  unfold intD at *
  generalize (x - y).sign = r at *
  generalize ((x.natAbs : Int) - y.natAbs).sign = c at *
  generalize x.sign = s at *
  generalize y.sign = t at *
  generalize lim (limbs x.natAbs) = X at *
  generalize lim (limbs y.natAbs) = Y at *
  generalize decide (x < 0) = b1 at *
  generalize decide (y < 0) = b2 at *
  refine Ok.go progOK [] [.call (.v (.int .i64 s)) [] [], .call (.v (.int .i64 t)) [] [], .fork [.both] [.call (.v (.imm 169 true X)) [] [], .call (.v (.imm 169 true Y)) [] [], .call (.v (.int .i64 c)) [] []]] 400 Tryz.func124 rfl rfl rfl fun J hJX L Z hL hZ => ?_
  conv => cbv
  subst hL hZ
  dsimp only [std, deep]
  refine ⟨h1, h2, fun h => ⟨fun h' => ?_, fun h' => ?_⟩, fun h => ?_⟩ <;> simp only [bne_iff_ne, ne_eq, bne_eq_false_iff_eq] at h
  · simp only [decide_eq_true_eq] at h'
    exact ⟨(k1 h h').symm, trivial⟩
  · simp only [decide_eq_false_iff_not] at h'
    exact ⟨(k2 h h').symm, trivial⟩
  · refine ⟨h3, h4, h5, ?_, trivial⟩
    rw [k3 h, wrap64 _ (by omega) (by omega)]

end Go.VI
