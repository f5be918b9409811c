/- A row within a row of the call's own: told by itself, and told within again. The program's limbs: adding, subtracting. Digits, a given number of them; bits of numbers. The program's limbs: short division, shifts. The program's limbs: shifting back; the length of a word in bits. The program's limbs: multiplying. -/
import Derived.Test.YtnnikgdmdmbooaaGreatJ07
set_option linter.unusedVariables false
set_option linter.unusedSimpArgs false
namespace Go.VI

def foldTags (g : Tags) (r i K : Nat) : Tags := fun b o => match g b o with
  | .own r' q k => if r' = K then .own r (i :: q) k else .own r' q k
  | t => t

def unfoldTags (g : Tags) (r i K : Nat) : Tags := fun b o => match g b o with
  | .own r' (x :: q) k => if r' = r ∧ x = i then .own K q k else .own r' (x :: q) k
  | t => t

def dropV (K : Nat) (x : VV) : VV := bif (keysOf x).contains K then .dead else x

def foldR (root rk : Root) (i K : Nat) : Root :=
  { root with els := root.els.set i (.list rk.els), keys := root.keys.filter fun k => !eqb k K }

def unfoldK (root : Root) (e i : Nat) : Root := { e := e, els := (root.els.getD i .nil).els, dep := 1, full := true, av := 0, held := true, keys := [] }
def unfoldR (root : Root) (i K : Nat) : Root := { root with els := root.els.set i (.key K), keys := K :: root.keys }

section
variable {P : Program} {T : Tab} {C : Ctx} {g : Tags} {w : World} {rv : Nat → Value} {ρ : Roots} {sl : List VV} {a : Act}

theorem DR.zero {T : Tab} {g : Tags} {w : World} {rv : Nat → Value} {ks : Nat → Prop} {r : Nat} {p : List Nat} {s : Sh} {d : D} {vs : List Value} (h : DR T g w rv ks (.own r p 0) s d vs)
    (rv' : Nat → Value) (ks' : Nat → Prop) (r' : Nat) (p' : List Nat) : DR T g w rv' ks' (.own r' p' 0) s d vs :=
  (h.imm_of_zero (.inr ⟨r, p, rfl⟩) rv ks).zero_of_imm rfl r' p' rv' ks'

/-- A reading at depth 0 sees only what nobody writes. -/
theorem DR.zero_agree {T : Tab} {g g' : Tags} {w : World} {rv : Nat → Value} {ks : Nat → Prop} {r : Nat} {p : List Nat} {s : Sh} {d : D} {vs : List Value} (h : DR T g w rv ks (.own r p 0) s d vs)
    (hg : ∀ b o, g b o = .imm → g' b o = .imm) (rv' : Nat → Value) (ks' : Nat → Prop) (r' : Nat) (p' : List Nat) : DR T g' w rv' ks' (.own r' p' 0) s d vs := by
  have h1 := h.imm_of_zero (.inr ⟨r, p, rfl⟩) rv ks
  have h2 : DR T g' w rv ks .imm s d vs := h1.agree (fun b o v hc hv => by
    have : g b o = .imm := by revert hc; cases g b o <;> simp [Cov]
    exact ⟨by rw [this]; exact hg b o this, hv, rfl⟩) (fun _ h => ⟨h, rfl⟩)
  exact h2.zero_of_imm rfl r' p' rv' ks'

theorem foldTags_imm {r i K b o : Nat} (h : g b o = .imm) : foldTags g r i K b o = .imm := by simp [foldTags, h]
theorem unfoldTags_imm {r i K b o : Nat} (h : g b o = .imm) : unfoldTags g r i K b o = .imm := by simp [unfoldTags, h]

theorem keysOf_names {K : Nat} {x : VV} (h : (keysOf x).contains K = false) {av : Nat} : ¬ Names K av x := by
  intro hn
  have := names_keys hn
  have : (keysOf x).contains K = true := by rw [List.contains_iff_mem]; exact this
  rw [h] at this; simp at this

theorem foldTags_cases {r i K b o r' k : Nat} {q : List Nat} (h : foldTags g r i K b o = .own r' q k) : (r' ≠ K ∧ g b o = .own r' q k) ∨ (r' = r ∧ ∃ q', g b o = .own K q' k) := by
  unfold foldTags at h
  cases hg : g b o with
  | imm => rw [hg] at h; simp at h
  | hid => rw [hg] at h; simp at h
  | own r2 q2 k2 =>
    rw [hg] at h
    simp only at h
    by_cases e : r2 = K
    · rw [if_pos e] at h
      simp only [Tag.own.injEq] at h
      exact .inr ⟨h.1.symm, q2, by rw [e, h.2.2]⟩
    · rw [if_neg e] at h
      simp only [Tag.own.injEq] at h
      obtain ⟨rfl, rfl, rfl⟩ := h
      exact .inl ⟨e, rfl⟩

theorem R.fold (h : R T C g w rv ρ sl a) {r i K : Nat} {root rk : Root} (hr : ρ r = some root) (hK : ρ K = some rk) (hne : K ≠ r)
    (hdep : root.dep = 2) (hkd : rk.dep = 1) (hkf : rk.full = true) (hkk : rk.keys = []) (ht : T.ty root.e = some (.slice rk.e)) (hi : i < root.els.length) (hkey : root.els.getD i .nil = .key K)
    (honce : ∀ j, j < root.els.length → j ≠ i → root.els.getD j .nil ≠ .key K) (hoth : ∀ k rk', ρ k = some rk' → k ≠ r → K ∉ rk'.keys)
    (hCr : C.hdr r = none) (hCK : C.hdr K = none) (hown : ∀ b o r q k, C.g0 b o = .own r q k → (C.hdr r).isSome) :
    R T C (foldTags g r i K) w rv ((ρ.del K).set r (foldR root rk i K)) (sl.map (dropV K)) a := by
  have look : ∀ k rk', ρ k = some rk' → k ≠ K → k ≠ r → ((ρ.del K).set r (foldR root rk i K)) k = some rk' := by
    intro k rk' h1 h2 h3
    simp [Roots.set, Roots.del, h2, h3, h1]
  have lookr : ((ρ.del K).set r (foldR root rk i K)) r = some (foldR root rk i K) := by simp [Roots.set]
  have inv : ∀ k rk', ((ρ.del K).set r (foldR root rk i K)) k = some rk' → (k = r ∧ rk' = foldR root rk i K) ∨ (k ≠ r ∧ k ≠ K ∧ ρ k = some rk') := by
    intro k rk' h1
    simp only [Roots.set, Roots.del] at h1
    split at h1
    · rename_i e; simp only [Option.some.injEq] at h1; exact .inl ⟨e, h1.symm⟩
    · rename_i e
      split at h1
      · simp at h1
      · rename_i e2; exact .inr ⟨e, e2, h1⟩
  have keep : ∀ {x : VV} {v : Value}, SR T g w rv ρ x v → Live ρ x → (keysOf x).contains K = false →
      SR T (foldTags g r i K) w rv ((ρ.del K).set r (foldR root rk i K)) x v ∧ Live ((ρ.del K).set r (foldR root rk i K)) x := by
    intro x v hx hl hk
    refine ⟨hx.keep (fun b o u hb hu => ⟨foldTags_imm hb, hu, rfl⟩) hl (fun r' av hn => ⟨fun root1 root2 k1 k2 => .inl ?_⟩), fun r' av hn => ?_⟩
    · have hnK : r' ≠ K := fun e => keysOf_names hk (e ▸ hn)
      rcases inv r' root2 k2 with ⟨rfl, rfl⟩ | ⟨_, _, h3⟩
      · rw [hr] at k1; simp only [Option.some.injEq] at k1; subst k1
        exact ⟨rfl, by simp [foldR], rfl, rfl⟩
      · rw [k1] at h3; simp only [Option.some.injEq] at h3; subst h3
        exact ⟨rfl, rfl, rfl, rfl⟩
    · have hnK : r' ≠ K := fun e => keysOf_names hk (e ▸ hn)
      obtain ⟨root', k1, k2⟩ := hl r' av hn
      by_cases e : r' = r
      · subst e
        rw [hr] at k1; simp only [Option.some.injEq] at k1; subst k1
        exact ⟨_, lookr, k2⟩
      · exact ⟨root', look r' root' k1 hnK e, k2⟩
  refine ⟨⟨h.ev.os, h.ev.tape, h.ev.output, h.ev.size, h.ev.blk, h.ev.cell, h.ev.froz, h.ev.has, fun b o hb => ?_⟩, h.defers, by simpa using h.len, fun j x v hx hv => ?_, fun j x hx => ?_, fun k rk' hk' => ?_, fun b o k q j hg => ?_, fun k rk' hk' K' hK' => ?_, ?_⟩
  · rw [← h.ev.tags b o hb]
    unfold foldTags
    cases hg : g b o with
    | imm => rfl
    | hid => rfl
    | own r' q k =>
      have : r' ≠ K := by
        rintro rfl
        have := hown b o r' q k (by rw [← h.ev.tags b o hb]; exact hg)
        rw [hCK] at this; simp at this
      simp [this]
  · simp only [List.getElem?_map, Option.map_eq_some_iff] at hx
    obtain ⟨y, hy, rfl⟩ := hx
    unfold dropV
    cases hc : (keysOf y).contains K with
    | true => exact .dead
    | false => exact (keep (h.slots j y v hy hv) (h.names j y hy) hc).1
  · simp only [List.getElem?_map, Option.map_eq_some_iff] at hx
    obtain ⟨y, hy, rfl⟩ := hx
    unfold dropV
    cases hc : (keysOf y).contains K with
    | true => exact fun r av hn => by cases hn
    | false =>
      have hlt : j < a.tmps.size := by
        rw [← h.len]
        rcases Nat.lt_or_ge j sl.length with h' | h'
        · exact h'
        · rw [List.getElem?_eq_none h'] at hy; simp at hy
      exact (keep (h.slots j y a.tmps[j] hy (by simp [hlt])) (h.names j y hy) hc).2
  · rcases inv k rk' hk' with ⟨rfl, rfl⟩ | ⟨e1, e2, e3⟩
    · have hRr := h.roots k root hr
      have hRK := h.roots K rk hK
      have ownr : ∀ b o q j, g b o = .own k q j → foldTags g k i K b o = .own k q j := fun b o q j hg => by simp [foldTags, hg, Ne.symm hne]
      have ownK : ∀ b o q j, g b o = .own K q j → foldTags g k i K b o = .own k (i :: q) j := fun b o q j hg => by simp [foldTags, hg]
      refine ⟨hRr.dep, ?_, fun hf => ?_, fun b o c h2 j h3 h4 => ?_, ?_⟩
      · obtain ⟨A, c, b, o, us, e1, e2, e3, e4, e5, e6⟩ := hRr.dr.node_invC
        have hlen : (D.list (foldR root rk i K).els).els.length = (D.list root.els).els.length := by simp [foldR, D.els]
        rw [e1, ← hlen]
        refine DR.node (d := .list (foldR root rk i K).els) A c b o us (fun hn => e2 (by
          intro e0; apply hn; simp only [D.els, foldR] at e0 ⊢; rw [e0]; rfl)) (by rw [hlen]; exact e3) (by rw [hlen]; exact e4) (fun i' k' v hi' hv => ?_) (fun i' hi' => ?_)
        · rw [hlen] at hi'
          obtain ⟨m1, m2, m3⟩ := e5 i' k' v hi' hv
          refine ⟨m1, ?_, m3⟩
          have m2' : g b (o + i' * T.sz root.e + k') = .own k [] (i' * T.sz root.e + k') := by
            rw [m2, hdep]; rfl
          show foldTags g k i K b (o + i' * T.sz root.e + k') = _
          rw [ownr _ _ _ _ m2', show (foldR root rk i K).dep = 2 from hdep]; rfl
        · rw [hlen] at hi'
          have hel := e6 i' hi'
          have hm : (Mode.own k [] root.dep).elem i' = .own k [i'] 1 := by rw [hdep]; rfl
          have hm' : (Mode.own k [] (foldR root rk i K).dep).elem i' = .own k [i'] 1 := by rw [show (foldR root rk i K).dep = 2 from hdep]; rfl
          rw [hm] at hel
          rw [hm']
          show DR T (foldTags g k i K) w rv _ (.own k [i'] 1) (.val root.e) ((foldR root rk i K).els.getD i' .nil) (us i')
          by_cases hii : i' = i
          · subst hii
            have hkey' : (D.list root.els).els.getD i' .nil = .key K := hkey
            rw [hkey'] at hel
            obtain ⟨u1, u2⟩ := hel.key_inv ht
            rw [u1]
            have hget : (foldR root rk i' K).els.getD i' .nil = .list rk.els := by
              simp only [foldR]
              rw [getD_set, if_pos ⟨rfl, hi⟩]
            rw [hget]
            refine .sl ht (fun K' e => by cases e) ?_
            obtain ⟨A', c', b', o', us', f1, f2, f3, f4, f5, f6⟩ := hRK.dr.node_inv
            obtain ⟨A2, f7⟩ := hRK.full hkf
            simp only [List.cons.injEq, and_true] at f1
            have hc' : c' = rk.els.length := by
              rw [f1] at f7
              simp only [Value.slice.injEq] at f7
              exact f7.2.2
            rw [f1]
            refine DR.node (d := .list rk.els) A' c' b' o' us' f2 hc' f4 (fun j k' v hj hv => ?_) (fun j hj => ?_)
            · obtain ⟨m1, m2, m3⟩ := f5 j k' v hj hv
              have m2' : g b' (o' + j * T.sz rk.e + k') = .own K [] (j * T.sz rk.e + k') := by
                rw [m2, hkd]; rfl
              exact ⟨m1, by rw [ownK _ _ _ _ m2']; rfl, fun _ => m3 (by rw [hkd]; simp [Mode.tag])⟩
            · have hel2 := f6 j hj
              have hm2 : (Mode.own K [] rk.dep).elem j = .own K [j] 0 := by rw [hkd]; rfl
              rw [hm2] at hel2
              exact hel2.zero_agree (fun b o hb => foldTags_imm hb) _ _ _ _
          · have hget : (foldR root rk i K).els.getD i' .nil = root.els.getD i' .nil := by
              simp only [foldR]
              rw [getD_set, if_neg (fun e => hii e.1.symm)]
            rw [hget]
            have hel' : DR T g w rv (· ∈ root.keys) (.own k [i'] 1) (.val root.e) (root.els.getD i' .nil) (us i') := hel
            have hon := honce i' hi' hii
            generalize hd : root.els.getD i' .nil = d at hel' hon
            by_cases hkd' : ∃ K', d = .key K'
            · obtain ⟨K', rfl⟩ := hkd'
              obtain ⟨u1, u2⟩ := hel'.key_inv ht
              rw [u1]
              refine .key ht ?_
              simp only [foldR, List.mem_filter, Bool.not_eq_true']
              exact ⟨u2, nbeq.2 fun e => hon (by rw [e])⟩
            · have hnk : ∀ K', d ≠ .key K' := fun K' e => hkd' ⟨K', e⟩
              have hs := hel'.slice_inv ht hnk
              obtain ⟨A', c', b', o', us', f1, f2, f3, f4, f5, f6⟩ := hs.node_invC
              refine .sl ht hnk ?_
              rw [f1]
              refine DR.node A' c' b' o' us' f2 f3 f4 (fun j k' v hj hv => ?_) (fun j hj => ?_)
              · obtain ⟨m1, m2, m3⟩ := f5 j k' v hj hv
                exact ⟨m1, ownr _ _ _ _ m2, m3⟩
              · exact (f6 j hj).zero_agree (fun b o hb => foldTags_imm hb) _ _ _ _
      · obtain ⟨A, hA⟩ := hRr.full hf
        exact ⟨A, by simpa [foldR] using hA⟩
      · have hl : (foldR root rk i K).els.length = root.els.length := by simp [foldR]
        rw [hl] at h2 h3
        obtain ⟨m1, m2, m3⟩ := hRr.spare b o c h2 j h3 h4
        exact ⟨m1, ownr _ _ _ _ m2, m3⟩
      · have hl : (foldR root rk i K).els.length = root.els.length := by simp [foldR]
        rw [hl]; exact hRr.form
    · have hRk := h.roots k rk' e3
      have own : ∀ b o q j, g b o = .own k q j → foldTags g r i K b o = .own k q j := fun b o q j hg => by simp [foldTags, hg, e2]
      refine ⟨hRk.dep, ?_, hRk.full, fun b o c h2 j h3 h4 => ?_, hRk.form⟩
      · refine hRk.dr.agree (fun b o v hc hv => ⟨?_, hv, rfl⟩) (fun K' hK' => ⟨hK', rfl⟩)
        cases hg : g b o with
        | imm => exact foldTags_imm hg
        | hid => rw [hg] at hc; simp [Cov] at hc
        | own r' q j =>
          rw [hg] at hc
          have : r' = k := hc.1
          subst this
          exact own b o q j hg
      · obtain ⟨m1, m2, m3⟩ := hRk.spare b o c h2 j h3 h4
        exact ⟨m1, own _ _ _ _ m2, m3⟩
  · rcases foldTags_cases hg with ⟨h1, h2⟩ | ⟨h1, _⟩
    · obtain ⟨rk', h3⟩ := Option.isSome_iff_exists.1 (h.live b o k q j h2)
      by_cases e : k = r
      · subst e; rw [lookr]; rfl
      · rw [look k rk' h3 h1 e]; rfl
    · subst h1; rw [lookr]; rfl
  · rcases inv k rk' hk' with ⟨rfl, rfl⟩ | ⟨e1, e2, e3⟩
    · simp only [foldR, List.mem_filter, Bool.not_eq_true'] at hK'
      have hn : K' ≠ K := nbeq.1 hK'.2
      obtain ⟨rK, m1, m2⟩ := h.held k root hr K' hK'.1
      by_cases e : K' = k
      · subst e
        rw [hr] at m1; simp only [Option.some.injEq] at m1; subst m1
        exact ⟨_, lookr, m2⟩
      · exact ⟨rK, look K' rK m1 hn e, m2⟩
    · obtain ⟨rK, m1, m2⟩ := h.held k rk' e3 K' hK'
      have hn : K' ≠ K := fun e => hoth k rk' e3 e1 (e ▸ hK')
      by_cases e : K' = r
      · subst e
        rw [hr] at m1; simp only [Option.some.injEq] at m1; subst m1
        exact ⟨_, lookr, m2⟩
      · exact ⟨rK, look K' rK m1 hn e, m2⟩
  · intro k av v hkv
    obtain ⟨rk', h1, h2, h3⟩ := h.hdr k av v hkv
    have n1 : k ≠ K := by rintro rfl; rw [hCK] at hkv; simp at hkv
    have n2 : k ≠ r := by rintro rfl; rw [hCr] at hkv; simp at hkv
    exact ⟨rk', look k rk' h1 n1 n2, h2, h3⟩

theorem unfoldTags_cases {r i K b o r' k : Nat} {q : List Nat} (h : unfoldTags g r i K b o = .own r' q k) : r' = K ∨ g b o = .own r' q k := by
  unfold unfoldTags at h
  split at h
  · rename_i r2 x q2 k2 hg
    split at h
    · simp only [Tag.own.injEq] at h
      exact .inl h.1.symm
    · right; rw [hg]; exact h
  · exact .inr h

theorem R.unfold (h : R T C g w rv ρ sl a) {r i K e : Nat} {root : Root} (hr : ρ r = some root) (hK : ρ K = none)
    (hdep : root.dep = 2) (ht : T.ty root.e = some (.slice e)) (hi : i < root.els.length) (hnk : ∀ K', root.els.getD i .nil ≠ .key K')
    (hCr : C.hdr r = none) (hown : ∀ b o r q k, C.g0 b o = .own r q k → (C.hdr r).isSome) :
    ∃ g' rv', R T C g' w rv' ((ρ.set K (unfoldK root e i)).set r (unfoldR root i K)) sl a := by
  have hne : K ≠ r := by rintro rfl; rw [hr] at hK; simp at hK
  have hRr := h.roots r root hr
  obtain ⟨A, c, b, o, us, e1, e2, e3, e4, e5, e6⟩ := hRr.dr.node_invC
  have hm : ∀ i', (Mode.own r [] root.dep).elem i' = .own r [i'] 1 := by intro i'; rw [hdep]; rfl
  have heli := e6 i hi
  rw [hm] at heli
  obtain ⟨A', c', b', o', us', f1, f2, f3, f4, f5, f6⟩ := (heli.slice_inv ht hnk).node_invC
  have hgd : (D.list root.els).els.getD i .nil = root.els.getD i .nil := rfl
  rw [hgd] at f1 f2 f3 f4 f5 f6
  have hc' : c' = (root.els.getD i .nil).els.length := f3
  obtain ⟨V, hV⟩ : ∃ V, V = Value.slice A' (root.els.getD i .nil).els.length c' := ⟨_, rfl⟩
  rw [← hV] at f1
  have rvo : ∀ k, k ≠ K → newRv rv K V k = rv k := fun k hk => by simp [newRv, hk]
  have rvK : newRv rv K V K = V := by simp [newRv]
  refine ⟨unfoldTags g r i K, newRv rv K V, ?_⟩
  have look : ∀ k rk', ρ k = some rk' → k ≠ r → ((ρ.set K (unfoldK root e i)).set r (unfoldR root i K)) k = some rk' := by
    intro k rk' h1 h3
    have h2 : k ≠ K := by rintro rfl; rw [hK] at h1; simp at h1
    simp [Roots.set, h2, h3, h1]
  have lookr : ((ρ.set K (unfoldK root e i)).set r (unfoldR root i K)) r = some (unfoldR root i K) := by simp [Roots.set]
  have lookK : ((ρ.set K (unfoldK root e i)).set r (unfoldR root i K)) K = some (unfoldK root e i) := by simp [Roots.set, hne]
  have inv : ∀ k rk', ((ρ.set K (unfoldK root e i)).set r (unfoldR root i K)) k = some rk' → (k = r ∧ rk' = unfoldR root i K) ∨ (k = K ∧ rk' = unfoldK root e i) ∨ (k ≠ r ∧ k ≠ K ∧ ρ k = some rk') := by
    intro k rk' h1
    simp only [Roots.set] at h1
    split at h1
    · rename_i e; simp only [Option.some.injEq] at h1; exact .inl ⟨e, h1.symm⟩
    · rename_i e
      split at h1
      · rename_i e2; simp only [Option.some.injEq] at h1; exact .inr (.inl ⟨e2, h1.symm⟩)
      · rename_i e2; exact .inr (.inr ⟨e, e2, h1⟩)
  have keep : ∀ {x : VV} {v : Value}, SR T g w rv ρ x v → Live ρ x →
      SR T (unfoldTags g r i K) w (newRv rv K V) ((ρ.set K (unfoldK root e i)).set r (unfoldR root i K)) x v ∧ Live ((ρ.set K (unfoldK root e i)).set r (unfoldR root i K)) x := by
    intro x v hx hl
    refine ⟨hx.keep (fun b o u hb hu => ⟨unfoldTags_imm hb, hu, rfl⟩) hl (fun r' av hn => ⟨fun root1 root2 k1 k2 => .inl ?_⟩), fun r' av hn => ?_⟩
    · have hnK : r' ≠ K := by rintro rfl; rw [hK] at k1; simp at k1
      rcases inv r' root2 k2 with ⟨rfl, rfl⟩ | ⟨rfl, _⟩ | ⟨_, _, h3⟩
      · rw [hr] at k1; simp only [Option.some.injEq] at k1; subst k1
        exact ⟨rfl, by simp [unfoldR], rfl, rvo _ hnK⟩
      · exact absurd rfl hnK
      · rw [k1] at h3; simp only [Option.some.injEq] at h3; subst h3
        exact ⟨rfl, rfl, rfl, rvo _ hnK⟩
    · obtain ⟨root', k1, k2⟩ := hl r' av hn
      by_cases e : r' = r
      · subst e
        rw [hr] at k1; simp only [Option.some.injEq] at k1; subst k1
        exact ⟨_, lookr, k2⟩
      · exact ⟨root', look r' root' k1 e, k2⟩
  have heldK : ∀ k rk', ρ k = some rk' → K ∉ rk'.keys := by
    intro k rk' h1 hm
    obtain ⟨rK, m1, _⟩ := h.held k rk' h1 K hm
    rw [hK] at m1; simp at m1
  have noK : ∀ b o q k, g b o ≠ .own K q k := by
    intro b o q k hg
    have := h.live b o K q k hg
    rw [hK] at this; simp at this
  have ownr : ∀ b o j, g b o = .own r [] j → unfoldTags g r i K b o = .own r [] j := fun b o j hg => by simp [unfoldTags, hg]
  have ownj : ∀ b o x q j, x ≠ i → g b o = .own r (x :: q) j → unfoldTags g r i K b o = .own r (x :: q) j := fun b o x q j hx hg => by simp [unfoldTags, hg, hx]
  have owni : ∀ b o q j, g b o = .own r (i :: q) j → unfoldTags g r i K b o = .own K q j := fun b o q j hg => by simp [unfoldTags, hg]
  have owno : ∀ b o r' q j, r' ≠ r → g b o = .own r' q j → unfoldTags g r i K b o = .own r' q j := by
    intro b o r' q j hn hg
    unfold unfoldTags
    rw [hg]
    cases q with
    | nil => rfl
    | cons x q => simp [hn]
  refine ⟨⟨h.ev.os, h.ev.tape, h.ev.output, h.ev.size, h.ev.blk, h.ev.cell, h.ev.froz, h.ev.has, fun b o hb => ?_⟩, h.defers, h.len, fun j x v hx hv => (keep (h.slots j x v hx hv) (h.names j x hx)).1, fun j x hx => ?_, fun k rk' hk' => ?_, fun b o k q j hg => ?_, fun k rk' hk' K' hK' => ?_, ?_⟩
  · rw [← h.ev.tags b o hb]
    cases hg : g b o with
    | imm => exact unfoldTags_imm hg
    | hid => unfold unfoldTags; rw [hg]
    | own r' q k =>
      have : r' ≠ r := by
        rintro rfl
        have := hown b o r' q k (by rw [← h.ev.tags b o hb]; exact hg)
        rw [hCr] at this; simp at this
      exact owno _ _ _ _ _ this hg
  · have hlt : j < a.tmps.size := by
      rw [← h.len]
      rcases Nat.lt_or_ge j sl.length with h' | h'
      · exact h'
      · rw [List.getElem?_eq_none h'] at hx; simp at hx
    exact (keep (h.slots j x a.tmps[j] hx (by simp [hlt])) (h.names j x hx)).2
  · rcases inv k rk' hk' with ⟨rfl, rfl⟩ | ⟨rfl, rfl⟩ | ⟨g1, g2, g3⟩
    · have hnk' : k ≠ K := fun e => hne e.symm
      have hl : (unfoldR root i K).els.length = root.els.length := by simp [unfoldR]
      have lk := rvo k hnk'
      refine ⟨hRr.dep, ?_, fun hf => ?_, fun b o c h2 j h3 h4 => ?_, ?_⟩
      · have hlen : (D.list (unfoldR root i K).els).els.length = (D.list root.els).els.length := by simp [unfoldR, D.els]
        rw [rvo k hnk', e1, ← hlen]
        refine DR.node (d := .list (unfoldR root i K).els) A c b o us (fun hn => e2 (by
          intro e0; apply hn; simp only [D.els, unfoldR] at e0 ⊢; rw [e0]; rfl)) (by rw [hlen]; exact e3) (by rw [hlen]; exact e4) (fun i' k' v hi' hv => ?_) (fun i' hi' => ?_)
        · rw [hlen] at hi'
          obtain ⟨m1, m2, m3⟩ := e5 i' k' v hi' hv
          refine ⟨m1, ?_, m3⟩
          have m2' : g b (o + i' * T.sz root.e + k') = .own k [] (i' * T.sz root.e + k') := by
            rw [m2, hdep]; rfl
          show unfoldTags g k i K b (o + i' * T.sz root.e + k') = _
          rw [ownr _ _ _ m2', show (unfoldR root i K).dep = 2 from hdep]; rfl
        · rw [hlen] at hi'
          have hel := e6 i' hi'
          have hm' : (Mode.own k [] (unfoldR root i K).dep).elem i' = .own k [i'] 1 := by rw [show (unfoldR root i K).dep = 2 from hdep]; rfl
          rw [hm] at hel
          rw [hm']
          show DR T (unfoldTags g k i K) w (newRv rv K V) _ (.own k [i'] 1) (.val root.e) ((unfoldR root i K).els.getD i' .nil) (us i')
          by_cases hii : i' = i
          · subst hii
            have hget : (unfoldR root i' K).els.getD i' .nil = .key K := by
              simp only [unfoldR]
              rw [getD_set, if_pos ⟨rfl, hi⟩]
            rw [hget, f1, show [V] = [newRv rv K V K] from by rw [rvK]]
            exact .key ht (show K ∈ K :: root.keys from List.mem_cons_self)
          · have hget : (unfoldR root i K).els.getD i' .nil = root.els.getD i' .nil := by
              simp only [unfoldR]
              rw [getD_set, if_neg (fun e => hii e.1.symm)]
            rw [hget]
            have hel' : DR T g w rv (· ∈ root.keys) (.own k [i'] 1) (.val root.e) (root.els.getD i' .nil) (us i') := hel
            refine hel'.agree (fun b o v hc hv => ⟨?_, hv, rfl⟩) (fun K' hK' => ⟨by simp [unfoldR, hK'], rvo K' (fun e => heldK k root hr (e ▸ hK'))⟩)
            cases hg : g b o with
            | imm => exact unfoldTags_imm hg
            | hid => rw [hg] at hc; simp [Cov] at hc
            | own r' q j =>
              rw [hg] at hc
              obtain ⟨rfl, s, rfl⟩ := hc
              exact ownj _ _ _ _ _ hii hg
      · obtain ⟨A, hA⟩ := hRr.full hf
        exact ⟨A, by rw [rvo k hnk', hl]; exact hA⟩
      · rw [rvo k hnk', hl] at h2
        rw [hl] at h3
        obtain ⟨m1, m2, m3⟩ := hRr.spare b o c h2 j h3 h4
        exact ⟨m1, ownr _ _ _ m2, m3⟩
      · rw [rvo k hnk', hl]; exact hRr.form
    · refine ⟨Nat.one_pos, ?_, fun _ => ⟨A', by rw [rvK, hV, hc']; rfl⟩, fun b2 o2 c2 h2 j h3 h4 => ?_, ?_⟩
      · rw [rvK, hV]
        refine DR.node (d := .list (unfoldK root e i).els) A' c' b' o' us' f2 (by rw [hc']; exact Mode.Cap.refl _ _) f4 (fun j k' v hj hv => ?_) (fun j hj => ?_)
        · obtain ⟨m1, m2, m3⟩ := f5 j k' v hj hv
          exact ⟨m1, owni _ _ _ _ m2, fun _ => m3 (by simp [Mode.tag])⟩
        · exact (f6 j hj).zero_agree (fun b o hb => unfoldTags_imm hb) _ _ _ _
      · rw [rvK, hV] at h2
        simp only [Value.slice.injEq] at h2
        obtain ⟨-, -, rfl⟩ := h2
        exfalso
        rw [hc'] at h4
        exact absurd h4 (Nat.not_lt.2 h3)
      · rw [rvK, hV]
        by_cases hn : (root.els.getD i .nil).els = []
        · right
          have h0 : (root.els.getD i .nil).els.length = 0 := by rw [hn]; rfl
          exact ⟨A', by rw [hc', h0]⟩
        · left
          exact ⟨b', o', c', by rw [f2 hn]; rfl⟩
    · have hRk := h.roots k rk' g3
      have own : ∀ b o q j, g b o = .own k q j → unfoldTags g r i K b o = .own k q j := fun b o q j hg => owno _ _ _ _ _ g1 hg
      refine ⟨hRk.dep, ?_, by rw [rvo k g2]; exact hRk.full, fun b o c h2 j h3 h4 => ?_, by rw [rvo k g2]; exact hRk.form⟩
      · rw [rvo k g2]
        refine hRk.dr.agree (fun b o v hc hv => ⟨?_, hv, rfl⟩) (fun K' hK' => ⟨hK', rvo K' (fun e => heldK k rk' g3 (e ▸ hK'))⟩)
        cases hg : g b o with
        | imm => exact unfoldTags_imm hg
        | hid => rw [hg] at hc; simp [Cov] at hc
        | own r' q j =>
          rw [hg] at hc
          have : r' = k := hc.1
          subst this
          exact own b o q j hg
      · rw [rvo k g2] at h2
        obtain ⟨m1, m2, m3⟩ := hRk.spare b o c h2 j h3 h4
        exact ⟨m1, own _ _ _ _ m2, m3⟩
  · rcases unfoldTags_cases hg with rfl | h2
    · rw [lookK]; rfl
    · obtain ⟨rk', h3⟩ := Option.isSome_iff_exists.1 (h.live b o k q j h2)
      by_cases e : k = r
      · subst e; rw [lookr]; rfl
      · rw [look k rk' h3 e]; rfl
  · have find : ∀ k rk', ρ k = some rk' → K' ∈ rk'.keys → ∃ rK, ((ρ.set K (unfoldK root e i)).set r (unfoldR root i K)) K' = some rK ∧ rK.held = true := by
      intro k rk' g3 hK'
      obtain ⟨rK, m1, m2⟩ := h.held k rk' g3 K' hK'
      by_cases e : K' = r
      · subst e
        rw [hr] at m1; simp only [Option.some.injEq] at m1; subst m1
        exact ⟨_, lookr, m2⟩
      · exact ⟨rK, look K' rK m1 e, m2⟩
    rcases inv k rk' hk' with ⟨rfl, rfl⟩ | ⟨rfl, rfl⟩ | ⟨g1, g2, g3⟩
    · simp only [unfoldR, List.mem_cons] at hK'
      rcases hK' with rfl | hK'
      · exact ⟨_, lookK, rfl⟩
      · exact find k root hr hK'
    · simp [unfoldK] at hK'
    · exact find k rk' g3 hK'
  · intro k av v hkv
    obtain ⟨rk', h1, h2, h3⟩ := h.hdr k av v hkv
    have n1 : k ≠ K := by rintro rfl; rw [hK] at h1; simp at h1
    have n2 : k ≠ r := by rintro rfl; rw [hCr] at hkv; simp at hkv
    exact ⟨rk', look k rk' h1 n2, h2, fun e => by rw [rvo k n1]; exact h3 e⟩

def dropS (K : Nat) : SL → SL
  | [] => []
  | (i, x) :: l => (i, dropV K x) :: dropS K l

theorem getS_drop (K : Nat) : ∀ (sl : SL) (k : Nat), getS (dropS K sl) k = dropV K (getS sl k)
  | [], k => by simp [dropS, getS, dropV, keysOf]
  | (i, x) :: l, k => by
    simp only [dropS, getS]
    cases eqb i k with
    | true => rfl
    | false => exact getS_drop K l k

theorem slots_drop (n K : Nat) (sl : SL) : (slots n sl).map (dropV K) = slots n (dropS K sl) := by
  apply List.ext_getElem
  · simp [slots]
  · intro i h1 h2
    simp [slots, getS_drop]

/-- The row K, which the row r holds at its place i, is told within r. -/
theorem Means.fold {J : Job} {X : Cfg} (hX : CfgOK P J X) {n : Nat} {todo : List Item} {rl : RL} {sl : SL} (r i K : Nat) {root rk : Root} (hr : getR rl r = some root) (hK : getR rl K = some rk)
    (hs : (!eqb K r && eqb root.dep 2 && eqb rk.dep 1 && rk.full && rk.keys.isEmpty && (rl.all fun x => eqb x.1 r || !(x.2.keys.contains K)) && !((X.inn.map (·.1)).contains r) && !((X.inn.map (·.1)).contains K)) = true)
    (ht : T.ty root.e = some (.slice rk.e)) (hi : i < root.els.length) (hkey : root.els.getD i .nil = .key K)
    (honce : ∀ j, j < root.els.length → j ≠ i → root.els.getD j .nil ≠ .key K)
    (h : Means P T J n (.fin todo) (setR (delR rl K) r (foldR root rk i K)) (dropS K sl)) : Means P T J n (.fin todo) rl sl := by
  simp only [Bool.and_eq_true, Bool.not_eq_true', List.isEmpty_iff] at hs
  obtain ⟨⟨⟨⟨⟨⟨⟨s1, s2⟩, s3⟩, s4⟩, s5⟩, s6⟩, s7⟩, s8⟩ := hs
  replace s2 := eq_of_eqb s2
  replace s3 := eq_of_eqb s3
  have hdrn : ∀ k, (X.inn.map (·.1)).contains k = false → J.C.hdr k = none := by
    intro k hk
    show J.hdr k = none
    rw [hX.job.hdr, hX.inn]
    rw [ofList_none (by simpa using hk)]; rfl
  intro g w rv a hR
  have hoth : ∀ k rk', toRoots rl k = some rk' → k ≠ r → K ∉ rk'.keys := by
    intro k rk' h1 h2 h3
    rw [List.all_eq_true] at s6
    have hm : ∀ (l : RL), getR l k = some rk' → (k, rk') ∈ l := by
      intro l
      induction l with
      | nil => intro h; simp [getR] at h
      | cons z l ih =>
        obtain ⟨j, y⟩ := z
        intro h
        simp only [getR] at h
        cases hb : eqb j k with
        | true =>
          have : j = k := eq_of_eqb hb
          rw [hb] at h
          simp only [cond_true, Option.some.injEq] at h
          rw [this, h]; simp
        | false =>
          rw [hb] at h
          simp only [cond_false] at h
          exact List.mem_cons_of_mem _ (ih h)
    have := s6 _ (hm rl h1)
    simp only [Bool.or_eq_true, Bool.not_eq_true'] at this
    rcases this with e | e
    · exact h2 (eq_of_eqb e)
    · rw [← List.contains_iff_mem, e] at h3; simp at h3
  have := R.fold hR (r := r) (i := i) (K := K) hr hK (nbeq.1 s1) s2 s3 s4 s5 ht hi hkey honce hoth (hdrn r s7) (hdrn K s8) hX.job.own
  refine h (foldTags g r i K) w rv a ?_
  rw [slots_drop] at this
  have e1 : toRoots (setR (delR rl K) r (foldR root rk i K)) = ((toRoots rl).del K).set r (foldR root rk i K) := by
    rw [toRoots_set]; congr 1; funext k; simp only [toRoots, Roots.del, getR_del]
  rw [e1]; exact this

/-- The row that r has at its place i is told by itself, as K. -/
theorem Means.unfold {J : Job} {X : Cfg} (hX : CfgOK P J X) {n : Nat} {todo : List Item} {rl : RL} {sl : SL} (r i K e : Nat) {root : Root} (hr : getR rl r = some root) (hK : getR rl K = none)
    (hs : (eqb root.dep 2 && !((X.inn.map (·.1)).contains r)) = true)
    (ht : T.ty root.e = some (.slice e)) (hi : i < root.els.length) (hnk : ∀ K', root.els.getD i .nil ≠ .key K')
    (h : Means P T J n (.fin todo) (setR (setR rl K (unfoldK root e i)) r (unfoldR root i K)) sl) : Means P T J n (.fin todo) rl sl := by
  simp only [Bool.and_eq_true, Bool.not_eq_true'] at hs
  obtain ⟨s2, s7⟩ := hs
  replace s2 := eq_of_eqb s2
  have hdrn : ∀ k, (X.inn.map (·.1)).contains k = false → J.C.hdr k = none := by
    intro k hk
    show J.hdr k = none
    rw [hX.job.hdr, hX.inn]
    rw [ofList_none (by simpa using hk)]; rfl
  intro g w rv a hR
  obtain ⟨g', rv', h1⟩ := R.unfold hR (r := r) (i := i) (K := K) hr hK s2 ht hi hnk (hdrn r s7) hX.job.own
  refine h g' w rv' a ?_
  rw [toRoots_set, toRoots_set]; exact h1

theorem ofList_mem : ∀ {l : List (Nat × Root)} {r : Nat} {root : Root}, ofList l r = some root → (r, root) ∈ l
  | [], r, root, h => by simp [ofList, ups, noRoots] at h
  | (k, x) :: l, r, root, h => by
    rw [ofList_cons] at h
    split at h
    · rename_i z hz
      simp only [Option.some.injEq] at h; subst h
      exact List.mem_cons_of_mem _ (ofList_mem hz)
    · split at h
      · rename_i e
        simp only [Option.some.injEq] at h; subst h; subst e
        exact List.mem_cons_self
      · simp at h

/-- A function that writes rows of its caller's. -/
theorem Ok.goI (hP : ProgOK P T) {f : FuncId} {fn : Func} {body : Code} {args : List VV} {inn : List (Nat × Root)} {res : RV} {out : List (Nat × Root)} (hint : List (Nat × Sup)) (cs : List Cmd) (fuel : Nat)
    (hfn : P.funcs[f]? = some fn) (hname : (fn.name == "runtime.NumGoroutine") = false) (hbody : fn.body = some body) (hlen : Nat.ble args.length fn.ntmps = true)
    (hs : (inn.all fun x => ltb x.1 (RK 0) && x.2.keys.isEmpty) = true)
    (h : ∀ J : Job, CfgOK P J { n := fn.ntmps, hint, results := fn.results.toList, res, inn, out } → ∀ (L : Leaf) (Z : Deep), std = L → deep P T J fn.ntmps = Z →
      vc L Z T { n := fn.ntmps, hint, results := fn.results.toList, res, inn, out } fuel (.fin [.code body]) (upsR [] inn) (enumS 0 args) cs) : Ok P T f args inn res out := by
  rw [List.all_eq_true] at hs
  refine Ok.run hP hint cs fuel hfn hname hbody (Nat.le_of_ble_eq_true hlen) (fun r hr => ?_) (fun r root hr => ?_) fun J hX => h J hX std _ rfl rfl
  · obtain ⟨root, hr⟩ := Option.isSome_iff_exists.1 hr
    have := hs _ (ofList_mem hr)
    simp only [Bool.and_eq_true, ltb_eq] at this
    exact this.1
  · have := hs _ (ofList_mem hr)
    simp only [Bool.and_eq_true, List.isEmpty_iff] at this
    exact this.2

/-- A loop, begun from a state that is told in the loop's words. -/
theorem Means.begin {J : Job} {n : Nat} {c : Code} {k : List Item} {rl0 : RL} {sl0 : SL} {o1 o2 : List Prop} {α : Type} (rl : α → RL) (sl : α → SL) (I : α → Prop) (μ : α → Nat) (x : α)
    (h1 : weakSlots sl0 (sl x) = some o1) (h2 : weakRoots rl0 (rl x) = some o2) (hx : extra rl0 (rl x) = none) (ho1 : AllP o1) (ho2 : AllP o2) (hI : I x)
    (hbody : ∀ x, I x → (∀ y, I y → μ y < μ x → Means P T J n (.fin (.inLoop c :: k)) (rl y) (sl y)) → Means P T J n (.fin (.code c :: .inLoop c :: k)) (rl x) (sl x)) :
    Means P T J n (.fin (.code (.loop c) :: k)) rl0 sl0 :=
  Means.weak h1 h2 hx ho1 ho2 (Means.loop rl sl I μ hbody x hI)

/-- Two ways that meet again. -/
theorem Means.ite {J : Job} {n : Nat} {c : Operand} {x y : Code} {k : List Item} {rl : RL} {sl : SL} (b : Bool) (rl2 : RL) (sl2 : SL) (hc : unb (evL n sl c) = .bool b)
    (h1 : b = true → Means P T J n (.fin k) rl2 sl2 → Means P T J n (.fin (.code x :: k)) rl sl) (h2 : b = false → Means P T J n (.fin k) rl2 sl2 → Means P T J n (.fin (.code y :: k)) rl sl)
    (h3 : Means P T J n (.fin k) rl2 sl2) : Means P T J n (.fin (.code (.cond c x y) :: k)) rl sl :=
  Fin.cond (by rw [sval_ev]; exact hc) (fun e => h1 e h3) (fun e => h2 e h3)

/-- A loop that is left in several ways, which meet behind it. -/
theorem Means.begin2 {J : Job} {n i : Nat} {c : Code} {cont : List Item} {rl0 : RL} {sl0 : SL} {o1 o2 : List Prop} {α β : Type} (rl : α → RL) (sl : α → SL) (I : α → Prop) (μ : α → Nat) (x : α) (rl2 : β → RL) (sl2 : β → SL) (Post : β → Prop)
    (h1 : weakSlots sl0 (sl x) = some o1) (h2 : weakRoots rl0 (rl x) = some o2) (hx : extra rl0 (rl x) = none) (ho1 : AllP o1) (ho2 : AllP o2) (hI : I x)
    (hbody : ∀ x, I x → (∀ y, I y → μ y < μ x → Means P T J n (.fin (.inLoop c :: .inBlock i :: cont)) (rl y) (sl y)) → (∀ z, Post z → Means P T J n (.fin cont) (rl2 z) (sl2 z)) →
      Means P T J n (.fin (.code c :: .inLoop c :: .inBlock i :: cont)) (rl x) (sl x))
    (hpost : ∀ z, Post z → Means P T J n (.fin cont) (rl2 z) (sl2 z)) :
    Means P T J n (.fin (.code (.loop c) :: .inBlock i :: cont)) rl0 sl0 :=
  Means.begin rl sl I μ x h1 h2 hx ho1 ho2 hI fun x hx ih => hbody x hx ih hpost

theorem Means.to {J : Job} {n : Nat} {todo : List Item} {rl rl' : RL} {sl sl' : SL} {o1 o2 : List Prop} (h : Means P T J n (.fin todo) rl' sl') (h1 : weakSlots sl sl' = some o1) (h2 : weakRoots rl rl' = some o2) (hx : extra rl rl' = none)
    (ho1 : AllP o1) (ho2 : AllP o2) : Means P T J n (.fin todo) rl sl := Means.weak h1 h2 hx ho1 ho2 h

end
end Go.VI

namespace Go.VI
open Go.Proofs
set_option maxRecDepth 20000

theorem wrapu64 {n : Int} (h0 : 0 ≤ n) (h1 : n < 18446744073709551616) : IntKind.u64.wrap n = n := by rw [IntKind.wrap_u64]; omega
theorem wrapu32 (n : Int) : IntKind.u32.wrap n = n % 4294967296 := by rw [IntKind.wrap_u32]

/-- A row that the call has made. -/
def made (e : Nat) (els : List D) : Root := { e := e, els := els, dep := 1, full := true, av := 0, held := false, keys := [] }

theorem set_mid {α : Type} (o : List α) (x y : α) (l : List α) : (o ++ y :: l).set o.length x = o ++ x :: l := by
  induction o with
  | nil => rfl
  | cons a o ih => simp only [List.cons_append, List.length_cons, List.set_cons_succ, ih]

theorem set_fill {α : Type} (o : List α) (x z : α) (n : Nat) (h : o.length < n) : (o ++ List.replicate (n - o.length) z).set o.length x = (o ++ [x]) ++ List.replicate (n - (o ++ [x]).length) z := by
  obtain ⟨k, hk⟩ : ∃ k, n - o.length = k + 1 := ⟨n - o.length - 1, by omega⟩
  rw [hk, List.replicate_succ, set_mid]
  simp only [List.length_append, List.length_cons, List.length_nil, List.append_assoc, List.cons_append, List.nil_append]
  rw [show n - (o.length + (0 + 1)) = k by omega]

theorem word_get {a : List Nat} (h : Word a) (i : Nat) : a.getD i 0 < B32 := by
  rw [List.getD_eq_getElem?_getD]
  cases e : a[i]? with
  | none => simp
  | some x => exact h x (List.mem_of_getElem? e)

theorem limb_ok (a : List Nat) (i : Nat) (hi : i ≤ 1099511627776) (ha : a.length ≤ 1099511627776) (hw : Word a) : Ok Tryz.prog tab 231 [.imm 169 false (lim a), .int .i64 i] [] (.v (.int .u64 (a.getD i 0))) [] := by
  have ll := lim_length a
  have lg := lim_get a i
  have lb : a.getD i 0 < 4294967296 := word_get hw i
  have l0 : a.length ≤ i → a.getD i 0 = 0 := fun h => by simp [List.getD_eq_getElem?_getD, h]
  generalize lim a = l at ll lg ⊢
  generalize a.getD i 0 = x at *
  generalize hj : ((i : Nat) : Int) = j at *
  have hj2 : j.toNat = i := by omega
  refine Ok.go progOK [] [.both] 400 Tryz.func231 rfl rfl rfl fun J hX L Z hL hZ => ?_
  conv => cbv
  subst hL hZ
  dsimp only [std, deep]
  refine ⟨fun h => ?_, fun h => ?_⟩ <;> simp only [decide_eq_true_eq, decide_eq_false_iff_not] at h
  · rw [hj2, lg, wrapu64 (by omega) (by omega)]
    exact ⟨by omega, h, rfl, trivial⟩
  · rw [l0 (by omega)]
    exact ⟨rfl, trivial⟩

theorem lim_zeros (n : Nat) : List.replicate n (D.int 0) = lim (List.replicate n 0) := by simp [lim]

theorem word_take {a : List Nat} (h : Word a) (n : Nat) : Word (a.take n) := fun x hx => h x (List.mem_of_mem_take hx)
theorem val_take_succ (a : List Nat) (i : Nat) : val (a.take (i + 1)) = val (a.take i) + B32 ^ i * a.getD i 0 := by
  rcases Nat.lt_or_ge i a.length with h | h
  · rw [List.take_succ_eq_append_getElem h, val_append, List.length_take, Nat.min_eq_left (by omega)]
    simp [val, List.getD_eq_getElem?_getD, h]
  · rw [List.take_of_length_le (by omega), List.take_of_length_le h]
    simp [List.getD_eq_getElem?_getD, h]
theorem word_snoc {o : List Nat} (h : Word o) {x : Nat} (hx : x < B32) : Word (o ++ [x]) := word_append.2 ⟨h, fun y hy => by simp at hy; omega⟩
theorem val_snoc (o : List Nat) (x : Nat) : val (o ++ [x]) = val o + B32 ^ o.length * x := by rw [val_append]; simp [val]

theorem lim_fill (o : List Nat) (n x : Nat) (h : o.length < n) (d : D) : (lim (o ++ List.replicate (n - o.length) 0)).set o.length (d.put [] (.int (x : Int))) = lim ((o ++ [x]) ++ List.replicate (n - (o ++ [x]).length) 0) := by
  rw [show d.put [] (.int (x : Int)) = .int (x : Int) from rfl, lim_set, set_fill _ _ _ _ h]
theorem shr32 (u : Int) : u.fdiv (2 ^ min (Int.toNat 32) IntKind.u64.bits) = u / 4294967296 := by
  rw [show (2 : Int) ^ min (Int.toNat 32) IntKind.u64.bits = 4294967296 from by decide, Int.fdiv_eq_ediv_of_nonneg _ (by decide)]
theorem shr63 (u : Int) : u.fdiv (2 ^ min (Int.toNat 63) IntKind.u64.bits) = u / 9223372036854775808 := by
  rw [show (2 : Int) ^ min (Int.toNat 63) IntKind.u64.bits = 9223372036854775808 from by decide, Int.fdiv_eq_ediv_of_nonneg _ (by decide)]
/-- One limb more. -/
theorem val_carry (o : List Nat) (c t s : Nat) (p : Nat) (hp : B32 ^ o.length = p) (h : val o + p * c = t) : val (o ++ [(c + s) % B32]) + p * B32 * ((c + s) / B32) = t + p * s := by
  rw [val_snoc, hp, Nat.add_assoc, Nat.mul_assoc, ← Nat.mul_add, Nat.mod_add_div, Nat.mul_add]; omega
theorem pow_snoc (o : List Nat) (x : Nat) : B32 ^ (o ++ [x]).length = B32 ^ o.length * B32 := by simp [Nat.pow_succ]

theorem plus_ok (a b : List Nat) (ha : Word a) (hb : Word b) (la : a.length ≤ 549755813888) (lb : b.length ≤ 549755813888) :
    Ok Tryz.prog tab 206 [.imm 169 false (lim a), .imm 169 false (lim b)] [] (.v (.imm 169 true (lim (limbs (val a + val b))))) [] := by
  generalize hr : lim (limbs (val a + val b)) = r
  have lla := lim_length a
  have llb := lim_length b
  have limA := fun i hi => limb_ok a i hi (by omega) ha
  have limB := fun i hi => limb_ok b i hi (by omega) hb
  generalize lim a = A at *
  generalize lim b = B at *
  refine Ok.go progOK [] [] 400 Tryz.func206 rfl rfl rfl fun J hX L Z hL hZ => ?_
  conv => cbv
  subst hL hZ
  dsimp only [std, deep]
  obtain ⟨n, hn⟩ : ∃ n : Nat, (if (B.length : Int) > A.length then (B.length : Int) else A.length) = n := ⟨max A.length B.length, by split <;> omega⟩
  have hna : a.length ≤ n ∧ b.length ≤ n ∧ n ≤ 549755813888 := by
    split at hn <;> omega
  have hw : IntKind.i64.wrap ((n : Int) + 1) = (n + 1 : Nat) := wrap64 _ (by omega) (by omega)
  rw [hn, hw]
  refine ⟨trivial, by omega, by omega, by omega, ?_⟩
  refine Means.weak (rl' := [(16, made 169 (lim (List.replicate (n + 1) 0)))])
    (sl' := [(0, .imm 169 false A), (1, .imm 169 false B), (5, .int .i64 n), (6, .top 16 0), (7, .int .u64 0), (17, .int .i64 n), (18, .int .i64 0)]) rfl rfl rfl
    ⟨rfl, rfl, rfl, rfl, rfl, rfl, trivial⟩ ⟨by rw [← lim_zeros]; rfl, trivial⟩ ?_
  generalize hni : ((n : Nat) : Int) = ni at *
  refine Means.loop (α := List D × Int × Int) (fun x => [(16, made 169 x.1)])
    (fun x => [(0, .imm 169 false A), (1, .imm 169 false B), (5, .int .i64 ni), (6, .top 16 0), (7, .int .u64 x.2.1), (17, .int .i64 ni), (18, .int .i64 x.2.2)])
    (fun x => ∃ (o : List Nat) (c : Nat), x.1 = lim (o ++ List.replicate (n + 1 - o.length) 0) ∧ x.2.1 = c ∧ x.2.2 = o.length ∧ o.length ≤ n ∧ Word o ∧ c ≤ 1 ∧
      val o + B32 ^ o.length * c = val (a.take o.length) + val (b.take o.length)) (fun x => n - x.2.2.toNat) ?_ (lim (List.replicate (n + 1) 0), 0, 0)
    ⟨[], 0, rfl, rfl, rfl, by simp, by intro y hy; simp at hy, by omega, by simp [val]⟩
  rintro ⟨E, ci, i⟩ ⟨o, c, hE, hci, hi, ho, hwo, hc, hv⟩ ih
  dsimp only at hE hci hi ih ⊢
  have qA := limA o.length (by omega)
  have qB := limB o.length (by omega)
  have bA : a.getD o.length 0 < 4294967296 := word_get ha _
  have bB : b.getD o.length 0 < 4294967296 := word_get hb _
  have tA := val_take_succ a o.length
  have tB := val_take_succ b o.length
  rw [← hi] at qA qB
  generalize a.getD o.length 0 = x at *
  generalize b.getD o.length 0 = y at *
  generalize hx : ((x : Nat) : Int) = xi at *
  generalize hy : ((y : Nat) : Int) = yi at *
  have lE : E.length = n + 1 := by rw [hE, lim_length]; simp; omega
  refine Means.go progOK hX [.fork [.call (.v (.int .u64 xi)) [] [], .call (.v (.int .u64 yi)) [] []] [.before 44 .frz 16, .call (.v (.imm 169 true r)) [] []]] 400 fun L Z hL hZ => ?_
  conv => cbv
  subst hL hZ
  dsimp only [std, deep]
  refine ⟨fun h => ?_, fun h => ?_⟩ <;> simp only [decide_eq_true_eq, decide_eq_false_iff_not] at h
  · refine ⟨qA, qB, by omega, by omega, trivial, by decide, ?_⟩
    have e1 : IntKind.u64.wrap (xi + yi) = ((x + y : Nat) : Int) := by rw [wrapu64 (by omega) (by omega)]; omega
    have e2 : IntKind.u64.wrap (ci + ((x + y : Nat) : Int)) = ((c + (x + y) : Nat) : Int) := by rw [wrapu64 (by omega) (by omega)]; omega
    rw [e1, e2, wrapu32, shr32]
    have e3 : ((c + (x + y) : Nat) : Int) % 4294967296 = (((c + (x + y)) % B32 : Nat) : Int) := by simp only [B32]; omega
    have e4 : ((c + (x + y) : Nat) : Int) / 4294967296 = (((c + (x + y)) / B32 : Nat) : Int) := by simp only [B32]; omega
    rw [e3, e4, show i.toNat = o.length by omega, hE, lim_fill _ _ _ (by omega)]
    refine Means.weak (rl' := [(16, made 169 _)]) (sl' := [(0, .imm 169 false A), (1, .imm 169 false B), (5, .int .i64 ni), (6, .top 16 0), (7, .int .u64 _), (17, .int .i64 ni), (18, .int .i64 (i + 1))]) rfl rfl rfl
      ⟨rfl, rfl, rfl, rfl, rfl, wrap64 _ (by omega) (by omega), trivial⟩ ⟨rfl, trivial⟩
      (ih (_, _, i + 1) ⟨o ++ [(c + (x + y)) % B32], (c + (x + y)) / B32, rfl, rfl, by simp; omega, by simp; omega, word_snoc hwo (Nat.mod_lt _ (by decide)), by simp only [B32]; omega, ?_⟩ (by show n - (i + 1).toNat < _; omega))
    rw [pow_snoc, val_carry o c _ (x + y) _ rfl hv, List.length_append, List.length_singleton, tA, tB, Nat.mul_add]
    omega
  · have hin : i = ni := by omega
    have hon : o.length = n := by omega
    rw [hon, List.take_of_length_le (by omega), List.take_of_length_le (by omega)] at hv
    rw [hci, wrapu32, show (c : Int) % 4294967296 = ((c : Nat) : Int) by omega, show ni.toNat = o.length by omega, hE, lim_fill _ _ _ (by omega)]
    have e0 : n + 1 - (o ++ [c]).length = 0 := by simp; omega
    rw [e0, List.replicate_zero, List.append_nil]
    have hw2 : Word (o ++ [c]) := word_snoc hwo (by simp only [B32]; omega)
    have := trim_val (o ++ [c]) hw2 (by simp; omega)
    rw [val_snoc, hon, hv, hr] at this
    exact ⟨by omega, by rw [lim_length]; simp; omega, trivial, this, trivial, trivial⟩

theorem limbs_mono {m n : Nat} (h : m ≤ n) : (limbs m).length ≤ (limbs n).length := by
  rcases Nat.lt_or_ge (limbs n).length (limbs m).length with h' | h'
  · have := limbs_longer h'; omega
  · exact h'

theorem minus_ok (m n : Nat) (hmn : n ≤ m) (lm : (limbs m).length ≤ 549755813888) :
    Ok Tryz.prog tab 207 [.imm 169 false (lim (limbs m)), .imm 169 false (lim (limbs n))] [] (.v (.imm 169 true (lim (limbs (m - n))))) [] := by
  have lab := limbs_mono hmn
  have vm := val_limbs m
  have vn := val_limbs n
  have wa := word_limbs m
  have wb := word_limbs n
  generalize limbs m = a at *
  generalize limbs n = b at *
  generalize hr : lim (limbs (m - n)) = r
  have ga := lim_get a
  have lla := lim_length a
  have limB := fun i hi => limb_ok b i hi (by omega) wb
  generalize lim a = A at *
  generalize lim b = B at *
  refine Ok.go progOK [] [] 400 Tryz.func207 rfl rfl rfl fun J hX L Z hL hZ => ?_
  conv => cbv
  subst hL hZ
  dsimp only [std, deep]
  refine ⟨trivial, by omega, by omega, by omega, ?_⟩
  generalize hq : (A.length : Int) = q at *
  refine Means.begin (α := List D × Int × Int) (fun x => [(11, made 169 x.1)])
    (fun x => [(0, .imm 169 false A), (1, .imm 169 false B), (5, .top 11 0), (6, .int .u64 x.2.1), (13, .int .i64 q), (14, .int .i64 x.2.2)])
    (fun x => ∃ (o : List Nat) (c : Nat), x.1 = lim (o ++ List.replicate (a.length - o.length) 0) ∧ x.2.1 = c ∧ x.2.2 = o.length ∧ o.length ≤ a.length ∧ Word o ∧ c ≤ 1 ∧
      val o + val (b.take o.length) = val (a.take o.length) + B32 ^ o.length * c) (fun x => a.length - x.2.2.toNat) (lim (List.replicate a.length 0), 0, 0) rfl rfl rfl
    ⟨rfl, rfl, rfl, rfl, rfl, trivial⟩ ⟨by rw [← lim_zeros, ← hq, ← lla]; rfl, trivial⟩ ⟨[], 0, rfl, rfl, rfl, by simp, by intro y hy; simp at hy, by omega, by simp [val]⟩ ?_
  rintro ⟨E, ci, i⟩ ⟨o, c, hE, hci, hi, ho, hwo, hc, hv⟩ ih
  dsimp only at hE hci hi ih ⊢
  have qB := limB o.length (by omega)
  have bA : a.getD o.length 0 < 4294967296 := word_get wa _
  have bB : b.getD o.length 0 < 4294967296 := word_get wb _
  have tA := val_take_succ a o.length
  have tB := val_take_succ b o.length
  have gA := ga o.length
  rw [← hi] at qB
  generalize a.getD o.length 0 = x at *
  generalize b.getD o.length 0 = y at *
  generalize hy : ((y : Nat) : Int) = yi at *
  have lE : E.length = a.length := by rw [hE, lim_length]; simp; omega
  refine Means.go progOK hX [.fork [.call (.v (.int .u64 yi)) [] []] [.before 37 .frz 11, .call (.v (.imm 169 true r)) [] []]] 400 fun L Z hL hZ => ?_
  conv => cbv
  subst hL hZ
  dsimp only [std, deep]
  refine ⟨fun h => ?_, fun h => ?_⟩ <;> simp only [decide_eq_true_eq, decide_eq_false_iff_not] at h
  · obtain ⟨c', s, hs, hc', hsB, hd, hdd⟩ : ∃ c' s : Nat, s + y + c = x + 4294967296 * c' ∧ c' ≤ 1 ∧ s < 4294967296 ∧
        IntKind.u32.wrap (IntKind.u64.wrap (IntKind.u64.wrap (IntKind.u64.wrap (A.getD i.toNat D.nil).toInt - yi) - ci)) = (s : Int) ∧
        (IntKind.u64.wrap (IntKind.u64.wrap (IntKind.u64.wrap (A.getD i.toNat D.nil).toInt - yi) - ci)).fdiv (2 ^ min (Int.toNat 63) IntKind.u64.bits) = (c' : Int) := by
      rw [show i.toNat = o.length by omega, gA, shr63]
      simp only [IntKind.wrap_u64, wrapu32]
      rcases Nat.lt_or_ge x (y + c) with h' | h'
      · exact ⟨1, x + 4294967296 - y - c, by omega, by omega, by omega, by omega, by omega⟩
      · exact ⟨0, x - y - c, by omega, by omega, by omega, by omega, by omega⟩
    rw [hd, hdd]
    refine ⟨by omega, by omega, qB, by omega, by omega, trivial, by decide, ?_⟩
    rw [show i.toNat = o.length by omega, hE, lim_fill _ _ _ (by omega)]
    refine (ih (_, _, i + 1) ⟨o ++ [s], c', rfl, rfl, by simp; omega, by simp; omega, word_snoc hwo hsB, hc', ?_⟩ (by show a.length - (i + 1).toNat < _; omega)).to rfl rfl rfl
      ⟨rfl, rfl, rfl, rfl, wrap64 _ (by omega) (by omega), trivial⟩ ⟨rfl, trivial⟩
    rw [pow_snoc, val_snoc, List.length_append, List.length_singleton, tA, tB]
    have := congrArg (B32 ^ o.length * ·) hs
    simp only [Nat.mul_add, ← Nat.mul_assoc] at this
    have e : B32 ^ o.length * B32 = B32 ^ o.length * 4294967296 := rfl
    rw [e]; omega
  · have hon : o.length = a.length := by omega
    rw [hon, List.take_of_length_le (by omega), List.take_of_length_le (by omega)] at hv
    have e0 : a.length - o.length = 0 := by omega
    rw [hE, e0, List.replicate_zero, List.append_nil]
    have := trim_val o hwo (by omega)
    have hlt := val_lt hwo
    rw [hon] at hlt
    have hc0 : c = 0 := by
      rcases Nat.lt_or_ge c 1 with h' | h'
      · omega
      · have : c = 1 := by omega
        subst this; omega
    rw [show val o = m - n by subst hc0; omega, hr] at this
    exact ⟨this, trivial, trivial⟩

end Go.VI

namespace Go.VI

/-- The last k digits of a number. -/
def dig : Nat → Nat → List Nat
  | 0, _ => []
  | k + 1, m => m % B32 :: dig k (m / B32)

theorem dig_length : ∀ k m, (dig k m).length = k
  | 0, _ => rfl
  | k + 1, m => by simp [dig, dig_length k]

theorem dig_word : ∀ k m, Word (dig k m)
  | 0, _ => by intro x hx; simp [dig] at hx
  | k + 1, m => by
    intro x hx
    simp only [dig, List.mem_cons] at hx
    rcases hx with rfl | hx
    · exact Nat.mod_lt _ (by decide)
    · exact dig_word k _ x hx

theorem dig_val : ∀ k m, val (dig k m) = m % B32 ^ k
  | 0, m => by simp [dig, val, Nat.mod_one]
  | k + 1, m => by
    simp only [dig, val, dig_val k]
    rw [Nat.pow_succ, Nat.mul_comm (B32 ^ k) B32, Nat.mod_mul]

theorem dig_of {w : List Nat} (h : Word w) : dig w.length (val w) = w := by
  induction w with
  | nil => rfl
  | cons x w ih =>
    have hx := h.head
    simp only [List.length_cons, dig, val]
    rw [Nat.add_mul_mod_self_left, Nat.mod_eq_of_lt hx, Nat.add_mul_div_left _ _ (by decide), Nat.div_eq_of_lt hx, Nat.zero_add, ih h.tail]

theorem dig_add : ∀ i k m, dig (i + k) m = dig i m ++ dig k (m / B32 ^ i)
  | 0, k, m => by simp [dig]
  | i + 1, k, m => by
    rw [show i + 1 + k = (i + k) + 1 from by omega]
    simp only [dig, List.cons_append, dig_add i k]
    rw [Nat.div_div_eq_div_mul, Nat.pow_succ, Nat.mul_comm B32]

theorem dig_mod : ∀ k m, dig k (m % B32 ^ k) = dig k m
  | 0, _ => rfl
  | k + 1, m => by
    simp only [dig]
    rw [Nat.pow_succ, Nat.mul_comm (B32 ^ k) B32, Nat.mod_mul_right_mod, Nat.mod_mul_right_div_self, dig_mod k]

theorem dig_zero (k : Nat) : dig k 0 = List.replicate k 0 := by
  induction k with
  | zero => rfl
  | succ k ih => simp [dig, ih, List.replicate_succ]

theorem val_drop (a : List Nat) (i : Nat) : val (a.drop i) = a.getD i 0 + B32 * val (a.drop (i + 1)) := by
  rcases Nat.lt_or_ge i a.length with h | h
  · rw [List.drop_eq_getElem_cons h]
    simp [val, List.getD_eq_getElem?_getD, h]
  · rw [List.drop_of_length_le h, List.drop_of_length_le (by omega)]
    simp [val, List.getD_eq_getElem?_getD, h]

/-- A digit of a list is a digit of its number. -/
theorem get_digit {w : List Nat} (h : Word w) (i : Nat) : w.getD i 0 = val w / B32 ^ i % B32 := by
  induction i generalizing w with
  | zero =>
    cases w with
    | nil => simp [val]
    | cons x w => simp [val, Nat.add_mul_mod_self_left, Nat.mod_eq_of_lt h.head]
  | succ i ih =>
    cases w with
    | nil => simp [val]
    | cons x w =>
      rw [List.getD_cons_succ, ih h.tail, val, Nat.pow_succ, Nat.mul_comm (B32 ^ i) B32, ← Nat.div_div_eq_div_mul, Nat.add_mul_div_left _ _ (by decide), Nat.div_eq_of_lt h.head, Nat.zero_add]

theorem val_div {w : List Nat} (h : Word w) (i : Nat) : val w / B32 ^ i = val (w.drop i) := by
  induction i generalizing w with
  | zero => simp
  | succ i ih =>
    cases w with
    | nil => simp [val]
    | cons x w =>
      rw [List.drop_succ_cons, ← ih h.tail, val, Nat.pow_succ, Nat.mul_comm (B32 ^ i) B32, ← Nat.div_div_eq_div_mul, Nat.add_mul_div_left _ _ (by decide), Nat.div_eq_of_lt h.head, Nat.zero_add]

theorem word_drop {a : List Nat} (h : Word a) (n : Nat) : Word (a.drop n) := fun x hx => h x (List.mem_of_mem_drop hx)
theorem val_take_lt {a : List Nat} (h : Word a) (n : Nat) : val (a.take n) < B32 ^ n := by
  have := val_lt (word_take h n)
  refine Nat.lt_of_lt_of_le this (Nat.pow_le_pow_right (by decide) ?_)
  rw [List.length_take]; omega

theorem bits_or64 (a b : Nat) (ha : a < 18446744073709551616) (hb : b < 18446744073709551616) : bitsV .or .u64 (a : Int) (b : Int) = ((a ||| b : Nat) : Int) := by
  have hx : a ||| b < 2 ^ 64 := Nat.or_lt_two_pow ha hb
  show IntKind.u64.wrap ((((BitVec.ofInt 64 (a : Int)) ||| (BitVec.ofInt 64 (b : Int))).toNat : Nat) : Int) = _
  have e : ((BitVec.ofInt 64 (a : Int)) ||| (BitVec.ofInt 64 (b : Int))).toNat = a ||| b := by
    rw [BitVec.ofInt_natCast, BitVec.ofInt_natCast, BitVec.toNat_or, BitVec.toNat_ofNat, BitVec.toNat_ofNat, Nat.mod_eq_of_lt ha, Nat.mod_eq_of_lt hb]
  rw [e]
  exact wrapu64 (by omega) (by omega)
theorem bits_or32 (a b : Nat) (ha : a < 4294967296) (hb : b < 4294967296) : bitsV .or .u32 (a : Int) (b : Int) = ((a ||| b : Nat) : Int) := by
  have hx : a ||| b < 2 ^ 32 := Nat.or_lt_two_pow ha hb
  show IntKind.u32.wrap ((((BitVec.ofInt 32 (a : Int)) ||| (BitVec.ofInt 32 (b : Int))).toNat : Nat) : Int) = _
  have e : ((BitVec.ofInt 32 (a : Int)) ||| (BitVec.ofInt 32 (b : Int))).toNat = a ||| b := by
    rw [BitVec.ofInt_natCast, BitVec.ofInt_natCast, BitVec.toNat_or, BitVec.toNat_ofNat, BitVec.toNat_ofNat, Nat.mod_eq_of_lt ha, Nat.mod_eq_of_lt hb]
  rw [e, wrapu32]; omega
theorem bits_and64 (a : Nat) (ha : a < 18446744073709551616) : bitsV .and .u64 (a : Int) 4294967295 = ((a % 4294967296 : Nat) : Int) := by
  have hx : a &&& 4294967295 = a % 4294967296 := Nat.and_two_pow_sub_one_eq_mod a 32
  show IntKind.u64.wrap ((((BitVec.ofInt 64 (a : Int)) &&& (BitVec.ofInt 64 4294967295)).toNat : Nat) : Int) = _
  have e : ((BitVec.ofInt 64 (a : Int)) &&& (BitVec.ofInt 64 ((4294967295 : Nat) : Int))).toNat = a % 4294967296 := by
    rw [BitVec.ofInt_natCast, BitVec.ofInt_natCast, BitVec.toNat_and, BitVec.toNat_ofNat, BitVec.toNat_ofNat, Nat.mod_eq_of_lt ha, ← hx]
  have e' : ((4294967295 : Nat) : Int) = (4294967295 : Int) := rfl
  rw [e'] at e
  rw [e]
  exact wrapu64 (by omega) (by omega)

/-- Two words as one. -/
theorem or_join (a b k : Nat) (hb : b < 2 ^ k) : (a * 2 ^ k) ||| b = a * 2 ^ k + b := by
  rw [Nat.mul_comm, ← Nat.two_pow_add_eq_or_of_lt hb]
theorem or_join' (a b k : Nat) (hb : b < 2 ^ k) : b ||| (a * 2 ^ k) = a * 2 ^ k + b := by
  rw [Nat.or_comm, or_join a b k hb]

theorem shl32 (a : Int) (h0 : 0 ≤ a) (h1 : a < 4294967296) : IntKind.u64.wrap (a * 2 ^ min (Int.toNat 32) IntKind.u64.bits) = a * 4294967296 := by
  rw [show (2 : Int) ^ min (Int.toNat 32) IntKind.u64.bits = 4294967296 from by decide, wrapu64 (by omega) (by omega)]

theorem join64 (a b : Nat) (ha : a < 4294967296) (hb : b < 4294967296) : bitsV .or .u64 ((a : Int) * 4294967296) (b : Int) = ((a * 4294967296 + b : Nat) : Int) := by
  rw [show (a : Int) * 4294967296 = ((a * 4294967296 : Nat) : Int) by omega, bits_or64 _ _ (by omega) (by omega), show (4294967296 : Nat) = 2 ^ 32 from rfl, or_join a b 32 hb]

end Go.VI

namespace Go.VI
open Go.Proofs
set_option maxRecDepth 20000

theorem set_mid_rep (n : Nat) (o : List Nat) (x : Nat) : (List.replicate n 0 ++ 0 :: o).set n x = List.replicate n 0 ++ x :: o := by
  have := set_mid (List.replicate n 0) x 0 o
  rwa [List.length_replicate] at this

theorem set_zero_end (n : Nat) (o : List Nat) (x : Nat) (d : D) : (lim (List.replicate (n + 1) 0 ++ o)).set n (d.put [] (.int (x : Int))) = lim (List.replicate n 0 ++ x :: o) := by
  rw [show d.put [] (.int (x : Int)) = .int (x : Int) from rfl, lim_set, List.replicate_succ', List.append_assoc]
  congr 1
  simp [set_mid_rep]

theorem shortDivide_ok (a : List Nat) (b : Nat) (wa : Word a) (la : a.length ≤ 549755813888) (hb0 : 0 < b) (hb : b < 4294967296) :
    Ok Tryz.prog tab 213 [.imm 169 false (lim a), .int .u32 b] [] (.tup [.v (.imm 169 false (lim (limbs (val a / b)))), .v (.int .u32 (val a % b : Nat))]) [] := by
  generalize hr : lim (limbs (val a / b)) = r
  generalize hm : ((val a % b : Nat) : Int) = m
  have ga := lim_get a
  have lla := lim_length a
  generalize lim a = A at *
  generalize hbi : ((b : Nat) : Int) = bi at *
  refine Ok.go progOK [] [] 400 Tryz.func213 rfl rfl rfl fun J hX L Z hL hZ => ?_
  conv => cbv
  subst hL hZ
  dsimp only [std, deep]
  refine ⟨trivial, by omega, by omega, by omega, ?_⟩
  refine Means.begin (α := List D × Int × Int) (fun x => [(11, made 169 x.1)])
    (fun x => [(0, .imm 169 false A), (1, .int .u32 bi), (6, .top 11 0), (7, .int .u64 x.2.1), (8, .int .i64 x.2.2)])
    (fun x => ∃ (o : List Nat) (c k : Nat), x.1 = lim (List.replicate k 0 ++ o) ∧ x.2.1 = c ∧ x.2.2 = (k : Int) - 1 ∧ k + o.length = a.length ∧ Word o ∧ c < b ∧
      val (a.drop k) = val o * b + c) (fun x => (x.2.2 + 1).toNat) (lim (List.replicate a.length 0), 0, (A.length : Int) - 1) rfl rfl rfl
    ⟨rfl, rfl, rfl, wrap64 _ (by omega) (by omega), trivial⟩ ⟨by rw [← lim_zeros, ← lla]; rfl, trivial⟩
    ⟨[], 0, a.length, by simp, rfl, by simp [lla], by simp, by intro y hy; simp at hy, hb0, by simp [val]⟩ ?_
  rintro ⟨E, ci, i⟩ ⟨o, c, k, hE, hci, hi, ho, hwo, hc, hv⟩ ih
  dsimp only at hE hci hi ih ⊢
  have lE : E.length = a.length := by rw [hE, lim_length]; simp; omega
  refine Means.go progOK hX [.fork [] [.before 40 .frz 11, .call (.v (.imm 169 true r)) [] []]] 400 fun L Z hL hZ => ?_
  conv => cbv
  subst hL hZ
  dsimp only [std, deep]
  refine ⟨fun h => ?_, fun h => ?_⟩ <;> simp only [decide_eq_true_eq, decide_eq_false_iff_not] at h
  · obtain ⟨j, rfl⟩ : ∃ j, k = j + 1 := ⟨k - 1, by omega⟩
    have bA : a.getD j 0 < 4294967296 := word_get wa _
    have gA := ga j
    have vd := val_drop a j
    generalize a.getD j 0 = x at *
    have e0 : IntKind.u64.wrap (A.getD i.toNat D.nil).toInt = (x : Int) := by rw [show i.toNat = j by omega, gA, wrapu64 (by omega) (by omega)]
    obtain ⟨s, hs⟩ : ∃ s, s = c * 4294967296 + x := ⟨_, rfl⟩
    have hcb : c * 4294967296 + x < b * 4294967296 := by omega
    have e1 : bitsV .or .u64 (IntKind.u64.wrap (ci * 2 ^ min (Int.toNat 32) IntKind.u64.bits)) (x : Int) = (s : Int) := by
      rw [hci, shl32 _ (by omega) (by omega), join64 _ _ (by omega) bA, hs]
    have e2 : IntKind.u64.wrap bi = (b : Int) := by rw [wrapu64 (by omega) (by omega)]; omega
    have hq : s / b < 4294967296 := by rw [Nat.div_lt_iff_lt_mul hb0, hs, Nat.mul_comm 4294967296]; exact hcb
    have hdm := Nat.div_add_mod s b
    have hmlt := Nat.mod_lt s hb0
    have e3 : IntKind.u32.wrap (IntKind.u64.wrap ((s : Int).tdiv (b : Int))) = ((s / b : Nat) : Int) := by
      rw [Int.tdiv_eq_ediv_of_nonneg (Int.natCast_nonneg _), ← Int.natCast_ediv]
      generalize s / b = d at hq ⊢
      rw [wrapu64 (by omega) (by omega), wrapu32]; omega
    have e4 : (s : Int).tmod (b : Int) = ((s % b : Nat) : Int) := by
      rw [Int.tmod_eq_emod_of_nonneg (Int.natCast_nonneg _), ← Int.natCast_emod]
    rw [e0, e1, e2, e3, e4]
    refine ⟨by decide, by omega, by omega, by omega, by omega, by omega, trivial, by omega, ?_⟩
    rw [show i.toNat = j by omega, hE, set_zero_end]
    refine (ih (_, _, i - 1) ⟨s / b :: o, s % b, j, rfl, rfl, (by show i - 1 = (j : Int) - 1; omega), by simp; omega, ?_, hmlt, ?_⟩ (by show (i - 1 + 1).toNat < _; omega)).to rfl rfl rfl
      ⟨rfl, rfl, rfl, wrap64 _ (by omega) (by omega), trivial⟩ ⟨rfl, trivial⟩
    · intro y hy
      simp only [List.mem_cons] at hy
      rcases hy with rfl | hy
      · exact hq
      · exact hwo y hy
    · rw [vd, hv, val, Nat.add_mul, Nat.mul_add]
      have := hdm
      rw [Nat.mul_comm b] at this
      have e5 : B32 * val o * b = B32 * (val o * b) := Nat.mul_assoc _ _ _
      have e6 : B32 * c = c * 4294967296 := Nat.mul_comm _ _
      omega
  · have hk : k = 0 := by omega
    subst hk
    simp only [List.drop_zero, List.replicate_zero, List.nil_append] at hv hE
    have := trim_val o hwo (by omega)
    have hq : val o = val a / b := by rw [hv, Nat.mul_comm, Nat.mul_add_div hb0, Nat.div_eq_of_lt hc, Nat.add_zero]
    have hmm : c = val a % b := by rw [hv, Nat.mul_comm, Nat.mul_add_mod, Nat.mod_eq_of_lt hc]
    rw [hq, hr, ← hE] at this
    have e1 : IntKind.u32.wrap ci = m := by rw [wrapu32, hci, ← hm, ← hmm]; omega
    rw [e1]
    exact ⟨this, trivial, rfl, trivial⟩

theorem shl_n (a n : Nat) (ha : a < 4294967296) (hn : n ≤ 31) : IntKind.u64.wrap ((a : Int) * 2 ^ min ((n : Int).toNat) IntKind.u64.bits) = ((a * 2 ^ n : Nat) : Int) := by
  have e : min ((n : Int).toNat) IntKind.u64.bits = n := by
    show min ((n : Int).toNat) 64 = n
    omega
  have h1 : 2 ^ n ≤ 2 ^ 31 := Nat.pow_le_pow_right (by decide) hn
  have h2 : a * 2 ^ n < 4294967296 * 2 ^ 31 := Nat.lt_of_lt_of_le (Nat.mul_lt_mul_of_pos_right ha (Nat.pow_pos (by decide))) (Nat.mul_le_mul_left _ h1)
  rw [e, show (a : Int) * 2 ^ n = ((a * 2 ^ n : Nat) : Int) by rw [Int.natCast_mul, Int.natCast_pow]; rfl]
  exact wrapu64 (Int.natCast_nonneg _) (by omega)

theorem shr_n (a n : Nat) (hn : n ≤ 31) : (a : Int).fdiv (2 ^ min ((n : Int).toNat) IntKind.u64.bits) = ((a / 2 ^ n : Nat) : Int) := by
  have e : min ((n : Int).toNat) IntKind.u64.bits = n := by
    show min ((n : Int).toNat) 64 = n
    omega
  rw [e, Int.fdiv_eq_ediv_of_nonneg _ (Int.pow_nonneg (by decide)), Int.natCast_ediv, Int.natCast_pow]; rfl

theorem shift_ok (a : List Nat) (n : Nat) (wa : Word a) (la : a.length ≤ 549755813888) (hn : n ≤ 31) :
    Ok Tryz.prog tab 233 [.imm 169 false (lim a), .int .u64 n] [] (.own (made 169 (lim (dig (a.length + 1) (val a * 2 ^ n))))) [] := by
  generalize hr : lim (dig (a.length + 1) (val a * 2 ^ n)) = r
  have ga := lim_get a
  have lla := lim_length a
  generalize lim a = A at *
  generalize hni : ((n : Nat) : Int) = ni at *
  refine Ok.go progOK [] [] 400 Tryz.func233 rfl rfl rfl fun J hX L Z hL hZ => ?_
  conv => cbv
  subst hL hZ
  dsimp only [std, deep]
  have hw : IntKind.i64.wrap ((A.length : Int) + 1) = (a.length + 1 : Nat) := by rw [wrap64 _ (by omega) (by omega)]; omega
  rw [hw]
  refine ⟨trivial, by omega, by omega, by omega, ?_⟩
  generalize hq : (A.length : Int) = q at *
  refine Means.begin (α := List D × Int) (fun x => [(11, made 169 x.1)])
    (fun x => [(0, .imm 169 false A), (1, .int .u64 ni), (5, .top 11 0), (13, .int .i64 q), (14, .int .i64 x.2)])
    (fun x => ∃ (o : List Nat) (c : Nat), x.1 = lim (o ++ c :: List.replicate (a.length - o.length) 0) ∧ x.2 = o.length ∧ o.length ≤ a.length ∧ Word o ∧ c < 2 ^ n ∧
      val o + B32 ^ o.length * c = val (a.take o.length) * 2 ^ n) (fun x => a.length - x.2.toNat) (lim (List.replicate (a.length + 1) 0), 0) rfl rfl rfl
    ⟨rfl, rfl, rfl, rfl, trivial⟩ ⟨by rw [← lim_zeros]; rfl, trivial⟩ ⟨[], 0, rfl, rfl, by simp, by intro y hy; simp at hy, Nat.pow_pos (by decide), by simp [val]⟩ ?_
  rintro ⟨E, i⟩ ⟨o, c, hE, hi, ho, hwo, hc, hv⟩ ih
  dsimp only at hE hi ih ⊢
  have lE : E.length = a.length + 1 := by rw [hE, lim_length]; simp; omega
  have hpn : 2 ^ n ≤ 2147483648 := Nat.pow_le_pow_right (by decide) hn
  refine Means.go progOK hX [.both] 400 fun L Z hL hZ => ?_
  conv => cbv
  subst hL hZ
  dsimp only [std, deep]
  refine ⟨fun h => ?_, fun h => ?_⟩ <;> simp only [decide_eq_true_eq, decide_eq_false_iff_not] at h
  · obtain ⟨z, hz⟩ : ∃ z, a.length - o.length = z + 1 := ⟨a.length - o.length - 1, by omega⟩
    have bA : a.getD o.length 0 < 4294967296 := word_get wa _
    have tA := val_take_succ a o.length
    have gA := ga o.length
    generalize a.getD o.length 0 = x at *
    have e0 : IntKind.u64.wrap (A.getD i.toNat D.nil).toInt = (x : Int) := by rw [show i.toNat = o.length by omega, gA, wrapu64 (by omega) (by omega)]
    obtain ⟨s, hs⟩ : ∃ s, s = x * 2 ^ n := ⟨_, rfl⟩
    have e1 : IntKind.u64.wrap ((x : Int) * 2 ^ min ni.toNat IntKind.u64.bits) = (s : Int) := by rw [hs, ← hni]; exact shl_n x n bA hn
    have hsn : s / B32 < 2 ^ n := by
      rw [hs, Nat.div_lt_iff_lt_mul (by decide), Nat.mul_comm]
      exact Nat.mul_lt_mul_of_pos_left bA (Nat.pow_pos (by decide))
    have hlow : s % B32 = 2 ^ n * (x % 2 ^ (32 - n)) := by
      rw [hs, show B32 = 2 ^ n * 2 ^ (32 - n) by rw [← Nat.pow_add, show n + (32 - n) = 32 by omega], Nat.mul_comm x, Nat.mul_mod_mul_left]
    have hlt : s % B32 < B32 := Nat.mod_lt _ (by decide)
    have e2 : IntKind.u32.wrap (s : Int) = ((s % B32 : Nat) : Int) := by rw [wrapu32]; simp only [B32]; omega
    have hcs : c + s % B32 < 4294967296 := by
      have h1 : x % 2 ^ (32 - n) + 1 ≤ 2 ^ (32 - n) := Nat.mod_lt _ (Nat.pow_pos (by decide))
      have h2 : 2 ^ n * (x % 2 ^ (32 - n) + 1) ≤ 2 ^ n * 2 ^ (32 - n) := Nat.mul_le_mul_left _ h1
      rw [← Nat.pow_add, show n + (32 - n) = 32 by omega, Nat.mul_add, ← hlow] at h2
      omega
    have gE : ((E.getD i.toNat D.nil).at []).toInt = (c : Int) := by
      rw [show (E.getD i.toNat D.nil).at [] = E.getD i.toNat D.nil from rfl, hE, show i.toNat = o.length by omega, lim_get]
      simp [List.getD_eq_getElem?_getD]
    have e3 : bitsV .or .u32 (c : Int) ((s % B32 : Nat) : Int) = ((c + s % B32 : Nat) : Int) := by
      rw [bits_or32 _ _ (by omega) (by omega), hlow, Nat.mul_comm (2 ^ n), or_join' _ _ _ hc, Nat.add_comm]
    have e4 : IntKind.u32.wrap ((s : Int).fdiv (2 ^ min (Int.toNat 32) IntKind.u64.bits)) = ((s / B32 : Nat) : Int) := by
      have h5 := hsn
      rw [shr32, show (s : Int) / 4294967296 = ((s / B32 : Nat) : Int) by simp only [B32]; omega]
      generalize s / B32 = d at h5 ⊢
      rw [wrapu32]; omega
    have e5 : IntKind.i64.wrap (i + 1) = ((o.length + 1 : Nat) : Int) := by rw [wrap64 _ (by omega) (by omega)]; omega
    rw [e0, e1, e2, gE, e3, e4, e5]
    obtain ⟨y, hy⟩ : ∃ y, y = c + s % B32 := ⟨_, rfl⟩
    rw [← hy]
    have eE1 : E.set i.toNat ((E.getD i.toNat D.nil).put [] (D.int (y : Int))) = lim (o ++ y :: List.replicate (z + 1) 0) := by
      rw [show (E.getD i.toNat D.nil).put [] (D.int (y : Int)) = D.int (y : Int) from rfl, hE, hz, show i.toNat = o.length by omega, lim_set, set_mid]
    have eE2 : ∀ d : D, (lim (o ++ y :: List.replicate (z + 1) 0)).set (o.length + 1) (d.put [] (D.int ((s / B32 : Nat) : Int))) = lim ((o ++ [y]) ++ (s / B32) :: List.replicate z 0) := by
      intro d
      rw [show d.put [] (D.int ((s / B32 : Nat) : Int)) = D.int ((s / B32 : Nat) : Int) from rfl, lim_set]
      have := set_mid (o ++ [y]) (s / B32) 0 (List.replicate z 0)
      simp only [List.length_append, List.length_singleton] at this
      rw [← this, List.replicate_succ, List.append_assoc]; rfl
    rw [eE1, show ((o.length + 1 : Nat) : Int).toNat = o.length + 1 from rfl, eE2]
    refine ⟨by omega, by omega, by omega, by omega, by omega, by omega, by omega, trivial, by decide, by omega, by rw [lim_length]; simp; omega, trivial, ?_⟩
    refine (ih (_, i + 1) ⟨o ++ [y], s / B32, ?_, by simp; omega, by simp; omega, word_snoc hwo (by simp only [B32]; omega), hsn, ?_⟩ (by show a.length - (i + 1).toNat < _; omega)).to rfl rfl rfl
      ⟨rfl, rfl, rfl, (by show ((o.length + 1 : Nat) : Int) = i + 1; omega), trivial⟩ ⟨rfl, trivial⟩
    · show lim _ = lim _
      rw [show a.length - (o ++ [y]).length = z by simp; omega]
    · rw [pow_snoc, val_snoc, List.length_append, List.length_singleton, tA, Nat.add_mul, ← hv, hy]
      have := Nat.mod_add_div s B32
      have h3 := congrArg (B32 ^ o.length * ·) this
      simp only [Nat.mul_add, ← Nat.mul_assoc] at h3
      rw [Nat.mul_add, Nat.mul_assoc _ x, ← hs]
      omega
  · have hol : o.length = a.length := by omega
    rw [hol, List.take_of_length_le (Nat.le_refl _)] at hv
    have hz : a.length - o.length = 0 := by omega
    have hcB : c < B32 := by simp only [B32]; omega
    have hd := dig_of (word_snoc hwo hcB)
    rw [val_snoc, hol, hv, List.length_append, List.length_singleton, hol] at hd
    refine ⟨?_, trivial⟩
    rw [hE, hz, ← hr, hd]; rfl

end Go.VI

namespace Go.VI
open Go.Proofs
set_option maxRecDepth 20000

theorem dig_snoc (k X : Nat) : dig (k + 1) X = dig k X ++ [X / B32 ^ k % B32] := by rw [dig_add k 1]; rfl

theorem unshift_digit {a : List Nat} (wa : Word a) (n k : Nat) (hn : n ≤ 31) : val a / 2 ^ n / B32 ^ k % B32 = (a.getD (k + 1) 0 * 4294967296 + a.getD k 0) / 2 ^ n % B32 := by
  rw [Nat.div_div_eq_div_mul, Nat.mul_comm (2 ^ n), ← Nat.div_div_eq_div_mul, val_div wa, val_drop a k, val_drop a (k + 1)]
  generalize a.getD k 0 = x
  generalize a.getD (k + 1) 0 = y
  generalize val (a.drop (k + 1 + 1)) = t
  have e : x + B32 * (y + B32 * t) = (y * 4294967296 + x) + 2 ^ n * (2 ^ (32 - n) * B32 * t) := by
    have e1 : 2 ^ n * (2 ^ (32 - n) * B32 * t) = B32 * (B32 * t) := by
      rw [← Nat.mul_assoc, ← Nat.mul_assoc, ← Nat.pow_add, show n + (32 - n) = 32 by omega, Nat.mul_assoc]
    rw [e1, Nat.mul_add, Nat.mul_comm B32 y]; simp only [B32]; omega
  rw [e, Nat.add_mul_div_left _ _ (Nat.pow_pos (by decide)), show 2 ^ (32 - n) * B32 * t = B32 * (2 ^ (32 - n) * t) by rw [Nat.mul_comm _ B32, Nat.mul_assoc], Nat.add_mul_mod_self_left]

theorem unshift_ok (a : List Nat) (n : Nat) (wa : Word a) (la : a.length ≤ 549755813888) (hn : n ≤ 31) :
    Ok Tryz.prog tab 235 [.imm 169 false (lim a), .int .u64 n] [] (.v (.imm 169 true (lim (limbs (val a / 2 ^ n))))) [] := by
  generalize hr : lim (limbs (val a / 2 ^ n)) = r
  have ga := lim_get a
  have lla := lim_length a
  have limA := fun i hi => limb_ok a i hi (by omega) wa
  generalize lim a = A at *
  generalize hni : ((n : Nat) : Int) = ni at *
  refine Ok.go progOK [] [] 400 Tryz.func235 rfl rfl rfl fun J hX L Z hL hZ => ?_
  conv => cbv
  subst hL hZ
  dsimp only [std, deep]
  refine ⟨trivial, by omega, by omega, by omega, ?_⟩
  generalize hq : (A.length : Int) = q at *
  refine Means.begin (α := List D × Int) (fun x => [(9, made 169 x.1)])
    (fun x => [(0, .imm 169 false A), (1, .int .u64 ni), (5, .top 9 0), (11, .int .i64 q), (12, .int .i64 x.2)])
    (fun x => ∃ (k : Nat), x.1 = lim (dig k (val a / 2 ^ n) ++ List.replicate (a.length - k) 0) ∧ x.2 = k ∧ k ≤ a.length) (fun x => a.length - x.2.toNat) (lim (List.replicate a.length 0), 0) rfl rfl rfl
    ⟨rfl, rfl, rfl, rfl, trivial⟩ ⟨by rw [← lim_zeros, ← hq, ← lla]; rfl, trivial⟩ ⟨0, rfl, rfl, by omega⟩ ?_
  rintro ⟨E, i⟩ ⟨k, hE, hi, hk⟩ ih
  dsimp only at hE hi ih ⊢
  have lE : E.length = a.length := by rw [hE, lim_length]; simp [dig_length]; omega
  have bA : a.getD k 0 < 4294967296 := word_get wa _
  have bB : a.getD (k + 1) 0 < 4294967296 := word_get wa _
  have gA := ga k
  have qA := fun h => limA (k + 1) h
  have hdig := unshift_digit wa n k hn
  generalize a.getD k 0 = x at *
  generalize a.getD (k + 1) 0 = y at *
  generalize hy : ((y : Nat) : Int) = yi at *
  refine Means.go progOK hX [.fork [.call (.v (.int .u64 yi)) [] []] [.before 34 .frz 9, .call (.v (.imm 169 true r)) [] []]] 400 fun L Z hL hZ => ?_
  conv => cbv
  subst hL hZ
  dsimp only [std, deep]
  refine ⟨fun h => ?_, fun h => ?_⟩ <;> simp only [decide_eq_true_eq, decide_eq_false_iff_not] at h
  · have e5 : IntKind.i64.wrap (i + 1) = ((k + 1 : Nat) : Int) := by rw [wrap64 _ (by omega) (by omega)]; omega
    have e0 : IntKind.u64.wrap (A.getD i.toNat D.nil).toInt = (x : Int) := by rw [show i.toNat = k by omega, gA, wrapu64 (by omega) (by omega)]
    obtain ⟨s, hs⟩ : ∃ s, s = y * 4294967296 + x := ⟨_, rfl⟩
    have e1 : bitsV .or .u64 (IntKind.u64.wrap (yi * 2 ^ min (Int.toNat 32) IntKind.u64.bits)) (x : Int) = (s : Int) := by
      rw [← hy, shl32 _ (by omega) (by omega), join64 _ _ bB bA, hs]
    have e2 : IntKind.u32.wrap ((s : Int).fdiv (2 ^ min ni.toNat IntKind.u64.bits)) = ((s / 2 ^ n % B32 : Nat) : Int) := by
      rw [← hni, shr_n s n hn, wrapu32]; simp only [B32]; omega
    rw [e5, e0, e1, e2]
    refine ⟨qA (by omega), by decide, by omega, by omega, by omega, by omega, by omega, trivial, ?_⟩
    have eE : E.set i.toNat ((E.getD i.toNat D.nil).put [] (D.int ((s / 2 ^ n % B32 : Nat) : Int))) = lim (dig (k + 1) (val a / 2 ^ n) ++ List.replicate (a.length - (k + 1)) 0) := by
      have := lim_fill (dig k (val a / 2 ^ n)) a.length (s / 2 ^ n % B32) (by rw [dig_length]; omega) (E.getD i.toNat D.nil)
      simp only [dig_length] at this
      rw [hE, show i.toNat = k by omega] at this ⊢
      rw [this, dig_snoc, hdig, hs]
      simp [dig_length]
    rw [eE]
    exact (ih (_, i + 1) ⟨k + 1, rfl, by simp; omega, by omega⟩ (by show a.length - (i + 1).toNat < _; omega)).to rfl rfl rfl
      ⟨rfl, rfl, rfl, (by show ((k + 1 : Nat) : Int) = i + 1; omega), trivial⟩ ⟨rfl, trivial⟩
  · have hka : k = a.length := by omega
    have := trim_val (dig k (val a / 2 ^ n)) (dig_word _ _) (by rw [dig_length]; omega)
    have hlt := val_lt wa
    rw [dig_val, hka, Nat.mod_eq_of_lt (Nat.lt_of_le_of_lt (Nat.div_le_self _ _) hlt), hr] at this
    rw [hka, Nat.sub_self, List.replicate_zero, List.append_nil] at hE
    rw [← hE] at this
    exact ⟨this, trivial, trivial⟩

/-- How many bits a number has. -/
def blen (x : Nat) : Nat := if x = 0 then 0 else x.log2 + 1

theorem blen_of {x k : Nat} (h1 : 2 ^ k ≤ x) (h2 : x < 2 ^ (k + 1)) : blen x = k + 1 := by
  have hx : x ≠ 0 := by intro e; subst e; have := Nat.pow_pos (n := k) (show 0 < 2 by decide); omega
  rw [blen, if_neg hx, (Nat.log2_eq_iff hx).2 ⟨h1, h2⟩]

theorem blen_div (x k : Nat) (h : 2 ^ k ≤ x) : blen x = blen (x / 2 ^ k) + k := by
  have h0 : x / 2 ^ k ≠ 0 := by
    have := Nat.div_pos h (Nat.pow_pos (by decide)); omega
  have h1 := Nat.log2_self_le h0
  have h2 := Nat.lt_log2_self (n := x / 2 ^ k)
  rw [blen_of (x := x) (k := (x / 2 ^ k).log2 + k)]
  · rw [blen, if_neg h0]; omega
  · rw [Nat.pow_add]
    exact Nat.le_trans (Nat.mul_le_mul_right _ h1) (Nat.div_mul_le_self _ _)
  · rw [show (x / 2 ^ k).log2 + k + 1 = ((x / 2 ^ k).log2 + 1) + k by omega, Nat.pow_add]
    exact (Nat.div_lt_iff_lt_mul (Nat.pow_pos (by decide))).1 h2

theorem len32_ok (x : Nat) (hx : x < 4294967296) : Ok Tryz.prog tab 239 [.int .u32 x] [] (.v (.int .i64 (blen x))) [] := by
  generalize hb : ((blen x : Nat) : Int) = b
  generalize hxi : ((x : Nat) : Int) = xi
  refine Ok.go progOK [] [.both, .both] 400 Tryz.func239 rfl rfl rfl fun J hX L Z hL hZ => ?_
  conv => cbv
  subst hL hZ
  dsimp only [std, deep]
  generalize hS : ByteArray.mk _ = S
  have hsz : S.size = 256 := by rw [← hS]; decide +kernel
  have hget : ∀ y : Nat, y < 256 → sgetD S (IntKind.u8.wrap (y : Int)) = (blen y : Int) ∧ IntKind.u8.wrap (y : Int) = (y : Int) ∧ blen y ≤ 8 := by rw [← hS]; decide +kernel
  clear hS
  have e16 : xi.fdiv (2 ^ min (Int.toNat 16) IntKind.u32.bits) = ((x / 65536 : Nat) : Int) := by
    rw [show (2 : Int) ^ min (Int.toNat 16) IntKind.u32.bits = 65536 from by decide, Int.fdiv_eq_ediv_of_nonneg _ (by decide)]; omega
  have e8 : ∀ z : Nat, (z : Int).fdiv (2 ^ min (Int.toNat 8) IntKind.u32.bits) = ((z / 256 : Nat) : Int) := by
    intro z
    rw [show (2 : Int) ^ min (Int.toNat 8) IntKind.u32.bits = 256 from by decide, Int.fdiv_eq_ediv_of_nonneg _ (by decide)]; omega
  rw [e16, ← hxi]
  simp only [e8]
  have fin : ∀ (y k : Nat) (t : Int), y < 256 → t = (k : Int) → k ≤ 24 → blen x = blen y + k → 0 ≤ IntKind.u8.wrap (y : Int) ∧ IntKind.u8.wrap (y : Int) < S.size ∧
      IntKind.i64.wrap (t + IntKind.i64.wrap (sgetD S (IntKind.u8.wrap (y : Int)))) = b ∧ True := by
    intro y k t hy ht hk hl
    obtain ⟨h1, h2, h3⟩ := hget y hy
    have e1 : IntKind.i64.wrap (blen y : Int) = (blen y : Int) := wrap64 _ (by omega) (by omega)
    rw [h1, h2, e1, wrap64 _ (by omega) (by omega)]
    exact ⟨by omega, by omega, by omega, trivial⟩
  refine ⟨fun h => ⟨by decide, fun h2 => ⟨by decide, ?_⟩, fun h2 => ?_⟩, fun h => ⟨fun h2 => ⟨by decide, ?_⟩, fun h2 => ?_⟩⟩ <;> simp only [decide_eq_true_eq, decide_eq_false_iff_not] at h h2
  · exact fin (x / 65536 / 256) 24 _ (by omega) (by decide) (by omega) (by rw [Nat.div_div_eq_div_mul]; exact blen_div x 24 (by omega))
  · exact fin (x / 65536) 16 _ (by omega) rfl (by omega) (blen_div x 16 (by omega))
  · exact fin (x / 256) 8 _ (by omega) (by decide) (by omega) (blen_div x 8 (by omega))
  · exact fin x 0 _ (by omega) rfl (by omega) rfl

theorem lead_ok (x : Nat) (h0 : 0 < x) (hx : x < 4294967296) : Ok Tryz.prog tab 232 [.int .u32 x] [] (.v (.int .i64 (32 - blen x : Nat))) [] := by
  have h := len32_ok x hx
  generalize hr : ((32 - blen x : Nat) : Int) = r
  generalize hb : ((blen x : Nat) : Int) = b at *
  generalize hxi : ((x : Nat) : Int) = xi at *
  refine Ok.go progOK [] [.call (.v (.int .i64 b)) [] []] 400 Tryz.func232 rfl rfl rfl fun J hX L Z hL hZ => ?_
  conv => cbv
  subst hL hZ
  dsimp only [std, deep]
  have hle : blen x ≤ 32 := by
    have := Nat.log2_lt (n := x) (k := 32) (by omega)
    rw [blen, if_neg (by omega)]
    have := this.2 hx
    omega
  exact ⟨h, by rw [wrap64 _ (by omega) (by omega)]; omega, trivial⟩

/-- A word, moved to its highest bit. -/
theorem lead_bits {x : Nat} (h0 : 0 < x) (hx : x < 4294967296) : 32 - blen x ≤ 31 ∧ 2147483648 ≤ x * 2 ^ (32 - blen x) ∧ x * 2 ^ (32 - blen x) < 4294967296 := by
  have h1 := Nat.log2_self_le (n := x) (by omega)
  have h2 := Nat.lt_log2_self (n := x)
  have h3 : x.log2 < 32 := (Nat.log2_lt (by omega)).2 hx
  rw [blen, if_neg (by omega)]
  refine ⟨by omega, ?_, ?_⟩
  · have := Nat.mul_le_mul_right (2 ^ (32 - (x.log2 + 1))) h1
    rw [← Nat.pow_add, show x.log2 + (32 - (x.log2 + 1)) = 31 by omega] at this
    exact this
  · have := Nat.mul_lt_mul_of_pos_right h2 (Nat.pow_pos (n := 32 - (x.log2 + 1)) (show 0 < 2 by decide))
    rw [← Nat.pow_add, show x.log2 + 1 + (32 - (x.log2 + 1)) = 32 by omega] at this
    exact this

end Go.VI

namespace Go.VI
open Go.Proofs
set_option maxRecDepth 20000

theorem val_set : ∀ (w : List Nat) (k y : Nat), k < w.length → val (w.set k y) + B32 ^ k * w.getD k 0 = val w + B32 ^ k * y
  | x :: w, 0, y, _ => by simp [val]; omega
  | x :: w, k + 1, y, h => by
    have ih := val_set w k y (by simpa using h)
    simp only [List.set_cons_succ, val, List.getD_cons_succ, Nat.pow_succ]
    have := congrArg (B32 * ·) ih
    simp only [Nat.mul_add, ← Nat.mul_assoc] at this
    rw [Nat.mul_comm (B32 ^ k) B32]; omega

theorem word_set {w : List Nat} (h : Word w) {y : Nat} (hy : y < B32) (k : Nat) : Word (w.set k y) := by
  intro x hx
  rcases List.mem_or_eq_of_mem_set hx with h' | h'
  · exact h x h'
  · omega

theorem getD_set_nat (w : List Nat) (k y t : Nat) : (w.set k y).getD t 0 = if k = t ∧ t < w.length then y else w.getD t 0 := by
  simp only [List.getD_eq_getElem?_getD, List.getElem?_set]
  by_cases h : k = t
  · subst h
    by_cases h2 : k < w.length
    · simp [h2]
    · simp [h2]
  · simp [h]

theorem times_ok (a b : List Nat) (wa : Word a) (wb : Word b) (la : a.length ≤ 549755813888) (lb : b.length ≤ 549755813888) :
    Ok Tryz.prog tab 208 [.imm 169 false (lim a), .imm 169 false (lim b)] [] (.v (.imm 169 true (lim (limbs (val a * val b))))) [] := by
  generalize hr : lim (limbs (val a * val b)) = r
  have ga := lim_get a
  have lla := lim_length a
  have gb := lim_get b
  have llb := lim_length b
  generalize lim a = A at *
  generalize lim b = B at *
  refine Ok.go progOK [] [] 400 Tryz.func208 rfl rfl rfl fun J hX L Z hL hZ => ?_
  conv => cbv
  subst hL hZ
  dsimp only [std, deep]
  have hw : IntKind.i64.wrap ((A.length : Int) + B.length) = (a.length + b.length : Nat) := by rw [wrap64 _ (by omega) (by omega)]; omega
  rw [hw]
  refine ⟨trivial, by omega, by omega, by omega, ?_⟩
  generalize hq : (A.length : Int) = q at *
  refine Means.begin (α := List D × Int) (fun x => [(14, made 169 x.1)])
    (fun x => [(0, .imm 169 false A), (1, .imm 169 false B), (5, .top 14 0), (16, .int .i64 q), (17, .int .i64 x.2)])
    (fun x => ∃ (w : List Nat) (k : Nat), x.1 = lim w ∧ x.2 = k ∧ w.length = a.length + b.length ∧ k ≤ a.length ∧ Word w ∧ val w = val (a.take k) * val b ∧ ∀ t, k + b.length ≤ t → w.getD t 0 = 0)
    (fun x => a.length - x.2.toNat) (lim (List.replicate (a.length + b.length) 0), 0) rfl rfl rfl
    ⟨rfl, rfl, rfl, rfl, trivial⟩ ⟨by rw [← lim_zeros]; rfl, trivial⟩
    ⟨List.replicate (a.length + b.length) 0, 0, rfl, rfl, by simp, by omega, (by intro y hy; rw [List.mem_replicate] at hy; rw [hy.2]; decide), by simp [val_zeros, val], fun t _ => by
      rw [List.getD_eq_getElem?_getD, List.getElem?_replicate]; split <;> rfl⟩ ?_
  rintro ⟨E, i⟩ ⟨w, k, hE, hi, hwl, hk, hww, hv, hz⟩ ih
  dsimp only at hE hi ih ⊢
  have lE : E.length = a.length + b.length := by rw [hE, lim_length]; exact hwl
  refine Means.go progOK hX [.fork [] [.before 66 .frz 14, .call (.v (.imm 169 true r)) [] []]] 400 fun L Z hL hZ => ?_
  conv => cbv
  subst hL hZ
  dsimp only [std, deep]
  refine ⟨fun h => ?_, fun h => ?_⟩ <;> simp only [decide_eq_true_eq, decide_eq_false_iff_not] at h
  · generalize hq2 : (B.length : Int) = q2 at *
    have ba : a.getD k 0 < 4294967296 := word_get wa _
    have ta := val_take_succ a k
    have gA := ga k
    generalize a.getD k 0 = x at *
    refine Means.begin (α := List D × Int × Int) (fun x => [(14, made 169 x.1)])
      (fun x => [(0, .imm 169 false A), (1, .imm 169 false B), (5, .top 14 0), (6, .int .i64 i), (7, .int .u64 x.2.1), (16, .int .i64 q), (17, .int .i64 i), (21, .int .i64 q2), (22, .int .i64 x.2.2)])
      (fun s => ∃ (w : List Nat) (c j : Nat), s.1 = lim w ∧ s.2.1 = c ∧ s.2.2 = j ∧ w.length = a.length + b.length ∧ j ≤ b.length ∧ Word w ∧ c < 4294967296 ∧
        val w + B32 ^ (k + j) * c = val (a.take k) * val b + B32 ^ k * x * val (b.take j) ∧ ∀ t, k + b.length ≤ t → w.getD t 0 = 0)
      (fun x => b.length - x.2.2.toNat) (E, 0, 0) rfl rfl rfl
      ⟨rfl, rfl, rfl, rfl, rfl, rfl, rfl, rfl, trivial⟩ ⟨rfl, trivial⟩ ⟨w, 0, 0, hE, rfl, rfl, hwl, by omega, hww, by omega, by simp [val, hv], hz⟩ ?_
    rintro ⟨E2, ci, ji⟩ ⟨w2, c, j, hE2, hci, hj, hwl2, hjl, hww2, hc, hv2, hz2⟩ ih2
    dsimp only at hE2 hci hj ih2 ⊢
    have lE2 : E2.length = a.length + b.length := by rw [hE2, lim_length]; exact hwl2
    refine Means.go progOK hX [.both] 400 fun L Z hL hZ => ?_
    conv => cbv
    subst hL hZ
    dsimp only [std, deep]
    refine ⟨fun h2 => ?_, fun h2 => ?_⟩ <;> simp only [decide_eq_true_eq, decide_eq_false_iff_not] at h2
    · have bb : b.getD j 0 < 4294967296 := word_get wb _
      have tb := val_take_succ b j
      have gB := gb j
      have bw : w2.getD (k + j) 0 < 4294967296 := word_get hww2 _
      have gW := lim_get w2 (k + j)
      have sW := val_set w2 (k + j)
      generalize b.getD j 0 = y at *
      generalize w2.getD (k + j) 0 = z at *
      have hxy : x * y ≤ 4294967295 * 4294967295 := Nat.mul_le_mul (by omega) (by omega)
      have hij : IntKind.i64.wrap (i + ji) = (k + j : Nat) := by rw [wrap64 _ (by omega) (by omega)]; omega
      have e0 : IntKind.u64.wrap (A.getD i.toNat D.nil).toInt = (x : Int) := by rw [show i.toNat = k by omega, gA, wrapu64 (by omega) (by omega)]
      have e1 : IntKind.u64.wrap (B.getD ji.toNat D.nil).toInt = (y : Int) := by rw [show ji.toNat = j by omega, gB, wrapu64 (by omega) (by omega)]
      have e2 : IntKind.u64.wrap ((E2.getD (k + j) D.nil).at []).toInt = (z : Int) := by rw [show (E2.getD (k + j) D.nil).at [] = E2.getD (k + j) D.nil from rfl, hE2, gW, wrapu64 (by omega) (by omega)]
      have e3 : IntKind.u64.wrap ((x : Int) * y) = ((x * y : Nat) : Int) := by rw [← Int.natCast_mul, wrapu64 (by omega) (by omega)]
      have e4 : IntKind.u64.wrap (((x * y : Nat) : Int) + z) = ((x * y + z : Nat) : Int) := by rw [← Int.natCast_add, wrapu64 (by omega) (by omega)]
      have e5 : IntKind.u64.wrap (ci + ((x * y + z : Nat) : Int)) = ((c + (x * y + z) : Nat) : Int) := by rw [hci, ← Int.natCast_add, wrapu64 (by omega) (by omega)]
      obtain ⟨s, hs⟩ : ∃ s, s = c + (x * y + z) := ⟨_, rfl⟩
      rw [← hs] at e5
      have e6 : IntKind.u32.wrap (s : Int) = ((s % B32 : Nat) : Int) := by rw [wrapu32]; simp only [B32]; omega
      have e7 : (s : Int).fdiv (2 ^ min (Int.toNat 32) IntKind.u64.bits) = ((s / B32 : Nat) : Int) := by rw [shr32]; simp only [B32]; omega
      rw [hij]
      simp only [Int.toNat_natCast]
      rw [e0, e1, e2, e3, e4, e5, e6, e7]
      refine ⟨by omega, by omega, by omega, by omega, by omega, by omega, by omega, by omega, trivial, by decide, ?_⟩
      rw [hE2, show ((lim w2).getD (k + j) D.nil).put [] (D.int ((s % B32 : Nat) : Int)) = D.int ((s % B32 : Nat) : Int) from rfl, lim_set]
      refine (ih2 (_, _, ji + 1) ⟨w2.set (k + j) (s % B32), s / B32, j + 1, rfl, rfl, by simp; omega, by simp [hwl2], by omega, word_set hww2 (Nat.mod_lt _ (by decide)) _, by simp only [B32]; omega, ?_, fun t ht => ?_⟩ (by show b.length - (ji + 1).toNat < _; omega)).to rfl rfl rfl
        ⟨rfl, rfl, rfl, rfl, rfl, rfl, rfl, wrap64 _ (by omega) (by omega), trivial⟩ ⟨rfl, trivial⟩
      · have h1 := sW (s % B32) (by omega)
        have h3 : B32 ^ (k + j) * s = B32 ^ (k + j) * B32 * (s / B32) + B32 ^ (k + j) * (s % B32) := by
          rw [Nat.mul_assoc, ← Nat.mul_add, Nat.div_add_mod]
        have h4 : B32 ^ (k + j) * s = B32 ^ (k + j) * c + B32 ^ k * x * (B32 ^ j * y) + B32 ^ (k + j) * z := by
          rw [hs, Nat.mul_add, Nat.mul_add, ← Nat.add_assoc, show B32 ^ k * x * (B32 ^ j * y) = B32 ^ (k + j) * (x * y) by rw [Nat.pow_add, Nat.mul_mul_mul_comm]]
        rw [tb, Nat.mul_add, ← Nat.add_assoc k j 1, Nat.pow_succ]
        omega
      · rw [getD_set_nat, if_neg (by omega)]; exact hz2 t ht
    · have hjb : j = b.length := by omega
      rw [hjb, List.take_of_length_le (Nat.le_refl _)] at hv2
      have hib : IntKind.i64.wrap (i + q2) = (k + b.length : Nat) := by rw [wrap64 _ (by omega) (by omega)]; omega
      have e6 : IntKind.u32.wrap ci = ((c : Nat) : Int) := by rw [wrapu32]; omega
      rw [hq2, hib, e6]
      simp only [Int.toNat_natCast]
      refine ⟨by omega, by omega, trivial, ?_⟩
      rw [hE2, show ((lim w2).getD (k + b.length) D.nil).put [] (D.int (c : Int)) = D.int (c : Int) from rfl, lim_set]
      refine (ih (_, i + 1) ⟨w2.set (k + b.length) c, k + 1, rfl, by simp; omega, by simp [hwl2], by omega, word_set hww2 hc _, ?_, fun t ht => ?_⟩ (by show a.length - (i + 1).toNat < _; omega)).to rfl rfl rfl
        ⟨rfl, rfl, rfl, wrap64 _ (by omega) (by omega), trivial⟩ ⟨rfl, trivial⟩
      · have h1 := val_set w2 (k + b.length) c (by omega)
        rw [hz2 _ (Nat.le_refl _), Nat.mul_zero, Nat.add_zero] at h1
        rw [h1, hv2, ta, Nat.add_mul]
      · rw [getD_set_nat, if_neg (by omega)]; exact hz2 t (by omega)
  · have hka : k = a.length := by omega
    rw [hka, List.take_of_length_le (Nat.le_refl _)] at hv
    have := trim_val w hww (by omega)
    rw [hv, hr, ← hE] at this
    exact ⟨this, trivial, trivial⟩

end Go.VI
