/- Stores. Slices written out; append; copy. append and copy. copy. -/
import Derived.Test.YtnnikgdmdmbooaaGreatJ02
set_option linter.unusedVariables false
set_option linter.unusedSimpArgs false
namespace Go.VI

section
variable {P : Program} {T : Tab} (hT : TabOK P T) {C : Ctx} {g : Tags} {w : World} {rv : Nat → Value} {ρ : Roots} {sl : List VV} {a : Act}

/-- The cells from o on in block b are the root r's own, and may be written. -/
structure Mine (g : Tags) (w : World) (r b o n : Nat) : Prop where
  tag : ∀ k, k < n → ∃ q κ, g b (o + k) = .own r q κ
  has : ∀ k, k < n → (w.cell? ⟨b, o + k, none⟩).isSome = true
  froz : ∀ k, k < n → w.frozen? ⟨b, o + k, none⟩ = false

theorem setCells_out {r b o : Nat} {vs : List Value} (hm : Mine g w r b o vs.length) {b' o' : Nat} (ht : ∀ q κ, g b' o' ≠ .own r q κ) : cellOf (w.setCells b o vs) b' o' = cellOf w b' o' := by
  unfold cellOf
  refine World.cell?_setCells_out b vs o w ⟨b', o', none⟩ (fun hb _ => ?_)
  simp only at hb
  subst hb
  rcases Nat.lt_or_ge o' o with h | h
  · exact .inl h
  · rcases Nat.lt_or_ge o' (o + vs.length) with h' | h'
    · obtain ⟨q, κ, hq⟩ := hm.tag (o' - o) (by omega)
      rw [show o + (o' - o) = o' from by omega] at hq
      exact absurd hq (ht q κ)
    · exact .inr h'

theorem setCells_frozen {b o : Nat} {vs : List Value} {b' o' : Nat} : frozenOf (w.setCells b o vs) b' o' = frozenOf w b' o' := World.frozen?_setCells b vs o w _

theorem setCells_size {b : Nat} : ∀ (vs : List Value) (o : Nat) (w : World), (w.setCells b o vs).heap.size = w.heap.size
  | [], _, _ => rfl
  | v :: vs, o, w => by rw [World.setCells, setCells_size vs]; simp [World.setCell]

theorem setCells_rest {b : Nat} : ∀ (vs : List Value) (o : Nat) (w : World), (w.setCells b o vs).os = w.os ∧ (w.setCells b o vs).tape = w.tape ∧ (w.setCells b o vs).output = w.output ∧
    ∀ k, k ≠ b → (w.setCells b o vs).heap[k]? = w.heap[k]?
  | [], _, _ => ⟨rfl, rfl, rfl, fun _ _ => rfl⟩
  | v :: vs, o, w => by
    obtain ⟨h1, h2, h3, h4⟩ := setCells_rest vs (o + 1) (w.setCell ⟨b, o, none⟩ v)
    refine ⟨h1, h2, h3, fun k hk => ?_⟩
    rw [World.setCells, h4 k hk]
    exact RowKit.Below.heap_setCell _ _ _ _ hk

theorem write_ev (h : Ev C.w0 C.g0 w g) {r b o : Nat} {vs : List Value} (hm : Mine g w r b o vs.length) : Ev C.w0 C.g0 (w.setCells b o vs) g := by
  obtain ⟨h1, h2, h3, h4⟩ := setCells_rest vs o w (b := b)
  refine ⟨by rw [h1]; exact h.os, by rw [h2]; exact h.tape, by rw [h3]; exact h.output, by rw [setCells_size]; exact h.size, ?_, ?_, ?_, ?_, h.tags⟩
  · intro b' hb hg
    cases vs with
    | nil => exact h.blk b' hb hg
    | cons v vs =>
      rw [h4 b' (fun e => by
        subst e
        obtain ⟨q, κ, hq⟩ := hm.tag 0 (by simp)
        simp only [Nat.add_zero] at hq
        rw [h.tags b' o hb] at hq
        exact hg o r q κ hq)]
      exact h.blk b' hb hg
  · intro b' o' hb hg
    rw [setCells_out hm (fun q κ hq => by rw [h.tags b' o' hb] at hq; exact hg r q κ hq)]
    exact h.cell b' o' hb hg
  · intro b' o' hb; rw [setCells_frozen]; exact h.froz b' o' hb
  · intro b' o' v hb hv
    have := h.has b' o' v hb hv
    exact World.isSome_setCells b vs o w _ this

theorem write_agree {m : Mode} {s : Sh} {d : D} {us : List Value} {ks ks' : Nat → Prop} (h : DR T g w rv ks m s d us) {r b o : Nat} {vs : List Value} (hm : Mine g w r b o vs.length)
    (hne : ∀ q κ, ¬ Cov m (.own r q κ)) (hk : ∀ K, ks K → ks' K) : DR T g (w.setCells b o vs) rv ks' m s d us :=
  h.agree (fun b' o' v hc hv => ⟨rfl, by rw [setCells_out hm (fun q κ e => hne q κ (e ▸ hc))]; exact hv, setCells_frozen⟩) (fun K h => ⟨hk K h, rfl⟩)

/-- Cells of a root are written, and the root reads as other data of the same length. -/
theorem R.write (h : R T C g w rv ρ sl a) {r b o : Nat} {vs : List Value} (hm : Mine g w r b o vs.length) {root root' : Root} (hr : ρ r = some root)
    (he : root'.e = root.e) (hl : root'.els.length = root.els.length) (hav : root'.av = root.av) (hroot : RootR T g (w.setCells b o vs) rv r root')
    (hheld : ∀ K ∈ root'.keys, ∃ rk, ρ K = some rk ∧ rk.held = true ∧ (K = r → root'.held = true)) (hh : root.held = true → root'.held = true) :
    R T C g (w.setCells b o vs) rv (ρ.set r root') sl a := by
  have hsame : ∀ k, SameRoots ρ (ρ.set r root') rv rv k := by
    intro k
    refine ⟨fun root1 root2 h1 h2 => .inl ?_⟩
    simp only [Roots.set] at h2
    split at h2
    · rename_i e
      subst e
      simp only [Option.some.injEq] at h2
      subst h2
      rw [hr] at h1
      simp only [Option.some.injEq] at h1
      subst h1
      exact ⟨he.symm, hl.symm, hav.symm, rfl⟩
    · rw [h1] at h2
      simp only [Option.some.injEq] at h2
      subst h2
      exact ⟨rfl, rfl, rfl, rfl⟩
  refine ⟨write_ev h.ev hm, h.defers, h.len, ?_, ?_, ?_, ?_, ?_, hdr_keep h.hdr fun k rk hk => ?_⟩
  rotate_right
  · by_cases e : k = r
    · subst e
      rw [hr] at hk
      simp only [Option.some.injEq] at hk; subst hk
      exact ⟨root', set_self _ _ _, Nat.le_of_eq hav.symm, fun _ => rfl⟩
    · exact ⟨rk, by simp only [Roots.set]; rw [if_neg e, hk], Nat.le_refl _, fun _ => rfl⟩
  · intro i x v hx hv
    refine (h.slots i x v hx hv).keep (fun b' o' u hi hu => ⟨hi, ?_, setCells_frozen⟩) (h.names i x hx) (fun k _ _ => hsame k)
    rw [setCells_out hm (fun q κ e => by rw [hi] at e; simp at e)]; exact hu
  · intro i x hx k av hn
    obtain ⟨root1, k1, k2⟩ := h.names i x hx k av hn
    simp only [Roots.set]
    split
    · rename_i e
      subst e
      rw [hr] at k1
      simp only [Option.some.injEq] at k1
      subst k1
      exact ⟨root', rfl, by omega⟩
    · exact ⟨root1, k1, k2⟩
  · intro k root2 h2
    simp only [Roots.set] at h2
    split at h2
    · rename_i e
      subst e
      simp only [Option.some.injEq] at h2
      subst h2
      exact hroot
    · rename_i hne
      have hh := h.roots k root2 h2
      refine ⟨hh.dep, write_agree hh.dr hm (fun q κ hc => hne hc.1.symm) (fun _ h => h), hh.full, fun b' o' c h1 k' h2 h3 => ?_, hh.form⟩
      obtain ⟨k1, k2, k3⟩ := hh.spare b' o' c h1 k' h2 h3
      exact ⟨World.isSome_setCells b vs o w _ k1, k2, by rw [setCells_frozen]; exact k3⟩
  · intro b' o' k q κ hg
    have := h.live b' o' k q κ hg
    simp only [Roots.set]
    split
    · rfl
    · exact this
  · intro k root2 h2 K hK
    simp only [Roots.set] at h2 ⊢
    split at h2
    · simp only [Option.some.injEq] at h2
      subst h2
      obtain ⟨rk, k1, k2, k3⟩ := hheld K hK
      by_cases e : K = r
      · rw [if_pos e]; exact ⟨root', rfl, k3 e⟩
      · rw [if_neg e]; exact ⟨rk, k1, k2⟩
    · obtain ⟨rk, k1, k2⟩ := h.held k root2 h2 K hK
      by_cases e : K = r
      · subst e
        rw [if_pos rfl]
        rw [hr] at k1
        simp only [Option.some.injEq] at k1
        subst k1
        exact ⟨root', rfl, hh k2⟩
      · rw [if_neg e]; exact ⟨rk, k1, k2⟩

include hT in
/-- One object of a root put anew. -/
theorem RootR.put {r : Nat} {root : Root} (h : RootR T g w rv r root) {i : Nat} (hi : i < root.els.length) {b o : Nat} (hb : Base (rv r) root b o) {q : List Nat} {t : TypeId} {fo : Nat}
    (hq : flat T root.e q = some (t, fo)) (ht : (T.ty t).isSome) (hz : 0 < T.sz t) {vs : List Value} (hvs : vs.length = T.sz t) {x : D} {ks : List Nat} (hks : ∀ K ∈ root.keys, K ∈ ks)
    (hok : (root.els.getD i .nil).PutOk q) :
    Mine g w r b (o + i * T.sz root.e + fo) vs.length ∧
    (DR T g (w.setCells b (o + i * T.sz root.e + fo) vs) rv (· ∈ ks) (.own r (i :: q) (root.dep - 1)) (.val t) x vs →
      ∀ held, RootR T g (w.setCells b (o + i * T.sz root.e + fo) vs) rv r { root with els := root.els.set i ((root.els.getD i .nil).put q x), keys := ks, held := held }) := by
  obtain ⟨Q, κ, hobj, htgt⟩ := h.at hT hi hb hq
  obtain ⟨us, hd, hc⟩ := hobj.ex
  have hus : us.length = T.sz t := hd.length hT.fit
  have hm : Mine g w r b (o + i * T.sz root.e + fo) vs.length := by
    refine ⟨fun k hk => ?_, fun k hk => ?_, fun k hk => ?_⟩
    · have := hc k us[k] (by simp [show k < us.length by omega]); exact ⟨Q, κ + k, this.2.1⟩
    · have := hc k us[k] (by simp [show k < us.length by omega])
      have h1 := this.1
      unfold cellOf at h1
      rw [h1]; rfl
    · have := hc k us[k] (by simp [show k < us.length by omega]); exact this.2.2
  refine ⟨hm, fun hx held => ?_⟩
  have hu : Upd g w (w.setCells b (o + i * T.sz root.e + fo) vs) r Q κ (T.sz t) := by
    refine ⟨fun b' o' v hne hv => ?_, fun b' o' => setCells_frozen⟩
    rw [← hv]
    unfold cellOf
    refine World.cell?_setCells_out b vs _ w ⟨b', o', none⟩ (fun hb' _ => ?_)
    simp only at hb'
    subst hb'
    rcases Nat.lt_or_ge o' (o + i * T.sz root.e + fo) with h1 | h1
    · exact .inl h1
    · rcases Nat.lt_or_ge o' (o + i * T.sz root.e + fo + vs.length) with h2 | h2
      · have := hc (o' - (o + i * T.sz root.e + fo)) us[o' - (o + i * T.sz root.e + fo)] (by simp [show o' - (o + i * T.sz root.e + fo) < us.length by omega])
        have h3 := this.2.1
        rw [show o + i * T.sz root.e + fo + (o' - (o + i * T.sz root.e + fo)) = o' from by omega] at h3
        exact absurd h3 (hne _ (by omega))
      · exact .inr h2
  -- the root's reading, with more keys let
  have hdr : DR T g w rv (· ∈ ks) (.own r [] root.dep) (.slc root.e) (.list root.els) [rv r] := h.dr.agree (fun _ _ _ _ hv => ⟨rfl, hv, rfl⟩) (fun K hK => ⟨hks K hK, rfl⟩)
  have hobj' : Obj T g w rv (· ∈ ks) r Q κ (i :: q) (root.dep - 1) t ((root.els.getD i .nil).at q) b (o + i * T.sz root.e + fo) :=
    ⟨us, hd.agree (fun _ _ _ _ hv => ⟨rfl, hv, rfl⟩) (fun K hK => ⟨hks K hK, rfl⟩), hc⟩
  have hr2 : RootR T g w rv r { root with keys := ks } := ⟨h.dep, hdr, h.full, h.spare, h.form⟩
  have hel := hr2.elem (i := i) hi (b := b) (o := o) hb
  have hnew : Obj T g (w.setCells b (o + i * T.sz root.e + fo) vs) rv (· ∈ ks) r Q κ ([i] ++ q) (root.dep - 1) t x b (o + i * T.sz root.e + fo) := by
    refine ⟨vs, by simpa using hx, fun k v hk => ?_⟩
    have hkl : k < vs.length := by
      rcases Nat.lt_or_ge k vs.length with h' | h'
      · exact h'
      · rw [List.getElem?_eq_none h'] at hk; simp at hk
    have hold := hc k us[k] (by simp [show k < us.length by omega])
    refine ⟨?_, hold.2.1, by rw [setCells_frozen]; exact hold.2.2⟩
    have := World.cell?_setCells_in b vs _ w hm.has k hkl
    unfold cellOf
    rw [this]
    rw [List.getElem?_eq_getElem hkl] at hk
    exact hk
  have hput := Obj.put hT.fit q hel ⟨[i], rfl, by simp⟩ (nav_flat T q root.e _ _ t fo hq) (loc_flat T w q _ _ _ t fo hq) (by simpa using hobj') (by simpa using htgt) hz hu hnew hok (fun _ => ⟨[], .inr trivial⟩)
  obtain ⟨n, hn⟩ : ∃ n, root.dep = n + 1 := ⟨root.dep - 1, by have := h.dep; omega⟩
  obtain ⟨c, hbc⟩ := hb
  refine ⟨h.dep, ?_, ?_, fun b' o' c' h1 k' h2 h3 => ?_, by simpa using h.form⟩
  · rw [hn] at hdr ⊢
    rw [hn] at hput
    exact node_upd hT.fit (d := .list root.els) hdr (by simpa [D.els] using hi) hu (by simpa using htgt) (a := ⟨b, o, none⟩) (c := c) (by simpa [D.els] using hbc) (by simpa using hput) (by simp [D.els])
  · intro hf
    obtain ⟨A, hA⟩ := h.full hf
    exact ⟨A, by simpa using hA⟩
  · simp only [List.length_set] at h1 h2
    obtain ⟨k1, k2, k3⟩ := h.spare b' o' c' h1 k' h2 h3
    exact ⟨World.isSome_setCells b vs _ w _ k1, k2, by rw [setCells_frozen]; exact k3⟩

theorem R.setHeld (h : R T C g w rv ρ sl a) {K : Nat} {rk : Root} (hk : ρ K = some rk) : R T C g w rv (ρ.set K { rk with held := true }) sl a := by
  have hsame : ∀ k, SameRoots ρ (ρ.set K { rk with held := true }) rv rv k := by
    intro k
    refine ⟨fun root1 root2 h1 h2 => .inl ?_⟩
    simp only [Roots.set] at h2
    split at h2
    · rename_i e
      subst e
      simp only [Option.some.injEq] at h2
      subst h2
      rw [hk] at h1
      simp only [Option.some.injEq] at h1
      subst h1
      exact ⟨rfl, rfl, rfl, rfl⟩
    · rw [h1] at h2
      simp only [Option.some.injEq] at h2
      subst h2
      exact ⟨rfl, rfl, rfl, rfl⟩
  refine ⟨h.ev, h.defers, h.len, fun i x v hx hv => (h.slots i x v hx hv).keep (fun b' o' u hi hu => ⟨hi, hu, rfl⟩) (h.names i x hx) (fun k _ _ => hsame k), ?_, ?_, ?_, ?_, hdr_keep h.hdr fun k r2 hk2 => ?_⟩
  rotate_right
  · by_cases e : k = K
    · subst e
      rw [hk] at hk2
      simp only [Option.some.injEq] at hk2; subst hk2
      exact ⟨_, set_self _ _ _, Nat.le_refl _, fun _ => rfl⟩
    · exact ⟨r2, by simp only [Roots.set]; rw [if_neg e, hk2], Nat.le_refl _, fun _ => rfl⟩
  · intro i x hx k av hn
    obtain ⟨root1, k1, k2⟩ := h.names i x hx k av hn
    simp only [Roots.set]
    split
    · rename_i e
      subst e
      rw [hk] at k1
      simp only [Option.some.injEq] at k1
      subst k1
      exact ⟨_, rfl, k2⟩
    · exact ⟨root1, k1, k2⟩
  · intro k root2 h2
    simp only [Roots.set] at h2
    split at h2
    · rename_i e
      subst e
      simp only [Option.some.injEq] at h2
      subst h2
      have := h.roots _ _ hk
      exact ⟨this.dep, this.dr, this.full, this.spare, this.form⟩
    · exact h.roots k root2 h2
  · intro b' o' k q κ hg
    have := h.live b' o' k q κ hg
    simp only [Roots.set]
    split
    · rfl
    · exact this
  · intro k root2 h2 K' hK
    simp only [Roots.set] at h2 ⊢
    split at h2
    · rename_i e
      subst e
      simp only [Option.some.injEq] at h2
      subst h2
      obtain ⟨rk', k1, k2⟩ := h.held k rk hk K' hK
      by_cases e : K' = k
      · rw [if_pos e]; exact ⟨_, rfl, rfl⟩
      · rw [if_neg e]; exact ⟨rk', k1, k2⟩
    · obtain ⟨rk', k1, k2⟩ := h.held k root2 h2 K' hK
      by_cases e : K' = K
      · rw [if_pos e]; exact ⟨_, rfl, rfl⟩
      · rw [if_neg e]; exact ⟨rk', k1, k2⟩

def storeV (T : Tab) (t : TypeId) (x y : VV) (ρ : Roots) : Option Res :=
  match x with
  | .addr r av i q t' =>
    match cur ρ r av with
    | none => none
    | some root =>
      if t' = t then
        match toD T t y with
        | some d =>
          if root.dep = 1 then some { x := .dead, ups := [(r, { root with els := root.els.set i ((root.els.getD i .nil).put q d) })], obs := [(root.els.getD i .nil).PutOk q] }
          else if scalar T t then some { x := .dead, ups := [(r, { root with els := root.els.set i ((root.els.getD i .nil).put q d) })], obs := [(root.els.getD i .nil).PutOk q] }
          else none
        | none =>
          match y, T.ty t with
          | .top K kav, some (.slice _) =>
            match cur ρ K kav with
            | some rk =>
              if K = r then none
              else if 1 < root.dep then
                some { x := .dead, ups := [(K, { rk with held := true }), (r, { root with els := root.els.set i ((root.els.getD i .nil).put q (.key K)), keys := K :: root.keys })],
                       obs := [(root.els.getD i .nil).PutOk q] }
              else none
            | none => none
          | _, _ => none
      else none
  | _ => none

include hT in
theorem run_storeAt {t : TypeId} (ht : (T.ty t).isSome) {v : Value} (hv : v.cells.toList.length = T.sz t) (h1 : ∀ u ∈ v.cells.toList, u.oneCell' = true) {r b o : Nat} (hm : Mine g w r b o v.cells.toList.length) :
    (Instr.storeAt t (.pointer (some ⟨b, o, none⟩)) v).run P w = .ok () (w.setCells b o v.cells.toList) := by
  simp only [Instr.storeAt, Instr.sureAddr, Sem.run_bind, Sem.run_pure, Result.andThen_ok, storeVar, run_size hT ht]
  rw [if_neg (by simp at hv; simp [hv])]
  have := run_storeCells_cells (P := P) b o v.cells.toList 0 w (fun j hj => by simpa using hm.has j hj) (fun j hj => by simpa using hm.froz j hj) h1
  simpa using this

theorem RootR.header_one {r : Nat} {root : Root} (h : RootR T g w rv r root) : (rv r).oneCell' = true := by
  obtain ⟨A, c, b, o, us, h1, _⟩ := h.dr.node_inv
  simp only [List.cons.injEq, and_true] at h1
  rw [h1]; rfl

include hT in
theorem storeV_sound (hz : ∀ t, (T.ty t).isSome → 0 < T.sz t) (h : R T C g w rv ρ sl a) {t : TypeId} {x y : VV} {u v : Value} {res : Res} (hx : SR T g w rv ρ x u) (hy : SR T g w rv ρ y v)
    (hv : storeV T t x y ρ = some res) (ho : ∀ p ∈ res.obs, p) :
    ∃ w', (Instr.storeAt t u v).run P w = .ok () w' ∧ R T C g w' rv (ups ρ res.ups) sl a ∧ res.x = .dead := by
  unfold storeV at hv
  split at hv
  · rename_i r av i q t'
    split at hv
    · simp at hv
    · rename_i root hc
      obtain ⟨hroot, hav⟩ := cur_some hc
      split at hv
      · rename_i e
        subst e
        cases hx with
        | addr hx =>
          obtain ⟨hi, fo, b, o, hq, hb, rfl⟩ := hx root hroot hav
          have hR := h.roots r root hroot
          split at hv
          · rename_i d hd
            obtain ⟨h1, h2⟩ := toD_dr hT hy hd
            have htt : (T.ty t').isSome := by
              unfold toD at hd
              cases hty : T.ty t' with
              | none => rw [hty] at hd; simp at hd
              | some _ => rfl
            have hone := h1.one (fun K hK => hK.elim)
            have key : (∀ w', DR T g w' rv imms .imm (.val t') d v.cells.toList → DR T g w' rv (· ∈ root.keys) (.own r (i :: q) (root.dep - 1)) (.val t') d v.cells.toList) → (root.els.getD i .nil).PutOk q →
                ∃ w', (Instr.storeAt t' (.pointer (some ⟨b, o + i * T.sz root.e + fo, none⟩)) v).run P w = .ok () w' ∧
                  R T C g w' rv (ρ.set r { root with els := root.els.set i ((root.els.getD i .nil).put q d) }) sl a := by
              intro hcast hok
              obtain ⟨hm, hput⟩ := hR.put hT hi hb hq htt (hz _ htt) h2 (x := d) (ks := root.keys) (fun _ h => h) hok
              have hd' := write_agree (ks' := imms) h1 hm (fun q κ hc => hc) (fun _ h => h)
              have hroot' := hput (hcast _ hd') root.held
              refine ⟨_, run_storeAt hT htt h2 hone hm, ?_⟩
              exact h.write hm hroot (root' := { root with els := root.els.set i ((root.els.getD i .nil).put q d) }) rfl (by simp) rfl hroot' (fun K hK => by
                obtain ⟨rk, k1, k2⟩ := h.held r root hroot K hK
                exact ⟨rk, k1, k2, fun e => by subst e; rw [hroot] at k1; simp only [Option.some.injEq] at k1; subst k1; exact k2⟩) (fun h => h)
            split at hv
            · rename_i hdep
              simp only [Option.some.injEq] at hv; subst hv
              obtain ⟨hok, _⟩ := all_cons ho
              obtain ⟨w', k1, k2⟩ := key (fun w' hh => by rw [hdep]; exact hh.zero_of_imm rfl r (i :: q) rv _) hok
              exact ⟨w', k1, k2, rfl⟩
            · split at hv
              · rename_i hsc
                simp only [Option.some.injEq] at hv; subst hv
                obtain ⟨hok, _⟩ := all_cons ho
                obtain ⟨w', k1, k2⟩ := key (fun w' hh => scalar_imm hh hsc _ _ _ _ _) hok
                exact ⟨w', k1, k2, rfl⟩
              · simp at hv
          · split at hv
            · rename_i K kav e hty hnone
              split at hv
              · rename_i rk hck
                obtain ⟨hK, hkav⟩ := cur_some hck
                split at hv
                · simp at hv
                · rename_i hne
                  split at hv
                  · rename_i hdep
                    simp only [Option.some.injEq] at hv; subst hv
                    obtain ⟨hok, _⟩ := all_cons ho
                    cases hy with
                    | top hy =>
                      have hval := hy rk hK hkav
                      subst hval
                      have htt : (T.ty t').isSome := by rw [hty]; rfl
                      have hone : (rv K).oneCell' = true := (h.roots K rk hK).header_one
                      have hcells : (rv K).cells.toList = [rv K] := by
                        revert hone; cases rv K <;> intro hone <;> first | rfl | simp [Value.oneCell'] at hone
                      have h1 := h.setHeld hK
                      have hroot1 : (ρ.set K { rk with held := true }) r = some root := by simp only [Roots.set]; rw [if_neg (fun e => hne e.symm)]; exact hroot
                      have hlen : (rv K).cells.toList.length = T.sz t' := by rw [hcells, hT.fit.slice _ _ hty]; rfl
                      obtain ⟨hm, hput⟩ := hR.put hT hi hb hq htt (hz _ htt) hlen (x := .key K) (ks := K :: root.keys) (fun _ h => List.mem_cons_of_mem _ h) hok
                      obtain ⟨n, hn⟩ : ∃ n, root.dep - 1 = n + 1 := ⟨root.dep - 2, by omega⟩
                      have hroot' := hput (by rw [hn, hcells]; exact .key hty (by simp)) root.held
                      refine ⟨_, run_storeAt hT htt hlen (fun u hu => by rw [hcells] at hu; simp at hu; subst hu; exact hone) hm, ?_, rfl⟩
                      exact h1.write hm hroot1 (root' := { root with els := root.els.set i ((root.els.getD i .nil).put q (.key K)), keys := K :: root.keys }) rfl (by simp) rfl hroot' (fun K' hK' => by
                        simp only [List.mem_cons] at hK'
                        by_cases e : K' = K
                        · subst e
                          exact ⟨{ rk with held := true }, by simp [Roots.set], rfl, fun e => absurd e hne⟩
                        · have hK2 := hK'.resolve_left e
                          obtain ⟨rk', k1, k2⟩ := h.held r root hroot K' hK2
                          refine ⟨rk', by simp only [Roots.set]; rw [if_neg e]; exact k1, k2, fun e' => ?_⟩
                          subst e'; rw [hroot] at k1; simp only [Option.some.injEq] at k1; subst k1; exact k2) (fun h => h)
                  · simp at hv
              · simp at hv
            · simp at hv
      · simp at hv
  · simp at hv

end
end Go.VI

namespace Go.VI

section
variable {P : Program} {T : Tab} (hT : TabOK P T) {C : Ctx} {g : Tags} {w : World} {rv : Nat → Value} {ρ : Roots} {sl : List VV} {a : Act}

/-! ### A slice written out -/

def buildSliceV (T : Tab) (t : TypeId) (len : Nat) (parts : List (Nat × VV)) : Option VV :=
  match T.ty t with
  | some (.slice e) => if len * T.sz e ≤ 16777216 then (layV T (fun _ => e) (List.replicate len (T.zero e)) parts).map fun l => .imm e true l else none
  | _ => none

theorem Parts.keep {T : Tab} {g : Tags} {w : World} {rv : Nat → Value} {ρ : Roots} {ps : List (Nat × Value)} {xs : List (Nat × VV)} (h : Parts T g w rv ρ ps xs)
    {g' : Tags} {w' : World} (hk : ∀ x v, SR T g w rv ρ x v → SR T g' w' rv ρ x v) : Parts T g' w' rv ρ ps xs := by
  induction h with
  | nil => exact .nil
  | cons h1 _ ih => exact .cons (hk _ _ h1) ih

include hT in
theorem buildSliceV_sound (h : R T C g w rv ρ sl a) {t : TypeId} {len : Nat} {ps : Array (Nat × Value)} {xs : List (Nat × VV)} {z : VV} (hp : Parts T g w rv ρ ps.toList xs) (hv : buildSliceV T t len xs = some z) :
    ∃ v w' g', (Instr.buildSlice t len ps).run P w = .ok v w' ∧ R T C g' w' rv ρ sl a ∧ SR T g' w' rv ρ z v ∧ ∀ r av, ¬ Names r av z := by
  unfold buildSliceV at hv
  split at hv
  · rename_i e ht
    split at hv
    · rename_i hsz
      cases hlay : layV T (fun _ => e) (List.replicate len (T.zero e)) xs with
      | none => rw [hlay] at hv; simp at hv
      | some l =>
        rw [hlay] at hv
        simp only [Option.map_some, Option.some.injEq] at hv; subst hv
        obtain ⟨hu, he⟩ := hT.slice _ _ ht
        obtain ⟨i, zv, h1, h2, h3, h4, h5⟩ := hT.info e he
        have hzs : zv.cells.size = T.sz e := by simpa using (h5 .imm g w rv imms).length hT.fit
        let cs0 : Array Value := (Array.range (len * T.sz e)).map ((if len * T.sz e = 0 then #[] else zv.cells)[· % (if len * T.sz e = 0 then #[] else zv.cells).size]!)
        have hcs0 : cs0.toList = (List.range len).flatMap (fun _ => zv.cells.toList) := by
          simp only [cs0]
          by_cases h0 : len * T.sz e = 0
          · simp only [h0, if_true]
            rcases Nat.mul_eq_zero.1 h0 with h0 | h0
            · subst h0; simp
            · have : zv.cells = #[] := by rw [h0] at hzs; simpa using hzs
              simp [this]
          · simp only [if_neg h0]
            rw [← hzs]
            exact made_flat zv.cells len
        have hplace : ∀ j, j < len → (fun i => some (i * T.sz e, T.sz e)) j = some (((List.range j).map (fun _ => T.sz e)).sum, T.sz e) := by
          intro j _; rw [sum_const]
        obtain ⟨k1, cells', us', k2, k3, k4⟩ := fill_sound hT len (fun _ => e) (fun i => some (i * T.sz e, T.sz e)) hplace ps.toList xs hp (List.replicate len (T.zero e)) l cs0 (fun _ => zv.cells.toList) (by simp) hlay hcs0
          (fun j hj => by
            have e1 : (List.replicate len (T.zero e)).getD j .nil = T.zero e := by simp [List.getD_eq_getElem?_getD, List.getElem?_replicate, hj]
            rw [e1]; exact h5 .imm g w rv imms)
        have hR := h.newImm cells' e
        have hlen : ∀ j, j < len → (us' j).length = T.sz e := fun j hj => (k4 j hj).length hT.fit
        refine ⟨.slice (some ⟨w.heap.size, 0, none⟩) len len, _, _, ?_, hR, .imm ?_ (fun _ => ⟨_, by rw [k1]⟩), fun r av hn => by cases hn⟩
        · have hstep : (Instr.fill (fun i => some (i * T.sz e, T.sz e)) cs0 ps.toList) = some cells' := k2
          simp only [Instr.buildSlice, Sem.run_bind, run_underlying hu, Result.andThen_ok, run_size hT he]
          rw [if_neg (by omega)]
          by_cases h0 : len * T.sz e = 0
          · simp only [cs0, h0, if_true] at hstep
            simp only [h0, if_true, Sem.run_bind, Sem.run_pure, Result.andThen_ok, hstep, newRow, run_newObj]
            rfl
          · simp only [cs0, if_neg h0] at hstep
            simp only [if_neg h0, zeroValue, typeInfo, Sem.run_bind, run_program, h1, Sem.run_pure, h4, Result.andThen_ok, hstep, newRow, run_newObj]
            rfl
        · rw [← k1]
          refine DR.node (d := .list l) _ _ w.heap.size 0 us' (fun _ => rfl) (Nat.le_refl _) (fun i hi => hlen i (by simpa [D.els, k1] using hi)) ?_ ?_
          · intro i k v hi hv
            simp only [D.els, k1] at hi
            have hg := flat_get len (fun _ => T.sz e) us' hlen i hi k v hv
            rw [sum_const, ← k3] at hg
            refine ⟨?_, ?_, fun hm => absurd rfl hm⟩
            · rw [push_cell_new]; simpa using hg
            · simp [newTags, Mode.tag]
          · intro i hi
            simp only [D.els, k1] at hi
            exact new_agree (k4 i hi) cells' e _ (fun _ h => ⟨h, rfl⟩)
    · simp at hv
  · simp at hv

/-! ### What is read of a slice -/

def srcV (e : TypeId) (y : VV) (ρ : Roots) : Option (List D) :=
  match y with
  | .imm e' _ els => if e' = e then some els else none
  | .nils => some []
  | .top r av => match cur ρ r av with
    | some root => if root.e = e then if root.dep = 1 then some root.els else none else none
    | none => none
  | .win r av off len _ => match cur ρ r av with
    | some root => if root.e = e then if root.dep = 1 then some ((root.els.drop off).take len) else none else none
    | none => none
  | _ => none

/-- A slice's elements, each as its cells. -/
structure Src (T : Tab) (g : Tags) (w : World) (rv : Nat → Value) (e : TypeId) (els : List D) (u : Value) : Prop where
  ex : ∃ (A : Option Addr) (c b o : Nat) (us : Nat → List Value), u = .slice A els.length c ∧ els.length ≤ c ∧ (els ≠ [] → A = some ⟨b, o, none⟩) ∧
    (∀ i, i < els.length → (us i).length = T.sz e ∧ DR T g w rv imms .imm (.val e) (els.getD i .nil) (us i)) ∧
    (∀ i k v, i < els.length → (us i)[k]? = some v → cellOf w b (o + i * T.sz e + k) = some v)

theorem Src.of_root {r : Nat} {root : Root} (h : RootR T g w rv r root) (hd : root.dep = 1) : Src T g w rv root.e root.els (rv r) := by
  have hdr := h.dr
  rw [hd] at hdr
  obtain ⟨A, c, b, o, us, h1, h2, h3, h4, h5, h6⟩ := hdr.node_inv
  simp only [List.cons.injEq, and_true] at h1
  simp only [D.els] at *
  exact ⟨A, c, b, o, us, h1, h3, h2, fun i hi => ⟨h4 i hi, (h6 i hi).imm_of_zero (.inr ⟨r, [i], rfl⟩) rv imms⟩, fun i k v hi hv => (h5 i k v hi hv).1⟩

theorem srcV_sound (hr : ∀ r root, ρ r = some root → RootR T g w rv r root) {e : TypeId} {y : VV} {u : Value} {els : List D} (hy : SR T g w rv ρ y u) (h : srcV e y ρ = some els) :
    Src T g w rv e els u := by
  unfold srcV at h
  split at h
  · rename_i e' full els'
    split at h
    · rename_i he
      subst he
      simp only [Option.some.injEq] at h; subst h
      cases hy with
      | imm hd _ =>
        obtain ⟨A, c, b, o, us, h1, h2, h3, h4, h5, h6⟩ := hd.node_inv
        simp only [List.cons.injEq, and_true] at h1
        simp only [D.els] at *
        exact ⟨A, c, b, o, us, h1, h3, h2, fun i hi => ⟨h4 i hi, h6 i hi⟩, fun i k v hi hv => (h5 i k v hi hv).1⟩
    · simp at h
  · simp only [Option.some.injEq] at h; subst h
    cases hy
    exact ⟨none, 0, 0, 0, fun _ => [], rfl, Nat.le_refl _, fun h => absurd rfl h, fun i hi => absurd hi (by simp), fun i k v hi => absurd hi (by simp)⟩
  · rename_i r av
    split at h
    · rename_i root hc
      obtain ⟨hroot, hav⟩ := cur_some hc
      split at h
      · rename_i he
        subst he
        split at h
        · rename_i hd
          simp only [Option.some.injEq] at h; subst h
          cases hy with
          | top hy => rw [hy root hroot hav]; exact Src.of_root (hr r root hroot) hd
        · simp at h
      · simp at h
    · simp at h
  · rename_i r av off len full
    split at h
    · rename_i root hc
      obtain ⟨hroot, hav⟩ := cur_some hc
      split at h
      · rename_i he
        subst he
        split at h
        · rename_i hd
          simp only [Option.some.injEq] at h; subst h
          cases hy with
          | win hy =>
            obtain ⟨k1, A, c, k2, k3, k4, k5⟩ := hy root hroot hav
            obtain ⟨A', c', b, o, us, m1, m2, m3, m4, m5⟩ := (Src.of_root (hr r root hroot) hd).ex
            have hlen : ((root.els.drop off).take len).length = len := by simp; omega
            refine ⟨A, c, b, o + off * T.sz root.e, fun i => us (off + i), by rw [hlen]; exact k2, by rw [hlen]; exact k3, fun hne => ?_, fun i hi => ?_, fun i k v hi hv => ?_⟩
            · have hpos : 0 < len := by rw [← hlen]; exact List.length_pos_iff.2 hne
              obtain ⟨b2, o2, ⟨c2, hb2⟩, hA⟩ := k5 hpos
              have hne' : root.els ≠ [] := by intro e; rw [e] at k1; simp at k1; omega
              have hA' := m3 hne'
              rw [m1, hA'] at hb2
              simp only [Value.slice.injEq, Option.some.injEq, Addr.mk.injEq] at hb2
              obtain ⟨⟨rfl, rfl, -⟩, -, -⟩ := hb2
              exact hA
            · rw [hlen] at hi
              have := m4 (off + i) (by omega)
              have e : ((root.els.drop off).take len).getD i .nil = root.els.getD (off + i) .nil := by
                simp only [List.getD_eq_getElem?_getD, List.getElem?_take, List.getElem?_drop]
                rw [if_pos hi]
              rw [e]; exact this
            · rw [hlen] at hi
              have := m5 (off + i) k v (by omega) hv
              rw [Nat.add_mul] at this
              rw [show o + off * T.sz root.e + i * T.sz root.e + k = o + (off * T.sz root.e + i * T.sz root.e) + k from by omega]
              exact this
        · simp at h
      · simp at h
    · simp at h
  · simp at h

theorem run_firstCells {e : TypeId} {els : List D} {us : Nat → List Value} {A : Option Addr} {c b o : Nat} (hA : els ≠ [] → A = some ⟨b, o, none⟩) (hl : ∀ i, i < els.length → (us i).length = T.sz e)
    (hc : ∀ i k v, i < els.length → (us i)[k]? = some v → cellOf w b (o + i * T.sz e + k) = some v) {m : Nat} (hm : m ≤ els.length) :
    (Builtin.firstCells (T.sz e) m (.slice A els.length c)).run P w = .ok ((List.range m).flatMap us).toArray w := by
  have hlm : ((List.range m).flatMap us).length = m * T.sz e := by rw [flat_length m (fun _ => T.sz e) us (fun j hj => hl j (by omega)), sum_const]
  cases hA' : A with
  | none =>
    have hnil : els = [] := by
      rcases Classical.em (els = []) with h | h
      · exact h
      · rw [hA h] at hA'; simp at hA'
    subst hnil
    have : m = 0 := by simpa using hm
    subst this
    simp [Builtin.firstCells]
  | some ad =>
    simp only [Builtin.firstCells]
    rcases Nat.eq_zero_or_pos m with h0 | hpos
    · subst h0
      simp [loadCells, loadCellsFrom]
    · have hne : els ≠ [] := by intro e; rw [e] at hm; simp at hm; omega
      rw [hA hne] at hA'
      simp only [Option.some.injEq] at hA'; subst hA'
      rw [← hlm]
      refine run_loadCells_list w ⟨b, o, none⟩ _ (fun j v hj => ?_)
      obtain ⟨i, k, hi, hv, rfl⟩ := flat_inv m (fun _ => T.sz e) us (fun j hj => hl j (by omega)) j v hj
      rw [Addr.add_mid, sum_const]
      have := hc i k v (by omega) hv
      unfold cellOf at this
      rw [← this]
      congr 2
      omega

end
end Go.VI

namespace Go.VI

theorem growBy_le (need : Nat) : ∀ (n c : Nat), c ≤ need + (need + 768) / 4 → Builtin.growBy need n c ≤ need + (need + 768) / 4
  | 0, c, h => h
  | n + 1, c, h => by
    simp only [Builtin.growBy]
    split
    · exact h
    · exact growBy_le need n _ (by omega)

theorem nextslicecap_le (need cap : Nat) (h : cap < need) : Builtin.nextslicecap need cap ≤ 2 * need + 192 := by
  unfold Builtin.nextslicecap
  split
  · omega
  · split
    · omega
    · have := growBy_le need 4 cap (by omega); omega

section
variable {P : Program} {T : Tab} (hT : TabOK P T) {C : Ctx} {g : Tags} {w : World} {rv : Nat → Value} {ρ : Roots} {sl : List VV} {a : Act}

theorem SR.heap {w' : World} {x : VV} {v : Value} (h : SR T g w rv ρ x v) (hl : Live ρ x) (hh : w'.heap = w.heap) : SR T g w' rv ρ x v :=
  h.keep (fun b o u h1 h2 => ⟨h1, by simpa [cellOf, World.cell?, hh] using h2, by simp [frozenOf, World.frozen?, hh]⟩) hl (fun r _ _ => .refl _ _ _)

/-- A root of one level, out of its cells. -/
theorem RootR.make1 {r : Nat} {e : TypeId} {els : List D} {b o c : Nat} {us : Nat → List Value} {f held one : Bool} {av : Nat} {ks : List Nat} (hv : rv r = .slice (some ⟨b, o, none⟩) els.length c) (hcap : els.length ≤ c)
    (hf : f = true → c = els.length)
    (hlen : ∀ i, i < els.length → (us i).length = T.sz e)
    (hcell : ∀ k v, ((List.range els.length).flatMap us)[k]? = some v → cellOf w b (o + k) = some v)
    (hown : ∀ k, k < c * T.sz e → (cellOf w b (o + k)).isSome ∧ g b (o + k) = .own r [] k ∧ frozenOf w b (o + k) = false)
    (hels : ∀ i, i < els.length → DR T g w rv imms .imm (.val e) (els.getD i .nil) (us i)) :
    RootR T g w rv r { e := e, els := els, dep := 1, full := f, av := av, held := held, keys := ks, one := one } := by
  refine ⟨Nat.le_refl _, ?_, fun hf' => ⟨some ⟨b, o, none⟩, by simp [hv, hf hf']⟩, fun b' o' c' h1 k h2 h3 => ?_, .inl ⟨b, o, c, hv⟩⟩
  · simp only
    rw [hv]
    refine DR.node (d := .list els) _ _ b o us (fun _ => rfl) hcap hlen ?_ ?_
    · intro i k v hi hv
      simp only [D.els] at hi
      have hk : k < T.sz e := by
        rw [← hlen i hi]
        rcases Nat.lt_or_ge k (us i).length with h | h
        · exact h
        · rw [List.getElem?_eq_none h] at hv; simp at hv
      have hg := flat_get els.length (fun _ => T.sz e) us hlen i hi k v hv
      rw [sum_const] at hg
      have h1 := hcell _ _ hg
      have hlt : i * T.sz e + k < c * T.sz e := by
        have : (i + 1) * T.sz e ≤ c * T.sz e := Nat.mul_le_mul_right _ (by omega)
        rw [Nat.add_mul] at this; omega
      obtain ⟨_, h2, h3⟩ := hown _ hlt
      rw [← Nat.add_assoc] at h1 h2 h3
      exact ⟨h1, h2, fun _ => h3⟩
    · intro i hi
      exact (hels i hi).zero_of_imm rfl r [i] rv _
  · rw [hv] at h1
    simp only [Value.slice.injEq, Option.some.injEq, Addr.mk.injEq] at h1
    obtain ⟨⟨rfl, rfl, -⟩, -, rfl⟩ := h1
    exact hown k h3

/-- A root turns: its header, its cells, its elements. -/
theorem R.turn (h : R T C g w rv ρ sl a) {g' : Tags} {w' : World} {rv' : Nat → Value} {r : Nat} {root root' : Root} (hr : ρ r = some root) (hnh : root.held = false)
    (hev : Ev C.w0 C.g0 w' g') (hav : root.av < root'.av)
    (hkeep : ∀ b o v, (∀ q k, g b o ≠ .own r q k) → cellOf w b o = some v → g' b o = g b o ∧ cellOf w' b o = some v ∧ frozenOf w' b o = frozenOf w b o)
    (hlive : ∀ b o r' q k, g' b o = .own r' q k → r' = r ∨ (ρ r').isSome) (hrv : ∀ k, k ≠ r → rv' k = rv k)
    (hroot : RootR T g' w' rv' r root') (hks : root'.keys = []) : R T C g' w' rv' (ρ.set r root') sl a := by
  refine ⟨hev, h.defers, h.len, fun i x v hx hv => ?_, ?_, ?_, ?_, ?_, hdr_keep h.hdr fun k rk hk => ?_⟩
  rotate_right
  · by_cases e : k = r
    · subst e
      rw [hr] at hk
      simp only [Option.some.injEq] at hk; subst hk
      exact ⟨root', set_self _ _ _, Nat.le_of_lt hav, fun e => by omega⟩
    · exact ⟨rk, by simp only [Roots.set]; rw [if_neg e, hk], Nat.le_refl _, fun _ => hrv k e⟩
  · refine (h.slots i x v hx hv).keep (fun b o u hi hu => ?_) (h.names i x hx) (fun k av hn => ⟨fun root1 root2 h1 h2 => ?_⟩)
    · obtain ⟨k1, k2, k3⟩ := hkeep b o u (fun q k e => by rw [hi] at e; simp at e) hu
      exact ⟨by rw [k1]; exact hi, k2, k3⟩
    · simp only [Roots.set] at h2
      split at h2
      · rename_i e
        subst e
        rw [hr] at h1
        simp only [Option.some.injEq] at h1 h2
        subst h1 h2
        exact .inr hav
      · rename_i e
        rw [h1] at h2
        simp only [Option.some.injEq] at h2
        subst h2
        exact .inl ⟨rfl, rfl, rfl, hrv k e⟩
  · intro i x hx k av hn
    obtain ⟨root1, k1, k2⟩ := h.names i x hx k av hn
    simp only [Roots.set]
    split
    · rename_i e
      subst e
      rw [hr] at k1
      simp only [Option.some.injEq] at k1
      subst k1
      exact ⟨root', rfl, by omega⟩
    · exact ⟨root1, k1, k2⟩
  · intro k root2 h2
    simp only [Roots.set] at h2
    split at h2
    · rename_i e
      subst e
      simp only [Option.some.injEq] at h2
      subst h2
      exact hroot
    · rename_i hne
      have hh := h.roots k root2 h2
      refine ⟨hh.dep, ?_, ?_, fun b o c h1 k' h2 h3 => ?_, by rw [hrv k hne]; exact hh.form⟩
      · rw [hrv k hne]
        refine hh.dr.agree (fun b o v hc hv => hkeep b o v (fun q k' e => ?_) hv) (fun K hK => ⟨hK, hrv K (fun e => ?_)⟩)
        · rw [e] at hc; exact hne hc.1.symm
        · subst e
          obtain ⟨rk, k1, k2⟩ := h.held k root2 h2 K hK
          rw [hr] at k1
          simp only [Option.some.injEq] at k1
          subst k1
          rw [hnh] at k2; simp at k2
      · rw [hrv k hne]; exact hh.full
      · rw [hrv k hne] at h1
        obtain ⟨k1, k2, k3⟩ := hh.spare b o c h1 k' h2 h3
        obtain ⟨v, hv⟩ := Option.isSome_iff_exists.1 k1
        obtain ⟨m1, m2, m3⟩ := hkeep b (o + k') v (fun q k'' e => by
          rw [k2] at e
          simp only [Tag.own.injEq] at e
          exact hne e.1) hv
        exact ⟨by rw [m2]; rfl, by rw [m1]; exact k2, by rw [m3]; exact k3⟩
  · intro b o k q κ hg
    simp only [Roots.set]
    split
    · rfl
    · rename_i hne
      exact (hlive b o k q κ hg).resolve_left hne
  · intro k root2 h2 K hK
    simp only [Roots.set] at h2 ⊢
    split at h2
    · simp only [Option.some.injEq] at h2
      subst h2
      rw [hks] at hK; simp at hK
    · obtain ⟨rk, k1, k2⟩ := h.held k root2 h2 K hK
      by_cases e : K = r
      · subst e
        rw [hr] at k1
        simp only [Option.some.injEq] at k1
        subst k1
        rw [hnh] at k2; simp at k2
      · rw [if_neg e]; exact ⟨rk, k1, k2⟩

/-! ### append -/

theorem flat_two (m n : Nat) (us0 us1 : Nat → List Value) :
    (List.range (m + n)).flatMap (fun i => if i < m then us0 i else us1 (i - m)) = (List.range m).flatMap us0 ++ (List.range n).flatMap us1 := by
  rw [List.range_add, List.flatMap_append, List.flatMap_map]
  congr 1
  · unfold List.flatMap
    congr 1
    apply List.map_congr_left
    intro i hi
    rw [if_pos (List.mem_range.1 hi)]
  · unfold List.flatMap
    congr 1
    apply List.map_congr_left
    intro i hi
    rw [if_neg (by omega), show m + i - m = i from by omega]

theorem getD_two (l0 l1 : List D) (i : Nat) : (l0 ++ l1).getD i .nil = if i < l0.length then l0.getD i .nil else l1.getD (i - l0.length) .nil := by
  simp only [List.getD_eq_getElem?_getD]
  split
  · rename_i h; rw [List.getElem?_append_left h]
  · rename_i h; rw [List.getElem?_append_right (by omega)]

theorem two_elems {e : TypeId} {els0 els1 : List D} {us0 us1 : Nat → List Value} (h0 : ∀ i, i < els0.length → (us0 i).length = T.sz e ∧ DR T g w rv imms .imm (.val e) (els0.getD i .nil) (us0 i))
    (h1 : ∀ i, i < els1.length → (us1 i).length = T.sz e ∧ DR T g w rv imms .imm (.val e) (els1.getD i .nil) (us1 i)) :
    ∀ i, i < (els0 ++ els1).length → ((fun i => if i < els0.length then us0 i else us1 (i - els0.length)) i).length = T.sz e ∧
      DR T g w rv imms .imm (.val e) ((els0 ++ els1).getD i .nil) ((fun i => if i < els0.length then us0 i else us1 (i - els0.length)) i) := by
  intro i hi
  rw [getD_two]
  simp only [List.length_append] at hi
  by_cases h : i < els0.length
  · simp only [if_pos h]; exact h0 i h
  · simp only [if_neg h]; exact h1 _ (by omega)

include hT in
/-- An append that finds no room. -/
theorem append_grow {t t2 ty e e2 : TypeId} (ht : T.ty t = some (.slice e)) (ht2 : T.ty t2 = some (.slice e2)) {els0 els1 : List D} {A : Option Addr} {c : Nat} {y : Value}
    (hs : Src T g w rv e els0 (.slice A els0.length c)) (hy : Src T g w rv e els1 y) (hgrow : c < els0.length + els1.length)
    (hb : (2 * (els0.length + els1.length) + 192) * T.bytes e ≤ 281474976710656) (hb2 : els0.length + els1.length ≤ 140737488355328) :
    ∃ nc cs us extra, els0.length + els1.length ≤ nc ∧ (Builtin.append_ #[t, t2] ty #[.slice A els0.length c, y]).run P w =
        .ok (.slice (some ⟨w.heap.size, 0, none⟩) (els0 ++ els1).length nc) (pushRow { w with drawn := w.drawn + 1 } cs e) ∧
      cs.toList = (List.range (els0 ++ els1).length).flatMap us ++ extra ∧ cs.size = nc * T.sz e ∧
      ∀ i, i < (els0 ++ els1).length → (us i).length = T.sz e ∧ DR T g w rv imms .imm (.val e) ((els0 ++ els1).getD i .nil) (us i) := by
  obtain ⟨A0, c0, b0, o0, us0, p1, p2, p3, p4, p5⟩ := hs.ex
  simp only [Value.slice.injEq, true_and] at p1
  obtain ⟨rfl, rfl⟩ := p1
  obtain ⟨A1, c1, b1, o1, us1, q1, q2, q3, q4, q5⟩ := hy.ex
  subst q1
  obtain ⟨hu, he⟩ := hT.slice _ _ ht
  obtain ⟨i, z, h1, h2, h3, h4, h5⟩ := hT.info e he
  have hz := h5 .imm g w rv imms
  have hzs : z.cells.size = T.sz e := by simpa using hz.length hT.fit
  let w1 : World := { w with drawn := w.drawn + 1 }
  have hc1 : ∀ b o, cellOf w1 b o = cellOf w b o := fun b o => rfl
  let need := els0.length + els1.length
  let nc := (Question.appendCap need c e).cut (w.tape w.drawn (Question.appendCap need c e))
  have hnc : need ≤ nc := by simp only [nc, Question.cut]; omega
  have f0 := run_firstCells (P := P) (w := w1) (c := c) p3 (fun i hi => (p4 i hi).1) (fun i k v hi hv => by rw [hc1]; exact p5 i k v hi hv) (Nat.le_refl _)
  have f1 := run_firstCells (P := P) (w := w1) (c := c1) q3 (fun i hi => (q4 i hi).1) (fun i k v hi hv => by rw [hc1]; exact q5 i k v hi hv) (Nat.le_refl _)
  let cs : Array Value := ((List.range els0.length).flatMap us0).toArray ++ ((List.range els1.length).flatMap us1).toArray ++ Builtin.zeroCells z.cells (nc - need)
  refine ⟨nc, cs, fun i => if i < els0.length then us0 i else us1 (i - els0.length), (Builtin.zeroCells z.cells (nc - need)).toList, hnc, ?_, ?_, ?_, two_elems p4 q4⟩
  · have hcap := nextslicecap_le need c hgrow
    have hns : ¬ (Builtin.nextslicecap need c * i.bytes > 2 ^ 48) := by
      rw [h3]
      have : Builtin.nextslicecap need c * T.bytes e ≤ (2 * (els0.length + els1.length) + 192) * T.bytes e := Nat.mul_le_mul_right _ hcap
      have e48 : (2 : Nat) ^ 48 = 281474976710656 := by decide
      omega
    have hmax : ¬ (((need : Nat) : Int) > IntKind.i64.max) := by
      have : IntKind.i64.max = 9223372036854775807 := by decide
      omega
    have hmx2 : ¬ ((els0.length + els1.length : Nat) : Int) > IntKind.i64.max := hmax
    have hq : (Question.appendCap need c e).forced = false := rfl
    unfold Builtin.append_
    simp only [List.getElem?_toArray, List.getElem?_cons_zero, List.getElem?_cons_succ, Sem.run_bind, run_underlying hu, Result.andThen_ok, run_size hT he, run_underlying (hT.slice _ _ ht2).1, Sem.run_pure,
      Bool.false_eq_true, if_false, Builtin.lenOf]
    rw [if_neg (by omega)]
    simp only [typeInfo, Sem.run_bind, run_program, Result.andThen_ok, h1, Sem.run_pure, Sem.run_ite]
    rw [if_neg (fun hh => hmx2 hh.1)]
    rw [if_neg hns]
    simp only [Sem.run_pure, Result.andThen_ok, run_choose]
    rw [show (Question.appendCap (els0.length + els1.length) c e).forced = false from rfl]
    simp only [Bool.false_eq_true, if_false, Result.andThen_ok, run_askRoom]
    simp only [Bool.not_false, if_true]
    have f0' := f0
    have f1' := f1
    simp only [w1] at f0' f1'
    simp only [f0', f1', Result.andThen_ok, zeroValue, typeInfo, Sem.run_bind, run_program, h1, Sem.run_pure, h4, newRow, run_newObj]
    simp only [List.length_append]
    rfl
  · simp only [cs, Array.toList_append, List.length_append]
    rw [flat_two]
  · simp only [cs, Array.size_append]
    have e0 : ((List.range els0.length).flatMap us0).toArray.size = els0.length * T.sz e := by
      simp only [List.size_toArray]; rw [flat_length _ (fun _ => T.sz e) us0 (fun j hj => (p4 j hj).1), sum_const]
    have e1 : ((List.range els1.length).flatMap us1).toArray.size = els1.length * T.sz e := by
      simp only [List.size_toArray]; rw [flat_length _ (fun _ => T.sz e) us1 (fun j hj => (q4 j hj).1), sum_const]
    have e2 : (Builtin.zeroCells z.cells (nc - need)).size = (nc - need) * T.sz e := by simp [Builtin.zeroCells, hzs]
    rw [e0, e1, e2, ← Nat.add_mul, ← Nat.add_mul]
    congr 1
    simp only [need] at *
    omega

include hT in
/-- An append that finds room in a row of the call's own. -/
theorem append_fit {t t2 ty e e2 : TypeId} (ht : T.ty t = some (.slice e)) (ht2 : T.ty t2 = some (.slice e2)) {els0 els1 : List D} {r b o c : Nat} {y : Value}
    (hy : Src T g w rv e els1 y) (hfit : els0.length + els1.length ≤ c)
    (hm : Mine g w r b (o + els0.length * T.sz e) (els1.length * T.sz e)) :
    ∃ us1, (∀ i, i < els1.length → (us1 i).length = T.sz e ∧ DR T g w rv imms .imm (.val e) (els1.getD i .nil) (us1 i)) ∧
      (Builtin.append_ #[t, t2] ty #[.slice (some ⟨b, o, none⟩) els0.length c, y]).run P w =
        .ok (.slice (some ⟨b, o, none⟩) (els0 ++ els1).length c) (w.setCells b (o + els0.length * T.sz e) ((List.range els1.length).flatMap us1)) := by
  obtain ⟨A1, c1, b1, o1, us1, q1, q2, q3, q4, q5⟩ := hy.ex
  subst q1
  obtain ⟨hu, he⟩ := hT.slice _ _ ht
  have f1 := run_firstCells (P := P) (w := w) (c := c1) q3 (fun i hi => (q4 i hi).1) q5 (Nat.le_refl _)
  refine ⟨us1, q4, ?_⟩
  have hlen : ((List.range els1.length).flatMap us1).length = els1.length * T.sz e := by rw [flat_length _ (fun _ => T.sz e) us1 (fun j hj => (q4 j hj).1), sum_const]
  have hone : ∀ v ∈ (List.range els1.length).flatMap us1, v.oneCell' = true := by
    intro v hv
    simp only [List.mem_flatMap, List.mem_range] at hv
    obtain ⟨j, hj, hv⟩ := hv
    exact (q4 j hj).2.one (fun K hK => hK.elim) v hv
  have hst := run_storeCells_cells (P := P) b (o + els0.length * T.sz e) ((List.range els1.length).flatMap us1) 0 w (fun j hj => by simpa using hm.has j (by omega)) (fun j hj => by simpa using hm.froz j (by omega)) hone
  unfold Builtin.append_
  simp only [List.getElem?_toArray, List.getElem?_cons_zero, List.getElem?_cons_succ, Sem.run_bind, run_underlying hu, Result.andThen_ok, run_size hT he, run_underlying (hT.slice _ _ ht2).1, Sem.run_pure,
    Bool.false_eq_true, if_false, Builtin.lenOf]
  rw [if_pos hfit]
  simp only [Bool.not_false, if_true, Sem.run_bind, f1, Result.andThen_ok, Addr.add_mid, hst, Sem.run_pure, List.length_append, Nat.add_zero]

def apart (r : Nat) (y : VV) : Bool :=
  match y with
  | .top r' _ => r' != r
  | .win r' _ _ _ _ => r' != r
  | _ => true

def rowOf (e : TypeId) (els : List D) (av : Nat) : Root := { e := e, els := els, dep := 1, full := false, av := av, held := false, keys := [] }
def appendObs (T : Tab) (e : TypeId) (n : Nat) : List Prop := [(2 * n + 192) * T.bytes e ≤ 281474976710656, n ≤ 140737488355328]

def appendV (T : Tab) (t t2 : TypeId) (x y : VV) (K : Nat) (ρ : Roots) : Option Res :=
  match T.ty t, T.ty t2 with
  | some (.slice e), some (.slice _) =>
    match srcV e y ρ with
    | none => none
    | some ys =>
      match x with
      | .nils => match ρ K with
        | none => some ⟨.top K 0, [(K, rowOf e ys 0)], appendObs T e ys.length⟩
        | some _ => none
      | .imm e' full els0 => match ρ K with
        | none => if e' = e then
            if full = true then some ⟨.top K 0, [(K, rowOf e (els0 ++ ys) 0)], (ys ≠ []) :: appendObs T e (els0.length + ys.length)⟩ else none
          else none
        | some _ => none
      | .top r av => match cur ρ r av with
        | some root =>
          if root.e = e ∧ root.dep = 1 ∧ root.held = false ∧ apart r y = true then
            some ⟨.top r (av + 1), [(r, rowOf e (root.els ++ ys) (av + 1))], appendObs T e (root.els.length + ys.length)⟩
          else none
        | none => none
      | _ => none
  | _, _ => none

theorem new_live {K av : Nat} {root : Root} (h : root.av = av) : Live (ups ρ [(K, root)]) (.top K av) := by
  intro r av' hn
  cases hn
  exact ⟨root, set_self _ _ _, Nat.le_of_eq h.symm⟩

include hT in
theorem appendV_sound (h : R T C g w rv ρ sl a) {t t2 ty : TypeId} {x y : VV} {u v : Value} {K : Nat} {res : Res} (hx : SR T g w rv ρ x u) (hy : SR T g w rv ρ y v)
    (hv : appendV T t t2 x y K ρ = some res) (ho : ∀ p ∈ res.obs, p) :
    ∃ r w' g' rv', (Builtin.append_ #[t, t2] ty #[u, v]).run P w = .ok r w' ∧ R T C g' w' rv' (ups ρ res.ups) sl a ∧ SR T g' w' rv' (ups ρ res.ups) res.x r ∧ Live (ups ρ res.ups) res.x := by
  unfold appendV at hv
  split at hv
  · rename_i e e2 ht ht2
    split at hv
    · simp at hv
    · rename_i ys hys
      have hsy := srcV_sound h.roots hy hys
      have hw1 : R T C g { w with drawn := w.drawn + 1 } rv ρ sl a := h.heap_same rfl rfl rfl rfl
      have fresh : ∀ (els0 : List D) (A : Option Addr) (c : Nat), Src T g w rv e els0 (.slice A els0.length c) → ρ K = none → c < els0.length + ys.length →
          (2 * (els0.length + ys.length) + 192) * T.bytes e ≤ 281474976710656 → els0.length + ys.length ≤ 140737488355328 →
          ∃ r w' g' rv', (Builtin.append_ #[t, t2] ty #[.slice A els0.length c, v]).run P w = .ok r w' ∧
            R T C g' w' rv' (ups ρ [(K, rowOf e (els0 ++ ys) 0)]) sl a ∧
            SR T g' w' rv' (ups ρ [(K, rowOf e (els0 ++ ys) 0)]) (.top K 0) r := by
        intro els0 A c hs hK hg hb hb2
        obtain ⟨nc, cs, us, extra, n1, n2, n3, n4, n5⟩ := append_grow (P := P) (ty := ty) hT ht ht2 hs hsy hg hb hb2
        have hR := hw1.newRoot (one := false) cs e e hK (els0 ++ ys) 1 (by omega) us false nc extra (fun h => by simp at h) (by simpa using n1) n3 n4 (fun i hi => (n5 i hi).1)
          (fun i hi => ((n5 i hi).2.agree (w' := { w with drawn := w.drawn + 1 }) (fun _ _ _ _ hv => ⟨rfl, hv, rfl⟩) (fun _ h => ⟨h, rfl⟩)).zero_of_imm rfl K [i] rv imms)
        refine ⟨_, _, _, _, n2, hR, .top fun root _ _ => ?_⟩
        simp [newRv]
      split at hv
      · split at hv
        · rename_i hK
          simp only [Option.some.injEq] at hv; subst hv
          obtain ⟨a1, ho⟩ := all_cons ho
          obtain ⟨a2, _⟩ := all_cons ho
          cases hx
          have hs0 : Src T g w rv e [] (.slice none 0 0) := ⟨none, 0, 0, 0, fun _ => [], rfl, Nat.le_refl _, fun h => absurd rfl h, fun i hi => absurd hi (by simp), fun i k v hi => absurd hi (by simp)⟩
          by_cases hne : ys = []
          · subst hne
            obtain ⟨A1, c1, b1, o1, us1, q1, _⟩ := hsy.ex
            subst q1
            have hR := h.newEmpty e hK 1 (by omega) none false
            refine ⟨.slice none 0 0, w, g, _, ?_, hR, .top fun root _ _ => by simp [newRv], new_live rfl⟩
            obtain ⟨hu, he⟩ := hT.slice _ _ ht
            unfold Builtin.append_
            simp only [List.getElem?_toArray, List.getElem?_cons_zero, List.getElem?_cons_succ, Sem.run_bind, run_underlying hu, Result.andThen_ok, run_size hT he, run_underlying (hT.slice _ _ ht2).1, Sem.run_pure,
              Bool.false_eq_true, if_false, Builtin.lenOf, List.length_nil, Nat.zero_add, Nat.le_refl, if_true]
            have : (Builtin.firstCells (T.sz e) 0 (.slice A1 0 c1)).run P w = .ok #[] w := by
              cases A1 <;> simp [Builtin.firstCells, loadCells, loadCellsFrom]
            simp [this]
          · obtain ⟨r, w', g', rv', k1, k2, k3⟩ := fresh [] none 0 hs0 hK (by simp; exact List.length_pos_iff.2 hne) (by simpa using a1) (by simpa using a2)
            exact ⟨r, w', g', rv', k1, k2, k3, new_live rfl⟩
        · simp at hv
      · rename_i e' full els0
        split at hv
        · rename_i hK
          split at hv
          · rename_i he
            subst he
            split at hv
            · rename_i hfull
              simp only [Option.some.injEq] at hv; subst hv
              obtain ⟨a0, ho⟩ := all_cons ho
              obtain ⟨a1, ho⟩ := all_cons ho
              obtain ⟨a2, _⟩ := all_cons ho
              have hsx := srcV_sound (e := e') h.roots hx (els := els0) (by simp [srcV])
              cases hx with
              | imm _ hf =>
                obtain ⟨A, hA⟩ := hf hfull
                subst hA
                have hpos : 0 < ys.length := List.length_pos_iff.2 a0
                obtain ⟨r, w', g', rv', k1, k2, k3⟩ := fresh els0 A els0.length hsx hK (by omega) a1 a2
                exact ⟨r, w', g', rv', k1, k2, k3, new_live rfl⟩
            · simp at hv
          · simp at hv
        · simp at hv
      · rename_i r av
        split at hv
        · rename_i root hc
          obtain ⟨hroot, hav⟩ := cur_some hc
          split at hv
          · rename_i hcond
            obtain ⟨he, hd, hnh, hap⟩ := hcond
            subst he
            simp only [Option.some.injEq] at hv; subst hv
            obtain ⟨a1, ho⟩ := all_cons ho
            obtain ⟨a2, _⟩ := all_cons ho
            have hRr := h.roots r root hroot
            have hsx := Src.of_root hRr hd
            cases hx with
            | top hx =>
              have hu := hx root hroot hav
              subst hu
              have hlen2 : (root.els ++ ys).length = root.els.length + ys.length := List.length_append
              have hown : ∀ b o c, rv r = .slice (some ⟨b, o, none⟩) root.els.length c → ∀ k, k < c * T.sz root.e → (cellOf w b (o + k)).isSome ∧ g b (o + k) = .own r [] k ∧ frozenOf w b (o + k) = false := by
                intro b o c hbc k hk
                rcases Nat.lt_or_ge k (root.els.length * T.sz root.e) with hlt | hge
                · have hpos : 0 < T.sz root.e := by
                    rcases Nat.eq_zero_or_pos (T.sz root.e) with h0 | h0
                    · rw [h0] at hlt; simp at hlt
                    · exact h0
                  have hi : k / T.sz root.e < root.els.length := Nat.div_lt_of_lt_mul (by rw [Nat.mul_comm]; exact hlt)
                  obtain ⟨vs, hd1, hc1⟩ := (hRr.elem hi ⟨c, hbc⟩).ex
                  have hl1 := hd1.length hT.fit
                  simp only at hl1
                  have hm : k % T.sz root.e < vs.length := by rw [hl1]; exact Nat.mod_lt _ hpos
                  obtain ⟨a1, a2, a3⟩ := hc1 (k % T.sz root.e) vs[k % T.sz root.e] (by simp [hm])
                  have hkk : k / T.sz root.e * T.sz root.e + k % T.sz root.e = k := by rw [Nat.mul_comm]; exact Nat.div_add_mod k _
                  rw [Nat.add_assoc, hkk] at a1 a3
                  rw [Nat.add_assoc, hkk] at a2
                  exact ⟨by rw [a1]; rfl, a2, a3⟩
                · exact hRr.spare b o c hbc k hge hk
              rcases hRr.form with ⟨b, o, c, hbc⟩ | ⟨A, hA⟩
              · have hsx' := hsx
                rw [hbc] at hsx'
                by_cases hfit : root.els.length + ys.length ≤ c
                · -- in place
                  have hcsz : (root.els.length + ys.length) * T.sz root.e ≤ c * T.sz root.e := Nat.mul_le_mul_right _ hfit
                  rw [Nat.add_mul] at hcsz
                  have hm : Mine g w r b (o + root.els.length * T.sz root.e) (ys.length * T.sz root.e) := by
                    refine ⟨fun k hk => ?_, fun k hk => ?_, fun k hk => ?_⟩
                    · have := (hown b o c hbc (root.els.length * T.sz root.e + k) (by omega)).2.1
                      rw [← Nat.add_assoc] at this; exact ⟨[], _, this⟩
                    · have := (hown b o c hbc (root.els.length * T.sz root.e + k) (by omega)).1
                      rw [← Nat.add_assoc] at this; exact this
                    · have := (hown b o c hbc (root.els.length * T.sz root.e + k) (by omega)).2.2
                      rw [← Nat.add_assoc] at this; exact this
                  obtain ⟨us1, n1, n2⟩ := append_fit (P := P) (ty := ty) hT ht ht2 hsy hfit hm
                  have hl1 : ((List.range ys.length).flatMap us1).length = ys.length * T.sz root.e := by rw [flat_length _ (fun _ => T.sz root.e) us1 (fun j hj => (n1 j hj).1), sum_const]
                  have hm' : Mine g w r b (o + root.els.length * T.sz root.e) ((List.range ys.length).flatMap us1).length := by rw [hl1]; exact hm
                  obtain ⟨A0, c0, b0, o0, us0, m1, m2, m3, m4, m5⟩ := hsx'.ex
                  simp only [Value.slice.injEq, true_and] at m1
                  obtain ⟨rfl, rfl⟩ := m1
                  have hl0 : ((List.range root.els.length).flatMap us0).length = root.els.length * T.sz root.e := by rw [flat_length _ (fun _ => T.sz root.e) us0 (fun j hj => (m4 j hj).1), sum_const]
                  have hels := two_elems m4 n1
                  have hroot' : RootR T g (w.setCells b (o + root.els.length * T.sz root.e) ((List.range ys.length).flatMap us1)) (newRv rv r (.slice (some ⟨b, o, none⟩) (root.els ++ ys).length c)) r (rowOf root.e (root.els ++ ys) (av + 1)) := by
                    refine RootR.make1 (b := b) (o := o) (c := c) (us := fun i => if i < root.els.length then us0 i else us1 (i - root.els.length)) (by simp [newRv]) (by rw [hlen2]; exact hfit) (fun h => by simp at h) (fun i hi => (hels i hi).1) ?_ ?_ ?_
                    · intro k v hk
                      rw [hlen2, flat_two] at hk
                      rcases Nat.lt_or_ge k (root.els.length * T.sz root.e) with hlt | hge
                      · rw [List.getElem?_append_left (by rw [hl0]; exact hlt)] at hk
                        obtain ⟨i, k', hi, hv', e⟩ := flat_inv root.els.length (fun _ => T.sz root.e) us0 (fun j hj => (m4 j hj).1) k v hk
                        rw [sum_const] at e
                        have hne : root.els ≠ [] := by intro e; rw [e] at hi; simp at hi
                        have := m3 hne
                        simp only [Option.some.injEq, Addr.mk.injEq, and_true] at this
                        obtain ⟨rfl, rfl⟩ := this
                        have hcell := m5 i k' v hi hv'
                        rw [show o + i * T.sz root.e + k' = o + k from by omega] at hcell
                        unfold cellOf
                        rw [World.cell?_setCells_out b _ _ w _ (fun _ _ => .inl (by simp only; omega))]
                        exact hcell
                      · rw [List.getElem?_append_right (by rw [hl0]; exact hge), hl0] at hk
                        have hk' : k - root.els.length * T.sz root.e < ((List.range ys.length).flatMap us1).length := by
                          rcases Nat.lt_or_ge (k - root.els.length * T.sz root.e) ((List.range ys.length).flatMap us1).length with h' | h'
                          · exact h'
                          · rw [List.getElem?_eq_none h'] at hk; simp at hk
                        have := World.cell?_setCells_in b _ (o + root.els.length * T.sz root.e) w hm'.has _ hk'
                        rw [List.getElem?_eq_getElem hk'] at hk
                        unfold cellOf
                        rw [show o + k = o + root.els.length * T.sz root.e + (k - root.els.length * T.sz root.e) from by omega, this]
                        exact hk
                    · intro k hk
                      obtain ⟨k1, k2, k3⟩ := hown b o c hbc k hk
                      exact ⟨World.isSome_setCells b _ _ w _ k1, k2, by rw [setCells_frozen]; exact k3⟩
                    · intro i hi
                      exact (write_agree (ks' := imms) (hels i hi).2 hm' (fun q κ hc => hc) (fun _ h => h)).agree (fun _ _ _ _ hv => ⟨rfl, hv, rfl⟩) (fun _ h => h.elim)
                  refine ⟨.slice (some ⟨b, o, none⟩) (root.els ++ ys).length c, _, g, _, by rw [hbc]; exact n2, h.turn hroot hnh (write_ev h.ev hm') (by simp only [rowOf]; omega) (fun b' o' v' hne hv' => ?_) (fun b' o' r' q k hg => .inr (h.live b' o' r' q k hg)) (fun k hk => by simp only [newRv]; rw [if_neg hk]) hroot' rfl, .top fun root' _ _ => by simp [newRv], new_live rfl⟩
                  exact ⟨rfl, by rw [setCells_out hm' hne]; exact hv', setCells_frozen⟩
                · -- anew
                  obtain ⟨nc, cs, us, extra, n1, n2, n3, n4, n5⟩ := append_grow (P := P) (ty := ty) hT ht ht2 hsx' hsy (by omega) a1 a2
                  refine ⟨.slice (some ⟨w.heap.size, 0, none⟩) (root.els ++ ys).length nc, _, newTags g w.heap.size (fun o => .own r [] o), newRv rv r (.slice (some ⟨w.heap.size, 0, none⟩) (root.els ++ ys).length nc), by rw [hbc]; exact n2,
                    hw1.turn hroot hnh (new_ev hw1 cs root.e _) (by simp only [rowOf]; omega) (fun b' o' v' hne hv' => ?_) (fun b' o' r' q k hg => ?_) (fun k hk => by simp only [newRv]; rw [if_neg hk]) ?_ rfl, .top fun root' _ _ => by simp [newRv], new_live rfl⟩
                  · have hb' : b' < w.heap.size := cellOf_lt hv'
                    exact ⟨by simp only [newTags]; rw [if_neg (by omega)], by rw [push_cell_lt (w := { w with drawn := w.drawn + 1 }) hb']; exact hv', push_frozen_lt (w := { w with drawn := w.drawn + 1 }) hb'⟩
                  · simp only [newTags] at hg
                    split at hg
                    · simp only [Tag.own.injEq] at hg; exact .inl hg.1.symm
                    · exact .inr (h.live b' o' r' q k hg)
                  · refine RootR.make1 (b := w.heap.size) (o := 0) (c := nc) (us := us) (by simp [newRv]) (by rw [hlen2]; exact n1) (fun h => by simp at h) (fun i hi => (n5 i hi).1) (fun k v hk => ?_) (fun k hk => ?_) (fun i hi => ?_)
                    · have hkl : k < ((List.range (root.els ++ ys).length).flatMap us).length := by
                        rcases Nat.lt_or_ge k ((List.range (root.els ++ ys).length).flatMap us).length with h' | h'
                        · exact h'
                        · rw [List.getElem?_eq_none h'] at hk; simp at hk
                      have : cs.toList[k]? = some v := by rw [n3, List.getElem?_append_left hkl]; exact hk
                      rw [Nat.zero_add, push_cell_new (w := { w with drawn := w.drawn + 1 })]; simpa using this
                    · refine ⟨?_, by simp [newTags], push_frozen_new (w := { w with drawn := w.drawn + 1 })⟩
                      rw [push_cell_new (w := { w with drawn := w.drawn + 1 })]
                      have : k < cs.size := by rw [n4]; exact hk
                      simp [this]
                    · exact new_agree (w := { w with drawn := w.drawn + 1 }) ((n5 i hi).2.agree (w' := { w with drawn := w.drawn + 1 }) (fun _ _ _ _ hv => ⟨rfl, hv, rfl⟩) (fun _ h => ⟨h, rfl⟩)) cs root.e _ (fun _ h => h.elim)
              · -- no element, no room
                have hnil : root.els = [] := by
                  obtain ⟨A', c', b', o', us', p1, _⟩ := hsx.ex
                  rw [hA] at p1
                  simp only [Value.slice.injEq] at p1
                  exact List.length_eq_zero_iff.1 p1.2.1.symm
                by_cases hne : ys = []
                · subst hne
                  obtain ⟨A1, c1, b1, o1, us1, q1, _⟩ := hsy.ex
                  subst q1
                  refine ⟨.slice A 0 0, w, g, rv, ?_, h.turn hroot hnh h.ev (by simp only [rowOf]; omega) (fun _ _ _ _ hv' => ⟨rfl, hv', rfl⟩) (fun b' o' r' q k hg => .inr (h.live b' o' r' q k hg)) (fun _ _ => rfl) ?_ rfl, .top fun root' _ _ => by rw [hA], new_live rfl⟩
                  · obtain ⟨hu, he⟩ := hT.slice _ _ ht
                    rw [hA]
                    unfold Builtin.append_
                    simp only [List.getElem?_toArray, List.getElem?_cons_zero, List.getElem?_cons_succ, Sem.run_bind, run_underlying hu, Result.andThen_ok, run_size hT he, run_underlying (hT.slice _ _ ht2).1, Sem.run_pure,
                      Bool.false_eq_true, if_false, Builtin.lenOf, List.length_nil, Nat.zero_add, Nat.le_refl, if_true]
                    have : (Builtin.firstCells (T.sz root.e) 0 (.slice A1 0 c1)).run P w = .ok #[] w := by
                      cases A1 <;> simp [Builtin.firstCells, loadCells, loadCellsFrom]
                    cases A <;> simp [this, storeCells]
                  · refine ⟨Nat.le_refl _, ?_, fun h => by simp [rowOf] at h, fun b' o' c' h1 k h2 h3 => ?_, .inr ⟨A, hA⟩⟩
                    · rw [hA]
                      simp only [rowOf, hnil, List.append_nil]
                      exact DR.node (d := .list []) A 0 0 0 (fun _ => []) (fun h => absurd rfl h) (Mode.Cap.refl _ _) (fun i hi => absurd hi (by simp [D.els])) (fun i k v hi => absurd hi (by simp [D.els])) (fun i hi => absurd hi (by simp [D.els]))
                    · rw [hA] at h1
                      simp only [Value.slice.injEq] at h1
                      rw [← h1.2.2] at h3; simp at h3
                · have hsx' := hsx
                  rw [hA] at hsx'
                  have hsx2 : Src T g w rv root.e root.els (.slice A root.els.length 0) := by rw [hnil] at hsx' ⊢; exact hsx'
                  have hyp : 0 < ys.length := List.length_pos_iff.2 hne
                  obtain ⟨nc, cs, us, extra, n1, n2, n3, n4, n5⟩ := append_grow (P := P) (ty := ty) hT ht ht2 hsx2 hsy (by omega) a1 a2
                  have hrun : (Builtin.append_ #[t, t2] ty #[rv r, v]).run P w = .ok (.slice (some ⟨w.heap.size, 0, none⟩) (root.els ++ ys).length nc) (pushRow { w with drawn := w.drawn + 1 } cs root.e) := by
                    rw [hA, ← n2, hnil]; rfl
                  refine ⟨.slice (some ⟨w.heap.size, 0, none⟩) (root.els ++ ys).length nc, _, newTags g w.heap.size (fun o => .own r [] o), newRv rv r (.slice (some ⟨w.heap.size, 0, none⟩) (root.els ++ ys).length nc), hrun,
                    hw1.turn hroot hnh (new_ev hw1 cs root.e _) (by simp only [rowOf]; omega) (fun b' o' v' hne hv' => ?_) (fun b' o' r' q k hg => ?_) (fun k hk => by simp only [newRv]; rw [if_neg hk]) ?_ rfl, .top fun root' _ _ => by simp [newRv], new_live rfl⟩
                  · have hb' : b' < w.heap.size := cellOf_lt hv'
                    exact ⟨by simp only [newTags]; rw [if_neg (by omega)], by rw [push_cell_lt (w := { w with drawn := w.drawn + 1 }) hb']; exact hv', push_frozen_lt (w := { w with drawn := w.drawn + 1 }) hb'⟩
                  · simp only [newTags] at hg
                    split at hg
                    · simp only [Tag.own.injEq] at hg; exact .inl hg.1.symm
                    · exact .inr (h.live b' o' r' q k hg)
                  · refine RootR.make1 (b := w.heap.size) (o := 0) (c := nc) (us := us) (by simp [newRv]) (by rw [hlen2]; exact n1) (fun h => by simp at h) (fun i hi => (n5 i hi).1) (fun k v hk => ?_) (fun k hk => ?_) (fun i hi => ?_)
                    · have hkl : k < ((List.range (root.els ++ ys).length).flatMap us).length := by
                        rcases Nat.lt_or_ge k ((List.range (root.els ++ ys).length).flatMap us).length with h' | h'
                        · exact h'
                        · rw [List.getElem?_eq_none h'] at hk; simp at hk
                      have : cs.toList[k]? = some v := by rw [n3, List.getElem?_append_left hkl]; exact hk
                      rw [Nat.zero_add, push_cell_new (w := { w with drawn := w.drawn + 1 })]; simpa using this
                    · refine ⟨?_, by simp [newTags], push_frozen_new (w := { w with drawn := w.drawn + 1 })⟩
                      rw [push_cell_new (w := { w with drawn := w.drawn + 1 })]
                      have : k < cs.size := by rw [n4]; exact hk
                      simp [this]
                    · exact new_agree (w := { w with drawn := w.drawn + 1 }) ((n5 i hi).2.agree (w' := { w with drawn := w.drawn + 1 }) (fun _ _ _ _ hv => ⟨rfl, hv, rfl⟩) (fun _ h => ⟨h, rfl⟩)) cs root.e _ (fun _ h => h.elim)
          · simp at hv
        · simp at hv
      · simp at hv
  · simp at hv

end
end Go.VI

namespace Go.VI

section
variable {P : Program} {T : Tab} (hT : TabOK P T) {C : Ctx} {g : Tags} {w : World} {rv : Nat → Value} {ρ : Roots} {sl : List VV} {a : Act}

include hT in
/-- All cells of a row of one level are its root's own. -/
theorem RootR.own1 {r : Nat} {root : Root} (hRr : RootR T g w rv r root) {b o c : Nat} (hbc : rv r = .slice (some ⟨b, o, none⟩) root.els.length c) {k : Nat} (hk : k < c * T.sz root.e) :
    (cellOf w b (o + k)).isSome ∧ g b (o + k) = .own r [] k ∧ frozenOf w b (o + k) = false := by
  rcases Nat.lt_or_ge k (root.els.length * T.sz root.e) with hlt | hge
  · have hpos : 0 < T.sz root.e := by
      rcases Nat.eq_zero_or_pos (T.sz root.e) with h0 | h0
      · rw [h0] at hlt; simp at hlt
      · exact h0
    have hi : k / T.sz root.e < root.els.length := Nat.div_lt_of_lt_mul (by rw [Nat.mul_comm]; exact hlt)
    obtain ⟨vs, hd1, hc1⟩ := (hRr.elem hi ⟨c, hbc⟩).ex
    have hl1 := hd1.length hT.fit
    simp only at hl1
    have hm : k % T.sz root.e < vs.length := by rw [hl1]; exact Nat.mod_lt _ hpos
    obtain ⟨a1, a2, a3⟩ := hc1 (k % T.sz root.e) vs[k % T.sz root.e] (by simp [hm])
    have hkk : k / T.sz root.e * T.sz root.e + k % T.sz root.e = k := by rw [Nat.mul_comm]; exact Nat.div_add_mod k _
    rw [Nat.add_assoc, hkk] at a1 a3
    rw [Nat.add_assoc, hkk] at a2
    exact ⟨by rw [a1]; rfl, a2, a3⟩
  · exact hRr.spare b o c hbc k hge hk

def storeAll (A : Option Addr) (vs : List Value) : Sem Unit := match A with | some a => storeCells a vs | none => pure ()

def put1 (root : Root) (els : List D) : Root := { e := root.e, els := els, dep := 1, full := root.full, av := root.av, held := root.held, keys := root.keys, one := root.one }

def laid (els : List D) (off n : Nat) (ys : List D) : List D := els.take off ++ ys.take n ++ els.drop (off + n)

theorem laid_length {els ys : List D} {off n : Nat} (h : off + n ≤ els.length) (hn : n ≤ ys.length) : (laid els off n ys).length = els.length := by
  simp [laid]; omega

theorem laid_get {els ys : List D} {off n : Nat} (h : off + n ≤ els.length) (hn : n ≤ ys.length) (i : Nat) :
    (laid els off n ys).getD i .nil = if off ≤ i ∧ i < off + n then ys.getD (i - off) .nil else els.getD i .nil := by
  unfold laid
  simp only [List.getD_eq_getElem?_getD]
  have e1 : (els.take off).length = off := by simp; omega
  have e2 : (ys.take n).length = n := by simp; omega
  rcases Nat.lt_or_ge i off with h1 | h1
  · rw [if_neg (by omega), List.append_assoc, List.getElem?_append_left (by omega), List.getElem?_take, if_pos h1]
  · rcases Nat.lt_or_ge i (off + n) with h2 | h2
    · rw [if_pos ⟨h1, h2⟩, List.append_assoc, List.getElem?_append_right (by omega), e1, List.getElem?_append_left (by omega), List.getElem?_take, if_pos (by omega)]
    · rw [if_neg (by omega), List.getElem?_append_right (by simp only [List.length_append]; omega), List.length_append, e1, e2, List.getElem?_drop]
      congr 2; omega

def copyV (T : Tab) (t t2 : TypeId) (x y : VV) (ρ : Roots) : Option Res :=
  match T.ty t, T.ty t2 with
  | some (.slice e), some (.slice _) =>
    match srcV e y ρ with
    | none => none
    | some ys =>
      match x with
      | .top r av => match cur ρ r av with
        | some root => if root.e = e ∧ root.dep = 1 then
            some ⟨.int .i64 (min ys.length root.els.length : Nat), [(r, put1 root (laid root.els 0 (min ys.length root.els.length) ys))], []⟩ else none
        | none => none
      | .win r av off len _ => match cur ρ r av with
        | some root => if root.e = e ∧ root.dep = 1 then
            some ⟨.int .i64 (min ys.length len : Nat), [(r, put1 root (laid root.els off (min ys.length len) ys))], []⟩ else none
        | none => none
      | _ => none
  | _, _ => none

include hT in
theorem copy_core (h : R T C g w rv ρ sl a) {t t2 ty e e2 : TypeId} {v : Value} {ys : List D} (ht : T.ty t = some (.slice e)) (ht2 : T.ty t2 = some (.slice e2)) (hy : Src T g w rv e ys v)
    {r : Nat} {root : Root} (hroot : ρ r = some root) (he : root.e = e) (hd : root.dep = 1) {off len c : Nat} {A : Option Addr} (hol : off + len ≤ root.els.length)
    (hA : 0 < len → ∃ b o, Base (rv r) root b o ∧ A = some ⟨b, o + off * T.sz root.e, none⟩) :
    ∃ w', (Builtin.copy_ #[t, t2] ty #[.slice A len c, v]).run P w = .ok (.int .i64 (min ys.length len : Nat)) w' ∧
      R T C g w' rv (ups ρ [(r, put1 root (laid root.els off (min ys.length len) ys))]) sl a := by
  subst he
  have hRr := h.roots r root hroot
  obtain ⟨hu, hee⟩ := hT.slice _ _ ht
  obtain ⟨A1, c1, b1, o1, us1, q1, q2, q3, q4, q5⟩ := hy.ex
  subst q1
  have hn1 : min ys.length len ≤ ys.length := Nat.min_le_left _ _
  have hn2 : min ys.length len ≤ len := Nat.min_le_right _ _
  generalize hn : min ys.length len = n at *
  have f1 := run_firstCells (P := P) (w := w) (c := c1) q3 (fun i hi => (q4 i hi).1) q5 hn1
  have hl1 : ((List.range n).flatMap us1).length = n * T.sz root.e := by rw [flat_length _ (fun _ => T.sz root.e) us1 (fun j hj => (q4 j (by omega)).1), sum_const]
  have hone : ∀ v ∈ (List.range n).flatMap us1, v.oneCell' = true := by
    intro v hv
    simp only [List.mem_flatMap, List.mem_range] at hv
    obtain ⟨j, hj, hv⟩ := hv
    exact (q4 j (by omega)).2.one (fun K hK => hK.elim) v hv
  have hrunpre : ∀ s, (Builtin.copy_ #[t, t2] ty #[.slice A len c, .slice A1 ys.length c1]).run P w = s ↔
      ((storeAll A ((List.range n).flatMap us1)).run P w).andThen (fun _ w' => .ok (goInt n) w') = s := by
    intro s
    unfold Builtin.copy_
    simp only [List.getElem?_toArray, List.getElem?_cons_zero, List.getElem?_cons_succ, Sem.run_bind, run_underlying hu, Result.andThen_ok, run_size hT hee, Builtin.lenOf, Sem.run_pure]
    rw [show Nat.min ys.length len = n from hn]
    simp only [f1, Result.andThen_ok]
    cases A with
    | none => rfl
    | some ad => simp only [storeAll, Sem.run_bind, Sem.run_pure]
  have hsame : ∀ (us0 : Nat → List Value) (b o cc : Nat) (w' : World), rv r = .slice (some ⟨b, o, none⟩) root.els.length cc → root.els.length ≤ cc →
      (∀ i, i < root.els.length → (us0 i).length = T.sz root.e ∧ DR T g w rv imms .imm (.val root.e) (root.els.getD i .nil) (us0 i)) →
      (∀ i k v, i < root.els.length → (us0 i)[k]? = some v → cellOf w b (o + i * T.sz root.e + k) = some v) →
      Mine g w r b (o + off * T.sz root.e) ((List.range n).flatMap us1).length → w' = w.setCells b (o + off * T.sz root.e) ((List.range n).flatMap us1) →
      R T C g w' rv (ups ρ [(r, put1 root (laid root.els off n ys))]) sl a := by
    intro us0 b o cc w' hbc hcc h0 h0c hm hw'
    subst hw'
    have hll := laid_length (els := root.els) (ys := ys) (off := off) (n := n) (by omega) hn1
    refine h.write hm hroot (root' := put1 root (laid root.els off n ys)) rfl (by simpa [put1] using hll) rfl ?_ (fun K hK => ?_) (fun h => h)
    · refine RootR.make1 (b := b) (o := o) (c := cc) (us := fun i => if off ≤ i ∧ i < off + n then us1 (i - off) else us0 i) (by rw [hll]; exact hbc) (by omega) (fun hf => ?_) (fun i hi => ?_) (fun k v hk => ?_) (fun k hk => ?_) (fun i hi => ?_)
      · obtain ⟨A', hA'⟩ := hRr.full hf
        rw [hbc] at hA'
        simp only [Value.slice.injEq] at hA'
        rw [hll]; exact hA'.2.2
      · split
        · exact (q4 _ (by omega)).1
        · exact (h0 i (by omega)).1
      · obtain ⟨i, k', hi, hv', e⟩ := flat_inv (laid root.els off n ys).length (fun _ => T.sz root.e) _ (fun j hj => by
          split
          · exact (q4 _ (by omega)).1
          · exact (h0 j (by omega)).1) k v hk
        rw [sum_const] at e
        have hk' : k' < T.sz root.e := by
          by_cases hin : off ≤ i ∧ i < off + n
          · rw [if_pos hin] at hv'
            rw [← (q4 (i - off) (by omega)).1]
            rcases Nat.lt_or_ge k' (us1 (i - off)).length with h' | h'
            · exact h'
            · rw [List.getElem?_eq_none h'] at hv'; simp at hv'
          · rw [if_neg hin] at hv'
            rw [← (h0 i (by omega)).1]
            rcases Nat.lt_or_ge k' (us0 i).length with h' | h'
            · exact h'
            · rw [List.getElem?_eq_none h'] at hv'; simp at hv'
        by_cases hin : off ≤ i ∧ i < off + n
        · rw [if_pos hin] at hv'
          have hg := flat_get n (fun _ => T.sz root.e) us1 (fun j hj => (q4 j (by omega)).1) (i - off) (by omega) k' v hv'
          rw [sum_const] at hg
          have hlt : (i - off) * T.sz root.e + k' < ((List.range n).flatMap us1).length := by
            rcases Nat.lt_or_ge ((i - off) * T.sz root.e + k') ((List.range n).flatMap us1).length with h' | h'
            · exact h'
            · rw [List.getElem?_eq_none h'] at hg; simp at hg
          have := World.cell?_setCells_in b _ (o + off * T.sz root.e) w hm.has _ hlt
          rw [List.getElem?_eq_getElem hlt] at hg
          unfold cellOf
          have e2 : o + k = o + off * T.sz root.e + ((i - off) * T.sz root.e + k') := by
            have : i * T.sz root.e = off * T.sz root.e + (i - off) * T.sz root.e := by rw [← Nat.add_mul]; congr 1; omega
            omega
          rw [e2, this]; exact hg
        · rw [if_neg hin] at hv'
          have hcell := h0c i k' v (by omega) hv'
          rw [show o + i * T.sz root.e + k' = o + k from by omega] at hcell
          unfold cellOf
          rw [World.cell?_setCells_out b _ _ w _ (fun _ _ => ?_)]
          · exact hcell
          · simp only [hl1]
            rcases Nat.lt_or_ge i off with h' | h'
            · have : (i + 1) * T.sz root.e ≤ off * T.sz root.e := Nat.mul_le_mul_right _ h'
              rw [Nat.add_mul] at this
              exact .inl (by omega)
            · have : (off + n) * T.sz root.e ≤ i * T.sz root.e := Nat.mul_le_mul_right _ (by omega)
              rw [Nat.add_mul] at this
              exact .inr (by omega)
      · obtain ⟨k1, k2, k3⟩ := hRr.own1 hT hbc hk
        exact ⟨World.isSome_setCells b _ _ w _ k1, k2, by rw [setCells_frozen]; exact k3⟩
      · rw [laid_get (by omega) hn1]
        split
        · exact write_agree (ks' := imms) (q4 _ (by omega)).2 hm (fun q κ hc => hc) (fun _ h => h)
        · exact write_agree (ks' := imms) (h0 i (by omega)).2 hm (fun q κ hc => hc) (fun _ h => h)
    · obtain ⟨rk, k1, k2⟩ := h.held r root hroot K hK
      exact ⟨rk, k1, k2, fun e => by subst e; rw [hroot] at k1; simp only [Option.some.injEq] at k1; subst k1; exact k2⟩
  have hempty : n = 0 → laid root.els off n ys = root.els := by
    intro h0
    subst h0
    simp [laid]
  by_cases hn0 : n = 0
  · refine ⟨w, ?_, ?_⟩
    · rw [hrunpre]
      subst hn0
      cases A <;> simp [storeAll, storeCells, goInt]
    · rw [hempty hn0]
      have hp : put1 root root.els = root := by cases root; simp only at hd; subst hd; rfl
      rw [hp]
      have : ups ρ [(r, root)] = ρ := by
        funext k
        simp only [ups, Roots.set]
        split
        · rename_i e; rw [e, hroot]
        · rfl
      rw [this]; exact h
  · obtain ⟨b, o, ⟨cc, hbc⟩, hA'⟩ := hA (by omega)
    subst hA'
    have hs0 := Src.of_root hRr hd
    rw [hbc] at hs0
    obtain ⟨A0, c0, b0, o0, us0, m1, m2, m3, m4, m5⟩ := hs0.ex
    simp only [Value.slice.injEq, true_and] at m1
    obtain ⟨rfl, rfl⟩ := m1
    have hne : root.els ≠ [] := by intro e; rw [e] at hol; simp at hol; omega
    have hb0 := m3 hne
    simp only [Option.some.injEq, Addr.mk.injEq, and_true] at hb0
    obtain ⟨rfl, rfl⟩ := hb0
    have hcsz : (off + n) * T.sz root.e ≤ cc * T.sz root.e := Nat.mul_le_mul_right _ (by omega)
    rw [Nat.add_mul] at hcsz
    have hm : Mine g w r b (o + off * T.sz root.e) ((List.range n).flatMap us1).length := by
      rw [hl1]
      refine ⟨fun k hk => ?_, fun k hk => ?_, fun k hk => ?_⟩
      · have := (hRr.own1 hT hbc (k := off * T.sz root.e + k) (by omega)).2.1
        rw [← Nat.add_assoc] at this; exact ⟨[], _, this⟩
      · have := (hRr.own1 hT hbc (k := off * T.sz root.e + k) (by omega)).1
        rw [← Nat.add_assoc] at this; exact this
      · have := (hRr.own1 hT hbc (k := off * T.sz root.e + k) (by omega)).2.2
        rw [← Nat.add_assoc] at this; exact this
    refine ⟨_, ?_, hsame us0 b o cc _ hbc m2 m4 m5 hm rfl⟩
    rw [hrunpre]
    have hst := run_storeCells_cells (P := P) b (o + off * T.sz root.e) ((List.range n).flatMap us1) 0 w (fun j hj => by simpa using hm.has j hj) (fun j hj => by simpa using hm.froz j hj) hone
    simp only [Nat.add_zero] at hst
    simp only [storeAll, hst, Result.andThen_ok, goInt]

include hT in
theorem copyV_sound (h : R T C g w rv ρ sl a) {t t2 ty : TypeId} {x y : VV} {u v : Value} {res : Res} (hx : SR T g w rv ρ x u) (hy : SR T g w rv ρ y v) (hv : copyV T t t2 x y ρ = some res) :
    ∃ r w', (Builtin.copy_ #[t, t2] ty #[u, v]).run P w = .ok r w' ∧ R T C g w' rv (ups ρ res.ups) sl a ∧ SR T g w' rv (ups ρ res.ups) res.x r ∧ Live (ups ρ res.ups) res.x := by
  unfold copyV at hv
  split at hv
  · rename_i e e2 ht ht2
    split at hv
    · simp at hv
    · rename_i ys hys
      have hsy := srcV_sound h.roots hy hys
      split at hv
      · rename_i r av
        split at hv
        · rename_i root hc
          obtain ⟨hroot, hav⟩ := cur_some hc
          split at hv
          · rename_i hcond
            simp only [Option.some.injEq] at hv; subst hv
            cases hx with
            | top hx =>
              have hu := hx root hroot hav
              subst hu
              have hRr := h.roots r root hroot
              rcases hRr.form with ⟨b, o, c, hbc⟩ | ⟨A, hA⟩
              · obtain ⟨w', k1, k2⟩ := copy_core (P := P) (ty := ty) hT h ht ht2 hsy hroot hcond.1 hcond.2 (off := 0) (len := root.els.length) (c := c) (A := some ⟨b, o, none⟩) (by omega) (fun _ => ⟨b, o, ⟨c, hbc⟩, by simp⟩)
                exact ⟨_, w', by rw [hbc]; exact k1, k2, .int, fun r av hn => by cases hn⟩
              · have hnil : root.els = [] := by
                  obtain ⟨A', c', b', o', us', p1, _⟩ := (Src.of_root hRr hcond.2).ex
                  rw [hA] at p1
                  simp only [Value.slice.injEq] at p1
                  exact List.length_eq_zero_iff.1 p1.2.1.symm
                obtain ⟨w', k1, k2⟩ := copy_core (P := P) (ty := ty) hT h ht ht2 hsy hroot hcond.1 hcond.2 (off := 0) (len := root.els.length) (c := 0) (A := A) (by omega) (fun hp => by rw [hnil] at hp; simp at hp)
                refine ⟨_, w', ?_, k2, .int, fun r av hn => by cases hn⟩
                rw [hA, ← k1, hnil]; rfl
          · simp at hv
        · simp at hv
      · rename_i r av off len full
        split at hv
        · rename_i root hc
          obtain ⟨hroot, hav⟩ := cur_some hc
          split at hv
          · rename_i hcond
            simp only [Option.some.injEq] at hv; subst hv
            cases hx with
            | win hx =>
              obtain ⟨k1, A, c, k2, k3, k4, k5⟩ := hx root hroot hav
              subst k2
              obtain ⟨w', m1, m2⟩ := copy_core (P := P) (ty := ty) hT h ht ht2 hsy hroot hcond.1 hcond.2 (off := off) (len := len) (c := c) (A := A) k1 k5
              exact ⟨_, w', m1, m2, .int, fun r av hn => by cases hn⟩
          · simp at hv
        · simp at hv
      · simp at hv
  · simp at hv

end
end Go.VI
