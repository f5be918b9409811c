/- The operations that read memory, and those that make addresses. Fields, indexes, slices of slices, lengths, tuples, structs as values. Slices of slices, and the small operations. The small operations: parts of tuples, lengths, greatest and least, conversions of numbers, structs and slices written out. Structs and slices that are written out. The operations that make memory. -/
import Derived.Test.YtnnikgdmdmbooaaGreatJ01
import Derived.Deep.MidRow
import Derived.Laws.BytesArg
import Derived.Laws.MakeOwn
import Derived.IntWalk
set_option linter.unusedVariables false
set_option linter.unusedSimpArgs false
namespace Go.VI

section
variable {P : Program} {T : Tab} (hT : TabOK P T) {C : Ctx} {g : Tags} {w : World} {rv : Nat → Value} {ρ : Roots}

theorem DR.one {ks : Nat → Prop} {m : Mode} {s : Sh} {d : D} {vs : List Value} (h : DR T g w rv ks m s d vs) (hk : ∀ K, ks K → (rv K).oneCell' = true) :
    ∀ v ∈ vs, v.oneCell' = true := by
  induction h with
  | int h => intro v hv; simp at hv; subst hv; rfl
  | bool h => intro v hv; simp at hv; subst hv; rfl
  | str h => intro v hv; simp at hv; subst hv; rfl
  | plain h h2 => intro v hv; simp at hv; subst hv; exact h2
  | key h h' => intro v hv; simp at hv; subst hv; exact hk _ h'
  | sl h h' _ ih => exact ih
  | node => intro v hv; simp at hv; subst hv; rfl
  | struct vs h _ ih =>
    intro v hv
    simp only [List.mem_flatMap, List.mem_range] at hv
    obtain ⟨j, hj, hv⟩ := hv
    exact ih j hj v hv

include hT in
theorem run_size {t : TypeId} (h : (T.ty t).isSome) (w : World) : (Go.sizeOf t).run P w = .ok (T.sz t) w := by
  obtain ⟨i, z, h1, h2, _⟩ := hT.info t h
  simp [Go.sizeOf, typeInfo, h1, h2]

include hT in
theorem run_agg {t : TypeId} {d : TyD} (h : T.ty t = some d) (w : World) : (isAgg t).run P w = .ok (match d with | .struct _ => true | _ => false) w := by
  unfold isAgg
  cases d with
  | int k => simp [run_underlying (hT.int _ _ h)]
  | bool => simp [run_underlying (hT.bool _ h)]
  | str => simp [run_underlying (hT.str _ h)]
  | slice e => simp [run_underlying (hT.slice _ _ h).1]
  | struct fs => obtain ⟨fields, h1, _⟩ := hT.struct _ _ h; simp [run_underlying h1]
  | plain =>
    obtain ⟨u, h1, h2, h3⟩ := hT.plain _ h
    simp only [Sem.run_bind, run_underlying h1, Result.andThen_ok]
    cases u <;> first | rfl | exact absurd rfl (h3 _) | exact absurd rfl (h2 _ _)

/-- A variable is read: a struct as its cells, whatever else as its one cell. -/
def whole (T : Tab) (t : TypeId) (vs : List Value) : Value :=
  match T.ty t with
  | some (.struct _) => .agg vs.toArray
  | _ => vs.headD undef

include hT in
theorem run_loadVar {t : TypeId} (h : (T.ty t).isSome) {vs : List Value} (hl : vs.length = T.sz t) {b o : Nat} (hc : ∀ k v, vs[k]? = some v → cellOf w b (o + k) = some v) :
    (loadVar t ⟨b, o, none⟩).run P w = .ok (whole T t vs) w := by
  obtain ⟨d, hd⟩ := Option.isSome_iff_exists.1 h
  have h2 := run_size hT h w
  unfold loadVar whole
  simp only [Sem.run_bind, run_agg hT hd, Result.andThen_ok, hd]
  have hone : (∀ fs, d ≠ .struct fs) → (load ⟨b, o, none⟩).run P w = .ok (vs.headD undef) w := by
    intro hns
    have h1 : T.sz t = 1 := by
      cases d with
      | int k => exact hT.fit.int _ _ hd
      | bool => exact hT.fit.bool _ hd
      | str => exact hT.fit.str _ hd
      | slice e => exact hT.fit.slice _ _ hd
      | plain => exact hT.fit.plain _ hd
      | struct fs => exact absurd rfl (hns fs)
    match vs, hl with
    | [v], _ =>
      have := hc 0 v rfl
      simp only [Nat.add_zero] at this
      unfold cellOf at this
      simp [run_load, this]
    | [], hl => simp [h1] at hl
    | _ :: _ :: _, hl => simp [h1] at hl
  cases d with
  | struct fs =>
    simp only [if_true, Sem.run_bind, h2, Result.andThen_ok]
    rw [← hl, run_loadCells_list w ⟨b, o, none⟩ vs (fun j v hv => by rw [Addr.add_mid]; exact hc j v hv)]
    simp
  | _ => simpa using hone (fun fs => by simp)

theorem loc_flat (T : Tab) (w : World) : ∀ (q : List Nat) (t : TypeId) (b o : Nat) (t' : TypeId) (fo : Nat), flat T t q = some (t', fo) → loc T w t b o q = some (t', b, o + fo)
  | [], t, b, o, t', fo, h => by
    simp only [flat, Option.some.injEq, Prod.mk.injEq] at h
    obtain ⟨rfl, rfl⟩ := h; rfl
  | i :: q, t, b, o, t', fo, h => by
    simp only [flat] at h
    split at h
    · rename_i fs ht
      split at h
      · rename_i hi
        cases hf : flat T (fs.getD i 0) q with
        | none => rw [hf] at h; simp at h
        | some r =>
          rw [hf] at h
          simp only [Option.map_some, Option.some.injEq, Prod.mk.injEq] at h
          obtain ⟨rfl, rfl⟩ := h
          simp only [loc, ht]
          rw [loc_flat T w q _ _ _ r.1 r.2 hf]
          simp [Nat.add_assoc]
      · simp at h
    · simp at h

theorem nav_flat (T : Tab) : ∀ (q : List Nat) (t : TypeId) (d : D) (n : Nat) (t' : TypeId) (fo : Nat), flat T t q = some (t', fo) → nav T t d n q = some (t', d.at q, n)
  | [], t, d, n, t', fo, h => by
    simp only [flat, Option.some.injEq, Prod.mk.injEq] at h
    obtain ⟨rfl, rfl⟩ := h; rfl
  | i :: q, t, d, n, t', fo, h => by
    simp only [flat] at h
    split at h
    · rename_i fs ht
      split at h
      · rename_i hi
        cases hf : flat T (fs.getD i 0) q with
        | none => rw [hf] at h; simp at h
        | some r =>
          rw [hf] at h
          simp only [Option.map_some, Option.some.injEq, Prod.mk.injEq] at h
          obtain ⟨rfl, rfl⟩ := h
          simp only [nav, ht, if_pos hi, D.at]
          rw [nav_flat T q _ _ _ r.1 r.2 hf]
      · simp at h
    · simp at h

/-- The element i of a root, as an object. -/
theorem RootR.elem {r : Nat} {root : Root} (h : RootR T g w rv r root) {i : Nat} (hi : i < root.els.length) {b o : Nat} (hb : Base (rv r) root b o) :
    Obj T g w rv (· ∈ root.keys) r [] (i * T.sz root.e) [i] (root.dep - 1) root.e (root.els.getD i .nil) b (o + i * T.sz root.e) := by
  obtain ⟨c, hb⟩ := hb
  obtain ⟨n, hn⟩ : ∃ n, root.dep = n + 1 := ⟨root.dep - 1, by have := h.dep; omega⟩
  have hdr := h.dr
  rw [hn] at hdr
  obtain ⟨A, c', b', o', us, h1, h2, h3, h4, h5, h6⟩ := hdr.node_inv
  have hne : (D.list root.els).els ≠ [] := by simp only [D.els]; intro e; rw [e] at hi; simp at hi
  have hA := h2 hne
  subst hA
  rw [hb] at h1
  simp only [List.cons.injEq, and_true, Value.slice.injEq, Option.some.injEq, Addr.mk.injEq] at h1
  obtain ⟨⟨rfl, rfl, -⟩, -, -⟩ := h1
  refine ⟨us i, ?_, fun k v hv => ?_⟩
  · rw [hn]; exact h6 i hi
  · obtain ⟨a1, a2, a3⟩ := h5 i k v hi hv
    exact ⟨a1, a2, a3 (by simp [Mode.tag])⟩

include hT in
theorem RootR.at {r : Nat} {root : Root} (h : RootR T g w rv r root) {i : Nat} (hi : i < root.els.length) {b o : Nat} (hb : Base (rv r) root b o) {q : List Nat} {t : TypeId} {fo : Nat}
    (hq : flat T root.e q = some (t, fo)) :
    ∃ q' κ, Obj T g w rv (· ∈ root.keys) r q' κ (i :: q) (root.dep - 1) t ((root.els.getD i .nil).at q) b (o + i * T.sz root.e + fo) ∧
      ((q' = [] ∧ i * T.sz root.e ≤ κ ∧ κ + T.sz t ≤ i * T.sz root.e + T.sz root.e) ∨ ∃ s, q' = [i] ++ s) := by
  have h1 := h.elem hi hb
  have h2 := nav_flat T q root.e (root.els.getD i .nil) (root.dep - 1) t fo hq
  obtain ⟨b', o', q', κ', h3, h4, h5⟩ := h1.nav_loc hT.fit q h2
  rw [loc_flat T w q _ _ _ t fo hq] at h3
  simp only [Option.some.injEq, Prod.mk.injEq, true_and] at h3
  obtain ⟨rfl, rfl⟩ := h3
  exact ⟨q', κ', by simpa using h4, h5⟩

theorem fromD_some {t : TypeId} {d : D} {x : VV} (h : fromD T t d = some x) : (T.ty t).isSome := by
  unfold fromD at h
  cases ht : T.ty t with
  | none => simp [ht] at h
  | some a => rfl

include hT in
theorem flat_some : ∀ (q : List Nat) {e t : TypeId} {fo : Nat}, flat T e q = some (t, fo) → (T.ty e).isSome → (T.ty t).isSome
  | [], e, t, fo, h, he => by
    simp only [flat, Option.some.injEq, Prod.mk.injEq] at h
    rw [← h.1]; exact he
  | i :: q, e, t, fo, h, he => by
    simp only [flat] at h
    split at h
    · rename_i fs ht
      split at h
      · rename_i hi
        cases hf : flat T (fs.getD i 0) q with
        | none => rw [hf] at h; simp at h
        | some r =>
          rw [hf] at h
          simp only [Option.map_some, Option.some.injEq, Prod.mk.injEq] at h
          obtain ⟨rfl, rfl⟩ := h
          obtain ⟨fields, h1, h2, h3⟩ := hT.struct _ _ ht
          have hi' : i < fields.size := by omega
          exact flat_some q hf (h3 i fields[i] (by simp [hi'])).2.2
      · simp at h
    · simp at h

def loadV (T : Tab) (t : TypeId) (x : VV) (ρ : Roots) (sup : Sup) : Option (VV × List Prop) :=
  match x with
  | .iaddr t' d => if t' = t then (fromD T t d).map fun x => (x, []) else none
  | .addr r av i q t' =>
    match ρ r with
    | none => none
    | some root =>
      if t' = t ∧ av = root.av then
        match sup with
        | .key K => if 1 < root.dep then match T.ty t, ρ K with
          | some (.slice _), some rk => some (.top K rk.av, [(root.els.getD i .nil).at q = .key K])
          | _, _ => none
          else none
        | _ => if root.dep = 1 then (fromD T t ((root.els.getD i .nil).at q)).map fun x => (x, [])
          else if scalar T t then (fromD T t ((root.els.getD i .nil).at q)).map fun x => (x, []) else none
      else none
  | _ => none

include hT in
theorem fromD_whole {t : TypeId} {x : VV} {d : D} {vs : List Value} (hd : DR T g w rv imms .imm (.val t) d vs) (hx : fromD T t d = some x) :
    SR T g w rv ρ x (whole T t vs) ∧ ∀ r av, ¬ Names r av x := by
  obtain ⟨v, h1, h2, h3, h4⟩ := fromD_sr (ρ := ρ) hT hd hx
  have hv : whole T t vs = v := by
    unfold whole
    split
    · rename_i fs ht; rw [h3 ⟨fs, ht⟩]
    · rename_i hn
      obtain ⟨h5, _⟩ := h4 (fun fs hfs => hn fs hfs)
      rw [h5]; rfl
  rw [hv]; exact ⟨h1, h2⟩

theorem scalar_imm {ks : Nat → Prop} {m : Mode} {t : TypeId} {d : D} {vs : List Value} (h : DR T g w rv ks m (.val t) d vs) (hs : scalar T t = true) :
    ∀ m' ks' g' w' rv', DR T g' w' rv' ks' m' (.val t) d vs := by
  intro m' ks' g' w' rv'
  unfold scalar at hs
  split at hs
  · rename_i k ht; rw [h.int_inv ht]; exact .int ht
  · rename_i ht; rw [h.bool_inv ht]; exact .bool ht
  · rename_i ht; rw [h.str_inv ht]; exact .str ht
  · rename_i ht; obtain ⟨v, rfl, rfl, h1⟩ := h.plain_inv ht; exact .plain ht h1
  · simp at hs

include hT in
theorem loadV_sound {t : TypeId} {x z : VV} {u : Value} {sup : Sup} {obs : List Prop} (hr : ∀ r root, ρ r = some root → RootR T g w rv r root)
    (hx : SR T g w rv ρ x u) (h : loadV T t x ρ sup = some (z, obs)) (ho : ∀ p ∈ obs, p) :
    ∃ v, (Instr.loadAt t u).run P w = .ok v w ∧ SR T g w rv ρ z v ∧ Live ρ z := by
  unfold loadV at h
  split at h
  · rename_i t' d
    split at h
    · rename_i e
      subst e
      cases hf : fromD T t' d with
      | none => rw [hf] at h; simp at h
      | some y =>
        rw [hf] at h
        simp only [Option.map_some, Option.some.injEq, Prod.mk.injEq] at h
        obtain ⟨rfl, rfl⟩ := h
        cases hx with
        | @iaddr _ _ vs b o h1 h2 =>
          have hs := fromD_some hf
          obtain ⟨h3, h4⟩ := fromD_whole (ρ := ρ) hT h1 hf
          refine ⟨_, ?_, h3, fun r av hn => absurd hn (h4 r av)⟩
          simp only [Instr.loadAt, Instr.sureAddr, Sem.run_bind, Sem.run_pure, Result.andThen_ok]
          exact run_loadVar hT hs (h1.length hT.fit) (fun k v hv => (h2 k v hv).1)
    · simp at h
  · rename_i r av i q t'
    split at h
    · simp at h
    · rename_i root hroot
      split at h
      · rename_i hav
        obtain ⟨rfl, rfl⟩ := hav
        cases hx with
        | addr h1 =>
          obtain ⟨hi, fo, b, o, hq, hb, rfl⟩ := h1 root hroot rfl
          obtain ⟨q', κ, hobj, _⟩ := (hr r root hroot).at hT hi hb hq
          obtain ⟨vs, hd, hc⟩ := hobj.ex
          split at h
          · rename_i K
            split at h
            · split at h
              · rename_i e rk hte hK
                simp only [Option.some.injEq, Prod.mk.injEq] at h
                obtain ⟨rfl, rfl⟩ := h
                obtain ⟨h2, _⟩ := all_cons ho
                rw [h2] at hd
                have hvs := (hd.key_inv hte).1
                subst hvs
                refine ⟨rv K, ?_, .top fun root' hr' _ => rfl, fun r' av' hn => ?_⟩
                · simp only [Instr.loadAt, Instr.sureAddr, Sem.run_bind, Sem.run_pure, Result.andThen_ok]
                  rw [run_loadVar hT (by rw [hte]; rfl) (hd.length hT.fit) (fun k v hv => (hc k v hv).1)]
                  simp [whole, hte]
                · cases hn; exact ⟨rk, hK, Nat.le_refl _⟩
              · simp at h
            · simp at h
          · have key : ∀ y, fromD T t' ((root.els.getD i .nil).at q) = some y → DR T g w rv imms .imm (.val t') ((root.els.getD i .nil).at q) vs → z = y → obs = [] →
                ∃ v, (Instr.loadAt t' (.pointer (some ⟨b, o + i * T.sz root.e + fo, none⟩))).run P w = .ok v w ∧ SR T g w rv ρ z v ∧ Live ρ z := by
              intro y hy hdi hz _
              subst hz
              obtain ⟨h3, h4⟩ := fromD_whole (ρ := ρ) hT hdi hy
              refine ⟨_, ?_, h3, fun r av hn => absurd hn (h4 r av)⟩
              simp only [Instr.loadAt, Instr.sureAddr, Sem.run_bind, Sem.run_pure, Result.andThen_ok]
              exact run_loadVar hT (fromD_some hy) (hdi.length hT.fit) (fun k v hv => (hc k v hv).1)
            split at h
            · rename_i hdep
              cases hf : fromD T t' ((root.els.getD i .nil).at q) with
              | none => rw [hf] at h; simp at h
              | some y =>
                rw [hf] at h
                simp only [Option.map_some, Option.some.injEq, Prod.mk.injEq] at h
                refine key y hf ?_ h.1.symm h.2.symm
                refine hd.imm_of_zero (.inr ⟨r, i :: q, ?_⟩) rv imms
                rw [hdep]
            · split at h
              · rename_i hsc
                cases hf : fromD T t' ((root.els.getD i .nil).at q) with
                | none => rw [hf] at h; simp at h
                | some y =>
                  rw [hf] at h
                  simp only [Option.map_some, Option.some.injEq, Prod.mk.injEq] at h
                  exact key y hf (scalar_imm hd hsc _ _ _ _ _) h.1.symm h.2.symm
              · simp at h
      · simp at h
  · simp at h

end
end Go.VI

namespace Go.VI

section
variable {P : Program} {T : Tab} (hT : TabOK P T) {g : Tags} {w : World} {rv : Nat → Value} {ρ : Roots}

/-! ### A field's address; a field of a value -/

/-- The root that a value names, if its header hasn't turned since. -/
def cur (ρ : Roots) (r av : Nat) : Option Root :=
  match ρ r with
  | some root => if av = root.av then some root else none
  | none => none

theorem cur_some {ρ : Roots} {r av : Nat} {root : Root} (h : cur ρ r av = some root) : ρ r = some root ∧ av = root.av := by
  unfold cur at h
  split at h
  · rename_i root' hr
    split at h
    · rename_i hav
      simp only [Option.some.injEq] at h; subst h
      exact ⟨hr, hav⟩
    · simp at h
  · simp at h

def fieldAddrV (T : Tab) (s : TypeId) (x : VV) (f : Nat) (ρ : Roots) : Option VV :=
  match T.ty s with
  | some (.struct fs) =>
    if f < fs.length then
      match x with
      | .addr r av i q t => if t = s then (cur ρ r av).map fun _ => .addr r av i (q ++ [f]) (fs.getD f 0) else none
      | .iaddr t d => if t = s then some (.iaddr (fs.getD f 0) (d.kid f)) else none
      | _ => none
    else none
  | _ => none

theorem flat_snoc {fs : List TypeId} {f : Nat} (hf : f < fs.length) : ∀ (q : List Nat) {e t : TypeId} {fo : Nat}, flat T e q = some (t, fo) → T.ty t = some (.struct fs) →
    flat T e (q ++ [f]) = some (fs.getD f 0, fo + T.offs fs f)
  | [], e, t, fo, h, ht => by
    simp only [flat, Option.some.injEq, Prod.mk.injEq] at h
    obtain ⟨rfl, rfl⟩ := h
    simp [flat, ht, hf]
  | i :: q, e, t, fo, h, ht => by
    simp only [flat] at h
    split at h
    · rename_i gs hg
      split at h
      · rename_i hi
        cases hq : flat T (gs.getD i 0) q with
        | none => rw [hq] at h; simp at h
        | some r =>
          rw [hq] at h
          simp only [Option.map_some, Option.some.injEq, Prod.mk.injEq] at h
          obtain ⟨rfl, rfl⟩ := h
          have := flat_snoc hf q (t := r.1) (fo := r.2) hq ht
          simp only [List.cons_append, flat, hg, if_pos hi, this, Option.map_some]
          simp [Nat.add_assoc]
      · simp at h
    · simp at h

include hT in
theorem run_fieldPlace {t : TypeId} (ht : (T.ty t).isSome) (hp : 0 < T.sz t) (f : Field) (hf : f.type = t) (b o : Nat) :
    (fieldPlace ⟨b, o, none⟩ f).run P w = .ok ⟨b, o + f.offset, none⟩ w := by
  unfold fieldPlace
  simp only [hf, Sem.run_bind, run_size hT ht, Result.andThen_ok]
  rw [if_neg (by omega)]
  simp [Addr.add_mid]

include hT in
theorem fieldAddrV_sound (hz : ∀ t, (T.ty t).isSome → 0 < T.sz t) {s : TypeId} {x z : VV} {f : Nat} {u : Value} (hx : SR T g w rv ρ x u) (h : fieldAddrV T s x f ρ = some z) :
    ∃ v, (Instr.fieldAt s u f).run P w = .ok v w ∧ SR T g w rv ρ z v ∧ Live ρ z := by
  unfold fieldAddrV at h
  split at h
  · rename_i fs hs
    split at h
    · rename_i hf
      obtain ⟨fields, h1, h2, h3⟩ := hT.struct _ _ hs
      have hf' : f < fields.size := by omega
      have h4 : fields[f]? = some fields[f] := by simp [hf']
      obtain ⟨h5, h6, h7⟩ := h3 f _ h4
      have run : ∀ b o, (Instr.fieldAt s (.pointer (some ⟨b, o, none⟩)) f).run P w = .ok (.pointer (some ⟨b, o + T.offs fs f, none⟩)) w := by
        intro b o
        simp only [Instr.fieldAt, Sem.run_bind, run_underlying h1, Result.andThen_ok, h4, Instr.sureAddr, Sem.run_pure]
        rw [run_fieldPlace hT h7 (hz _ h7) _ h5]
        simp [h6]
      split at h
      · rename_i r av i q t
        split at h
        · rename_i e
          subst e
          cases hc : cur ρ r av with
          | none => rw [hc] at h; simp at h
          | some root =>
            rw [hc] at h
            simp only [Option.map_some, Option.some.injEq] at h; subst h
            obtain ⟨hr, hav⟩ := cur_some hc
            cases hx with
            | addr hx =>
              obtain ⟨hi, fo, b, o, hq, hb, rfl⟩ := hx root hr hav
              refine ⟨_, run _ _, .addr fun root' hr' hav' => ?_, fun r' av' hn' => by cases hn'; exact ⟨root, hr, Nat.le_of_eq hav⟩⟩
              rw [hr] at hr'
              simp only [Option.some.injEq] at hr'; subst hr'
              refine ⟨hi, fo + T.offs fs f, b, o, flat_snoc hf q hq hs, hb, ?_⟩
              rw [show o + i * T.sz root.e + fo + T.offs fs f = o + i * T.sz root.e + (fo + T.offs fs f) from by omega]
        · simp at h
      · rename_i t d
        split at h
        · rename_i e
          subst e
          simp only [Option.some.injEq] at h; subst h
          cases hx with
          | @iaddr _ _ vs b o h8 h9 =>
            obtain ⟨us, rfl, hrec⟩ := h8.struct_inv hs
            refine ⟨_, run b o, .iaddr (hrec f hf) fun k v hv => ?_, fun r' av' hn' => by cases hn'⟩
            have := h9 (T.offs fs f + k) v (by
              rw [offs_range T fs f (by omega)]
              exact flat_get fs.length _ us (fun i hi => (hrec i hi).length hT.fit) f hf k v hv)
            simpa [Nat.add_assoc] using this
        · simp at h
      · simp at h
    · simp at h
  · simp at h

def fieldV (T : Tab) (s : TypeId) (x : VV) (f : Nat) : Option VV :=
  match T.ty s, x with
  | some (.struct fs), .agg t d => if f < fs.length then if t = s then fromD T (fs.getD f 0) (d.kid f) else none else none
  | _, _ => none

theorem extract_flat {fs : List TypeId} {us : Nat → List Value} {sz : TypeId → Nat} {f : Nat} (hl : ∀ j, j < fs.length → (us j).length = sz (fs.getD j 0)) (hf : f < fs.length) (o : Nat)
    (ho : o = ((List.range f).map (fun i => sz (fs.getD i 0))).sum) :
    (((List.range fs.length).flatMap us).toArray.extract o (o + sz (fs.getD f 0))).toList = us f := by
  apply List.ext_getElem?
  intro k
  simp only [List.extract_toArray, List.getElem?_take, List.getElem?_drop, List.extract_eq_take_drop]
  have hlen := sum_range_flat fs sz us hl
  rcases Nat.lt_or_ge k (us f).length with h | h
  · have hk : k < o + sz (fs.getD f 0) - o := by rw [← hl f hf]; omega
    rw [if_pos hk, List.getElem?_eq_getElem h, ho]
    exact flat_get fs.length _ us hl f hf k _ (by simp [h])
  · rw [List.getElem?_eq_none h, if_neg (by rw [← hl f hf]; omega)]

include hT in
theorem fieldV_sound {s : TypeId} {x z : VV} {f : Nat} {u : Value} (hx : SR T g w rv ρ x u) (h : fieldV T s x f = some z) :
    ∃ v, (Instr.field s u f).run P w = .ok v w ∧ SR T g w rv ρ z v ∧ Live ρ z := by
  unfold fieldV at h
  split at h
  · rename_i fs t d hs
    split at h
    · rename_i hf
      split at h
      · rename_i e
        subst e
        cases hx with
        | @agg _ _ vs h1 h2 =>
          obtain ⟨us, h3, hrec⟩ := h2.struct_inv hs
          obtain ⟨fields, k1, k2, k3⟩ := hT.struct _ _ hs
          have hf' : f < fields.size := by omega
          have h4 : fields[f]? = some fields[f] := by simp [hf']
          obtain ⟨h5, h6, h7⟩ := k3 f _ h4
          have hdr := hrec f hf
          obtain ⟨h8, h9⟩ := fromD_whole (ρ := ρ) hT hdr h
          have hlen : ∀ j, j < fs.length → (us j).length = T.sz (fs.getD j 0) := fun j hj => (hrec j hj).length hT.fit
          refine ⟨_, ?_, h8, fun r av hn => absurd hn (h9 r av)⟩
          simp only [Instr.field, Sem.run_bind, run_underlying k1, Result.andThen_ok, h4, asAgg, Sem.run_pure, h5, h6, part]
          obtain ⟨dd, hdd⟩ := Option.isSome_iff_exists.1 h7
          simp only [run_agg hT hdd, Result.andThen_ok]
          have ho : T.offs fs f = ((List.range f).map (fun i => T.sz (fs.getD i 0))).sum := offs_range T fs f (by omega)
          have hex := extract_flat hlen hf _ ho
          unfold whole
          cases dd with
          | struct gs =>
            simp only [if_true, Sem.run_bind, run_size hT h7, Result.andThen_ok, hdd]
            rw [Sem.run_pure]
            congr 2
            apply Array.toList_inj.1
            rw [← hex]
            have hv : vs = ((List.range fs.length).flatMap us).toArray := by rw [← h3]
            rw [hv]
          | _ =>
            all_goals
              have h1' : T.sz (fs.getD f 0) = 1 := by
                first
                | exact hT.fit.int _ _ hdd
                | exact hT.fit.bool _ hdd
                | exact hT.fit.str _ hdd
                | exact hT.fit.slice _ _ hdd
                | exact hT.fit.plain _ hdd
              have hlf := hlen f hf
              rw [h1'] at hlf
              match hu : us f, hlf with
              | [v], _ =>
                have hg := flat_get fs.length _ us hlen f hf 0 v (by rw [hu]; rfl)
                simp only [Nat.add_zero] at hg
                rw [← ho, ← h3] at hg
                have hg' : vs[T.offs fs f]? = some v := by simpa using hg
                simp only [hdd]
                simp [hg']
      · simp at h
    · simp at h
  · simp at h

/-! ### An element's address -/

def indexAddrV (T : Tab) (t : TypeId) (x i : VV) (ρ : Roots) : Option (VV × List Prop) :=
  match T.ty t, x, i with
  | some (.slice e), .imm e' _ els, .int _ n => if e = e' then some (.iaddr e (els.getD n.toNat .nil), [0 ≤ n, n < els.length]) else none
  | some (.slice e), .top r av, .int _ n => match cur ρ r av with
    | some root => if e = root.e then some (.addr r av n.toNat [] e, [0 ≤ n, n < root.els.length]) else none
    | none => none
  | some (.slice e), .win r av off len _, .int _ n => match cur ρ r av with
    | some root => if e = root.e then some (.addr r av (off + n.toNat) [] e, [0 ≤ n, n < len]) else none
    | none => none
  | _, _, _ => none

theorem RootR.base {r : Nat} {root : Root} (h : RootR T g w rv r root) {i : Nat} (hi : i < root.els.length) : ∃ b o, Base (rv r) root b o := by
  obtain ⟨A, c, b, o, us, h1, h2, _⟩ := h.dr.node_inv
  have hne : (D.list root.els).els ≠ [] := by simp only [D.els]; intro e; rw [e] at hi; simp at hi
  have := h2 hne
  subst this
  simp only [List.cons.injEq, and_true] at h1
  exact ⟨b, o, c, h1⟩

include hT in
theorem indexAddrV_sound {t : TypeId} {x i z : VV} {u k : Value} {obs : List Prop} (hr : ∀ r root, ρ r = some root → RootR T g w rv r root)
    (hx : SR T g w rv ρ x u) (hi : SR T g w rv ρ i k) (h : indexAddrV T t x i ρ = some (z, obs)) (ho : ∀ p ∈ obs, p) :
    ∃ v, (Instr.indexAt t u k).run P w = .ok v w ∧ SR T g w rv ρ z v ∧ Live ρ z := by
  unfold indexAddrV at h
  split at h
  · rename_i e e' full els kk n ht
    split at h
    · rename_i he
      subst he
      simp only [Option.some.injEq, Prod.mk.injEq] at h
      obtain ⟨rfl, rfl⟩ := h
      obtain ⟨h1, ho⟩ := all_cons ho
      obtain ⟨h2, _⟩ := all_cons ho
      cases hi
      cases hx with
      | imm hd _ =>
        obtain ⟨A, c, b, o, us, hv, hA, hcap, hl, hcell, hrec⟩ := hd.node_inv
        simp only [List.cons.injEq, and_true] at hv
        subst hv
        simp only [D.els] at *
        have hne : els ≠ [] := by intro e; rw [e] at h2; simp at h2; omega
        obtain rfl := hA hne
        have hn : n.toNat < els.length := by omega
        refine ⟨.pointer (some ⟨b, o + n.toNat * T.sz e, none⟩), ?_, .iaddr (vs := us n.toNat) (hrec n.toNat hn) (fun k v hk => ?_), fun r av hn => by cases hn⟩
        · simp only [Instr.indexAt, asIntOf, Sem.run_bind, Sem.run_pure, Result.andThen_ok, run_underlying (hT.slice _ _ ht).1]
          rw [if_pos ⟨h1, h2⟩]
          simp only [Sem.run_bind, run_size hT (hT.slice _ _ ht).2, Result.andThen_ok, Sem.run_pure, Addr.add_mid]
        · obtain ⟨a1, a2, _⟩ := hcell n.toNat k v hn hk
          exact ⟨a1, a2⟩
    · simp at h
  · rename_i e r av kk n ht
    split at h
    · rename_i root hc
      split at h
      · rename_i he
        simp only [Option.some.injEq, Prod.mk.injEq] at h
        obtain ⟨rfl, rfl⟩ := h
        obtain ⟨h1, ho⟩ := all_cons ho
        obtain ⟨h2, _⟩ := all_cons ho
        obtain ⟨hroot, hav⟩ := cur_some hc
        cases hi
        cases hx with
        | top hx =>
          have hu := hx root hroot hav
          have hn : n.toNat < root.els.length := by omega
          obtain ⟨b, o, c, hb⟩ := (hr r root hroot).base hn
          rw [hb] at hu
          subst hu
          refine ⟨.pointer (some ⟨b, o + n.toNat * T.sz e + 0, none⟩), ?_, .addr fun root' hr' hav' => ⟨?_, 0, b, o, ?_, ?_, ?_⟩, fun r av hn => by cases hn; exact ⟨root, hroot, Nat.le_of_eq hav⟩⟩
          · simp only [Instr.indexAt, asIntOf, Sem.run_bind, Sem.run_pure, Result.andThen_ok, run_underlying (hT.slice _ _ ht).1]
            rw [if_pos ⟨h1, h2⟩]
            simp only [Sem.run_bind, run_size hT (hT.slice _ _ ht).2, Result.andThen_ok, Sem.run_pure, Addr.add_mid, Nat.add_zero]
          · rw [hroot] at hr'
            simp only [Option.some.injEq] at hr'; rw [← hr']; exact hn
          · rw [hroot] at hr'
            simp only [Option.some.injEq] at hr'; rw [← hr', ← he]; rfl
          · rw [hroot] at hr'
            simp only [Option.some.injEq] at hr'; rw [← hr']; exact ⟨c, hb⟩
          · rw [hroot] at hr'
            simp only [Option.some.injEq] at hr'; rw [← hr', ← he]
      · simp at h
    · simp at h
  · rename_i e r av off len full kk n ht
    split at h
    · rename_i root hc
      split at h
      · rename_i he
        simp only [Option.some.injEq, Prod.mk.injEq] at h
        obtain ⟨rfl, rfl⟩ := h
        obtain ⟨h1, ho⟩ := all_cons ho
        obtain ⟨h2, _⟩ := all_cons ho
        obtain ⟨hroot, hav⟩ := cur_some hc
        cases hi
        cases hx with
        | win hx =>
          obtain ⟨k1, A, c, k2, k3, k4, k5⟩ := hx root hroot hav
          obtain ⟨b, o, hb, hA⟩ := k5 (by omega)
          subst hA
          subst k2
          have hn : off + n.toNat < root.els.length := by omega
          refine ⟨.pointer (some ⟨b, o + (off + n.toNat) * T.sz e + 0, none⟩), ?_, .addr fun root' hr' hav' => ⟨?_, 0, b, o, ?_, ?_, ?_⟩, fun r av hn => by cases hn; exact ⟨root, hroot, Nat.le_of_eq hav⟩⟩
          · simp only [Instr.indexAt, asIntOf, Sem.run_bind, Sem.run_pure, Result.andThen_ok, run_underlying (hT.slice _ _ ht).1]
            rw [if_pos ⟨h1, by omega⟩]
            simp only [Sem.run_bind, run_size hT (hT.slice _ _ ht).2, Result.andThen_ok, Sem.run_pure, Addr.add_mid, Nat.add_zero]
            rw [← he, Nat.add_mul]
            simp [Nat.add_assoc]
          · rw [hroot] at hr'
            simp only [Option.some.injEq] at hr'; rw [← hr']; exact hn
          · rw [hroot] at hr'
            simp only [Option.some.injEq] at hr'; rw [← hr', ← he]; rfl
          · rw [hroot] at hr'
            simp only [Option.some.injEq] at hr'; rw [← hr']; exact hb
          · rw [hroot] at hr'
            simp only [Option.some.injEq] at hr'; rw [← hr', ← he]
      · simp at h
    · simp at h
  · simp at h

end
end Go.VI

namespace Go.VI

section
variable {P : Program} {T : Tab} (hT : TabOK P T) {g : Tags} {w : World} {rv : Nat → Value} {ρ : Roots}

def intArg : Option VV → Int → Option Int
  | none, d => some d
  | some (.int _ n), _ => some n
  | _, _ => none

theorem intArg_sr {o : Option VV} {d n : Int} {v : Option Value} (h : intArg o d = some n) (hv : (o = none ∧ v = none) ∨ ∃ x u, o = some x ∧ v = some u ∧ SR T g w rv ρ x u) :
    (o = none ∧ v = none ∧ n = d) ∨ ∃ k, v = some (.int k n) ∧ o = some (.int k n) := by
  rcases hv with ⟨rfl, rfl⟩ | ⟨x, u, rfl, rfl, hx⟩
  · simp only [intArg, Option.some.injEq] at h
    exact .inl ⟨rfl, rfl, h.symm⟩
  · cases x <;> simp only [intArg, reduceCtorEq, Option.some.injEq] at h
    subst h
    cases hx
    exact .inr ⟨_, rfl, rfl⟩

def capTo (m : Option Value) (cap h : Nat) : Nat := match m with | none => cap | some _ => h

/-- The bounds of a slice expression, as they come out. -/
theorem run_sliceBounds {isS : Bool} {len cap : Nat} {lo hi mx : Option Value} {l h : Int}
    (hlo : (lo = none ∧ l = 0) ∨ ∃ k, lo = some (.int k l)) (hhi : (hi = none ∧ mx = none ∧ h = len) ∨ ∃ k, hi = some (.int k h)) (hmx : mx = none ∨ ∃ k, mx = some (.int k h))
    (h0 : 0 ≤ l) (h1 : l ≤ h) (h2 : h ≤ len) (hc : len ≤ cap) :
    (Instr.sliceBounds isS len cap lo hi mx).run P w = .ok (l.toNat, h.toNat, capTo mx cap h.toNat) w := by
  have sb : ∀ (k : IntKind) (n : Int) (y : Nat) (c : BoundsCode), 0 ≤ n → n ≤ y → (Instr.sliceBound (.int k n) y c).run P w = .ok n.toNat w := by
    intro k n y c ha hb
    simp only [Instr.sliceBound, asIntOf, Sem.run_bind, Sem.run_pure, Result.andThen_ok]
    rw [if_pos ⟨ha, hb⟩]; rfl
  rcases hmx with rfl | ⟨km, rfl⟩
  · rcases hhi with ⟨rfl, _, rfl⟩ | ⟨kh, rfl⟩
    · rcases hlo with ⟨rfl, rfl⟩ | ⟨kl, rfl⟩
      · simp [capTo, Instr.sliceBounds]
      · simp [capTo, Instr.sliceBounds, sb kl l len .sliceB h0 h1]
    · rcases hlo with ⟨rfl, rfl⟩ | ⟨kl, rfl⟩
      · simp [capTo, Instr.sliceBounds, sb kh h cap _ (by omega) (by omega)]
      · simp [capTo, Instr.sliceBounds, sb kh h cap _ (by omega) (by omega), sb kl l h.toNat .sliceB h0 (by omega)]
  · rcases hhi with ⟨rfl, hh, rfl⟩ | ⟨kh, rfl⟩
    · simp at hh
    · rcases hlo with ⟨rfl, rfl⟩ | ⟨kl, rfl⟩
      · simp [capTo, Instr.sliceBounds, sb km h cap _ (by omega) (by omega), sb kh h h.toNat .slice3B (by omega) (by omega)]
      · simp [capTo, Instr.sliceBounds, sb km h cap _ (by omega) (by omega), sb kh h h.toNat .slice3B (by omega) (by omega), sb kl l h.toNat .slice3C h0 (by omega)]

def sliceFull (full : Bool) (hi mx : Option VV) : Bool :=
  match mx with
  | some _ => true
  | none => match hi with
    | none => full
    | some _ => false

def sliceGo (lo hi mx : Option VV) (len : Nat) (k : Int → Int → VV) : Option (VV × List Prop) :=
  match intArg lo 0, intArg hi len with
  | some l, some h =>
    match mx with
    | none => some (k l h, [0 ≤ l, l ≤ h, h ≤ len])
    | some (.int _ m) => if hi.isSome then some (k l h, [0 ≤ l, l ≤ h, h ≤ len, m = h]) else none
    | _ => none
  | _, _ => none

def sliceV (T : Tab) (t : TypeId) (x : VV) (lo hi mx : Option VV) (ρ : Roots) : Option (VV × List Prop) :=
  match T.ty t, x with
  | some (.slice e), .imm e' full els => if e = e' then sliceGo lo hi mx els.length fun l h => .imm e (sliceFull full hi mx) ((els.drop l.toNat).take (h - l).toNat) else none
  | some (.slice e), .top r av => match cur ρ r av with
    | some root => if e = root.e then sliceGo lo hi mx root.els.length fun l h => .win r av l.toNat (h - l).toNat (sliceFull false hi mx) else none
    | none => none
  | some (.slice e), .win r av off len full => match cur ρ r av with
    | some root => if e = root.e then sliceGo lo hi mx len fun l h => .win r av (off + l.toNat) (h - l).toNat (sliceFull full hi mx) else none
    | none => none
  | some (.slice _), .nils => sliceGo lo hi mx 0 fun _ _ => .nils
  | some .str, .str s => match mx with
    | none => sliceGo lo hi mx s.size fun l h => .str (s.extract l.toNat h.toNat)
    | some _ => none
  | _, _ => none

theorem ok_congr {α : Type} {a b : α} {w : World} (h : a = b) : (Result.ok a w : Result α) = .ok b w := by rw [h]

include hT in
theorem sliceV_sound {t : TypeId} {x z : VV} {lo hi mx : Option VV} {u : Value} {vlo vhi vmx : Option Value} {obs : List Prop} (hr : ∀ r root, ρ r = some root → RootR T g w rv r root)
    (hx : SR T g w rv ρ x u)
    (hlo : (lo = none ∧ vlo = none) ∨ ∃ x u, lo = some x ∧ vlo = some u ∧ SR T g w rv ρ x u)
    (hhi : (hi = none ∧ vhi = none) ∨ ∃ x u, hi = some x ∧ vhi = some u ∧ SR T g w rv ρ x u)
    (hmx : (mx = none ∧ vmx = none) ∨ ∃ x u, mx = some x ∧ vmx = some u ∧ SR T g w rv ρ x u)
    (h : sliceV T t x lo hi mx ρ = some (z, obs)) (ho : ∀ p ∈ obs, p) :
    ∃ v, (Instr.sliceAt t u vlo vhi vmx).run P w = .ok v w ∧ SR T g w rv ρ z v ∧ Live ρ z := by
  have go : ∀ (len : Nat) (k : Int → Int → VV), sliceGo lo hi mx len k = some (z, obs) →
      ∃ l h : Int, z = k l h ∧ 0 ≤ l ∧ l ≤ h ∧ h ≤ len ∧ (∀ isS cap, len ≤ cap → (Instr.sliceBounds isS len cap vlo vhi vmx).run P w = .ok (l.toNat, h.toNat, capTo vmx cap h.toNat) w) ∧
        (mx = none ↔ vmx = none) ∧ (mx = none → hi = none → h = len) := by
    intro len k hg
    unfold sliceGo at hg
    split at hg
    · rename_i l hh e1 e2
      have a1 := intArg_sr e1 hlo
      have a2 := intArg_sr e2 hhi
      have b1 : (vlo = none ∧ l = 0) ∨ ∃ k, vlo = some (.int k l) := by
        rcases a1 with ⟨_, h1, h2⟩ | ⟨k, h1, _⟩
        · exact .inl ⟨h1, h2⟩
        · exact .inr ⟨k, h1⟩
      split at hg
      · simp only [Option.some.injEq, Prod.mk.injEq] at hg
        obtain ⟨rfl, rfl⟩ := hg
        obtain ⟨h1, ho⟩ := all_cons ho
        obtain ⟨h2, ho⟩ := all_cons ho
        obtain ⟨h3, _⟩ := all_cons ho
        have c1 : vmx = none := by rcases hmx with ⟨_, h⟩ | ⟨x, u, h, _⟩; exact h; simp at h
        subst c1
        refine ⟨l, hh, rfl, h1, h2, h3, fun isS cap hcap => run_sliceBounds b1 ?_ (.inl rfl) h1 h2 h3 hcap, by simp, fun _ hn => ?_⟩
        · rcases a2 with ⟨_, h1, h2⟩ | ⟨k, h1, _⟩
          · exact .inl ⟨h1, rfl, h2⟩
          · exact .inr ⟨k, h1⟩
        · rcases a2 with ⟨_, h1, h2⟩ | ⟨k, h1, h2⟩
          · exact h2
          · rw [h2] at hn; simp at hn
      · rename_i km m
        split at hg
        · rename_i hsome
          simp only [Option.some.injEq, Prod.mk.injEq] at hg
          obtain ⟨rfl, rfl⟩ := hg
          obtain ⟨h1, ho⟩ := all_cons ho
          obtain ⟨h2, ho⟩ := all_cons ho
          obtain ⟨h3, ho⟩ := all_cons ho
          obtain ⟨h4, _⟩ := all_cons ho
          have c1 : vmx = some (.int km hh) := by
            rcases hmx with ⟨h, _⟩ | ⟨x, u, h, h', hx'⟩
            · simp at h
            · simp only [Option.some.injEq] at h; subst h; cases hx'; rw [h', h4]
          subst c1
          refine ⟨l, hh, rfl, h1, h2, h3, fun isS cap hcap => run_sliceBounds b1 ?_ (.inr ⟨km, rfl⟩) h1 h2 h3 hcap, by simp, fun hn => by simp at hn⟩
          rcases a2 with ⟨h1, _, _⟩ | ⟨k, h1, _⟩
          · rw [h1] at hsome; simp at hsome
          · exact .inr ⟨k, h1⟩
        · simp at hg
      · simp at hg
    · simp at hg
  have fullOK : ∀ (full : Bool) (len cap : Nat) (l h : Int), sliceFull full hi mx = true → 0 ≤ l → l ≤ h → h ≤ len → len ≤ cap → (full = true → cap = len) → (mx = none ↔ vmx = none) → (mx = none → hi = none → h = len) →
      capTo vmx cap h.toNat - l.toNat = (h - l).toNat := by
    intro full len cap l h hf h1 h2 h3 h4 h5 h6 h7
    cases hm : mx with
    | none =>
      have hv := h6.1 hm
      rw [hv]
      simp only [capTo]
      simp only [sliceFull, hm] at hf
      cases hhi' : hi with
      | none =>
        simp only [hhi'] at hf
        have e1 := h5 hf
        have e2 := h7 hm hhi'
        omega
      | some _ => simp [hhi'] at hf
    | some m =>
      cases hv : vmx with
      | none => have := h6.2 hv; rw [hm] at this; simp at this
      | some v => simp only [capTo]; omega
  unfold sliceV at h
  split at h
  · rename_i e e' full els ht
    split at h
    · rename_i he
      subst he
      obtain ⟨l, hh, rfl, h0, h1, h2, hrun, hm, hlast⟩ := go _ _ h
      cases hx with
      | imm hd hful =>
        obtain ⟨A, c, b, o, us, hv, hA, hcap, hl, hcell, hrec⟩ := hd.node_inv
        simp only [List.cons.injEq, and_true] at hv
        subst hv
        simp only [D.els] at *
        have hlen : ((els.drop l.toNat).take (hh - l).toNat).length = (hh - l).toNat := by simp; omega
        let M := capTo vmx c hh.toNat
        have hM1 : hh.toNat ≤ M := by simp only [M, capTo]; split <;> omega
        refine ⟨.slice (if M = l.toNat then A else A.map (·.add (l.toNat * T.sz e))) (hh.toNat - l.toNat) (M - l.toNat), ?_, .imm ?_ ?_, fun r av hn => by cases hn⟩
        · simp only [Instr.sliceAt, Sem.run_bind, run_underlying (hT.slice _ _ ht).1, Result.andThen_ok, Instr.slice, hrun _ _ hcap, run_size hT (hT.slice _ _ ht).2, Sem.run_pure, M]
        · have e1 : hh.toNat - l.toNat = ((els.drop l.toNat).take (hh - l).toNat).length := by rw [hlen]; omega
          rw [e1]
          refine DR.node (d := .list ((els.drop l.toNat).take (hh - l).toNat)) _ _ b (o + l.toNat * T.sz e) (fun i => us (l.toNat + i)) ?_ ?_ ?_ ?_ ?_
          · intro hne
            simp only [D.els] at hne
            have hpos : 0 < ((els.drop l.toNat).take (hh - l).toNat).length := List.length_pos_iff.2 hne
            have hne' : els ≠ [] := by intro e; rw [e] at hpos; simp at hpos
            have hA' := hA hne'
            rw [if_neg (by omega), hA']
            simp [Addr.add_mid]
          · show _ ≤ _
            simp only [D.els]; omega
          · intro i hi
            simp only [D.els] at hi
            exact hl _ (by omega)
          · intro i k v hi hv
            simp only [D.els] at hi
            obtain ⟨a1, a2, a3⟩ := hcell (l.toNat + i) k v (by omega) hv
            have e : o + (l.toNat + i) * T.sz e + k = o + l.toNat * T.sz e + i * T.sz e + k := by rw [Nat.add_mul]; omega
            rw [e] at a1 a2 a3
            exact ⟨a1, by rw [a2]; rfl, fun hm => absurd rfl hm⟩
          · intro i hi
            simp only [D.els] at hi ⊢
            have := hrec (l.toNat + i) (by omega)
            have e : ((els.drop l.toNat).take (hh - l).toNat).getD i .nil = els.getD (l.toNat + i) .nil := by
              simp only [List.getD_eq_getElem?_getD, List.getElem?_take, List.getElem?_drop]
              rw [if_pos (by omega)]
            rw [e]; exact this
        · intro hf
          have := fullOK full els.length c l hh hf h0 h1 h2 hcap (fun hq => by
            obtain ⟨A', hA'⟩ := hful hq
            simp only [Value.slice.injEq] at hA'; exact hA'.2.2) hm hlast
          rw [hlen]
          refine ⟨if M = l.toNat then A else A.map (·.add (l.toNat * T.sz e)), ?_⟩
          have e1 : hh.toNat - l.toNat = (hh - l).toNat := by omega
          have e2 : M - l.toNat = (hh - l).toNat := this
          rw [e1, e2]
    · simp at h
  · rename_i e r av ht
    split at h
    · rename_i root hc
      split at h
      · rename_i he
        subst he
        obtain ⟨l, hh, rfl, h0, h1, h2, hrun, hm, hlast⟩ := go _ _ h
        obtain ⟨hroot, hav⟩ := cur_some hc
        cases hx with
        | top hx =>
          have hu := hx root hroot hav
          obtain ⟨A, c, b, o, us, hv, hA, hcap, _⟩ := (hr r root hroot).dr.node_inv
          simp only [List.cons.injEq, and_true] at hv
          rw [hv] at hu
          subst hu
          simp only [D.els] at *
          let M := capTo vmx c hh.toNat
          have hM1 : hh.toNat ≤ M := by simp only [M, capTo]; split <;> omega
          refine ⟨.slice (if M = l.toNat then A else A.map (·.add (l.toNat * T.sz root.e))) (hh.toNat - l.toNat) (M - l.toNat), ?_, .win fun root' hr' hav' => ?_, fun r av hn => by cases hn; exact ⟨root, hroot, Nat.le_of_eq hav⟩⟩
          · simp only [Instr.sliceAt, Sem.run_bind, run_underlying (hT.slice _ _ ht).1, Result.andThen_ok, Instr.slice, hrun _ _ hcap, run_size hT (hT.slice _ _ ht).2, Sem.run_pure, M]
          · rw [hroot] at hr'
            simp only [Option.some.injEq] at hr'; subst hr'
            refine ⟨by omega, _, _, by rw [show hh.toNat - l.toNat = (hh - l).toNat from by omega], by omega, fun hf => ?_, fun hpos => ?_⟩
            · have := fullOK false root.els.length c l hh hf h0 h1 h2 hcap (fun hq => by simp at hq) hm hlast
              simp only [M]; exact this
            · have hne' : root.els ≠ [] := by intro e; rw [e] at h2; simp at h2; omega
              have hA' := hA hne'
              refine ⟨b, o, ⟨c, by rw [hv, hA']⟩, ?_⟩
              rw [if_neg (by omega), hA']
              simp [Addr.add_mid]
      · simp at h
    · simp at h
  · rename_i e r av off len full ht
    split at h
    · rename_i root hc
      split at h
      · rename_i he
        subst he
        obtain ⟨l, hh, rfl, h0, h1, h2, hrun, hm, hlast⟩ := go _ _ h
        obtain ⟨hroot, hav⟩ := cur_some hc
        cases hx with
        | win hx =>
          obtain ⟨k1, A, c, k2, k3, k4, k5⟩ := hx root hroot hav
          subst k2
          let M := capTo vmx c hh.toNat
          have hM1 : hh.toNat ≤ M := by simp only [M, capTo]; split <;> omega
          refine ⟨.slice (if M = l.toNat then A else A.map (·.add (l.toNat * T.sz root.e))) (hh.toNat - l.toNat) (M - l.toNat), ?_, .win fun root' hr' hav' => ?_, fun r av hn => by cases hn; exact ⟨root, hroot, Nat.le_of_eq hav⟩⟩
          · simp only [Instr.sliceAt, Sem.run_bind, run_underlying (hT.slice _ _ ht).1, Result.andThen_ok, Instr.slice, hrun _ _ k3, run_size hT (hT.slice _ _ ht).2, Sem.run_pure, M]
          · rw [hroot] at hr'
            simp only [Option.some.injEq] at hr'; subst hr'
            refine ⟨by omega, _, _, by rw [show hh.toNat - l.toNat = (hh - l).toNat from by omega], by omega, fun hf => ?_, fun hpos => ?_⟩
            · have := fullOK full len c l hh hf h0 h1 h2 k3 k4 hm hlast
              simp only [M]; exact this
            · obtain ⟨b, o, hb, hA'⟩ := k5 (by omega)
              refine ⟨b, o, hb, ?_⟩
              rw [if_neg (by omega), hA']
              simp [Addr.add_mid, Nat.add_mul, Nat.add_assoc]
      · simp at h
    · simp at h
  · rename_i e ht
    obtain ⟨l, hh, rfl, h0, h1, h2, hrun, hm, hlast⟩ := go _ _ h
    cases hx
    have e1 : l = 0 := by simp at h2; omega
    have e2 : hh = 0 := by simp at h2; omega
    subst e1 e2
    refine ⟨.slice none 0 0, ?_, .nils, fun r av hn => by cases hn⟩
    simp only [Instr.sliceAt, Sem.run_bind, run_underlying (hT.slice _ _ ht).1, Result.andThen_ok, Instr.slice, hrun _ _ (Nat.le_refl _), run_size hT (hT.slice _ _ ht).2, Sem.run_pure]
    cases vmx <;> simp [capTo]
  · rename_i s ht
    split at h
    · obtain ⟨l, hh, rfl, h0, h1, h2, hrun, hm, hlast⟩ := go _ _ h
      have c1 : vmx = none := hm.1 rfl
      subst c1
      cases hx
      refine ⟨_, ?_, .str, fun r av hn => by cases hn⟩
      simp only [Instr.sliceAt, Sem.run_bind, run_underlying (hT.str _ ht), Result.andThen_ok, Instr.slice, Option.isSome_none, Bool.false_eq_true, if_false, hrun _ _ (Nat.le_refl _), Sem.run_pure]
    · simp at h
  · simp at h

end
end Go.VI

namespace Go.VI

section
variable {P : Program} {T : Tab} (hT : TabOK P T) {g : Tags} {w : World} {rv : Nat → Value} {ρ : Roots}

def extractV (x : VV) (i : Nat) : Option VV :=
  match x with
  | .tup vs => vs[i]?
  | _ => none

theorem extractV_sound {x z : VV} {i : Nat} {u : Value} (hx : SR T g w rv ρ x u) (hn : Live ρ x) (h : extractV x i = some z) :
    ∃ v, (Instr.extract u i).run P w = .ok v w ∧ SR T g w rv ρ z v ∧ Live ρ z := by
  unfold extractV at h
  split at h
  · rename_i vs
    cases hx with
    | @tup _ cs h1 h2 =>
      have hi : i < vs.length := by
        rcases Nat.lt_or_ge i vs.length with h' | h'
        · exact h'
        · rw [List.getElem?_eq_none h'] at h; simp at h
      have hc : cs[i]? = some cs[i] := by simp [show i < cs.size by omega]
      refine ⟨cs[i], by simp [Instr.extract, hc], h2 i z _ h hc, fun r av hr => hn r av (.tup (List.mem_of_getElem? h) hr)⟩
  · simp at h

def lenV (T : Tab) (t : TypeId) (x : VV) (ρ : Roots) : Option VV :=
  match T.ty t, x with
  | some .str, .str s => some (.int .i64 s.size)
  | some (.slice _), .imm _ _ els => some (.int .i64 els.length)
  | some (.slice _), .nils => some (.int .i64 0)
  | some (.slice _), .top r av => (cur ρ r av).map fun root => .int .i64 root.els.length
  | some (.slice _), .win r av _ len _ => (cur ρ r av).map fun _ => .int .i64 len
  | _, _ => none

include hT in
theorem lenV_sound {t : TypeId} {x z : VV} {u : Value} {ty : TypeId} (hr : ∀ r root, ρ r = some root → RootR T g w rv r root)
    (hx : SR T g w rv ρ x u) (h : lenV T t x ρ = some z) :
    ∃ v, (Builtin.len_ #[t] ty #[u]).run P w = .ok v w ∧ SR T g w rv ρ z v ∧ Live ρ z := by
  unfold lenV at h
  split at h
  · rename_i s ht
    simp only [Option.some.injEq] at h; subst h
    cases hx
    exact ⟨_, by simp [Builtin.len_, run_underlying (hT.str _ ht), goInt], .int, fun r av hn => by cases hn⟩
  · rename_i e e' f els ht
    simp only [Option.some.injEq] at h; subst h
    cases hx with
    | imm hd _ =>
      obtain ⟨A, c, b, o, us, hv, _⟩ := hd.node_inv
      simp only [List.cons.injEq, and_true] at hv
      subst hv
      exact ⟨_, by simp [Builtin.len_, run_underlying (hT.slice _ _ ht).1, goInt, D.els], .int, fun r av hn => by cases hn⟩
  · rename_i e ht
    simp only [Option.some.injEq] at h; subst h
    cases hx
    exact ⟨_, by simp [Builtin.len_, run_underlying (hT.slice _ _ ht).1, goInt], .int, fun r av hn => by cases hn⟩
  · rename_i e r av ht
    cases hc : cur ρ r av with
    | none => rw [hc] at h; simp at h
    | some root =>
      rw [hc] at h
      simp only [Option.map_some, Option.some.injEq] at h; subst h
      obtain ⟨hroot, hav⟩ := cur_some hc
      cases hx with
      | top hx =>
        have hu := hx root hroot hav
        obtain ⟨A, c, b, o, us, hv, _⟩ := (hr r root hroot).dr.node_inv
        simp only [List.cons.injEq, and_true] at hv
        rw [hv] at hu
        subst hu
        exact ⟨_, by simp [Builtin.len_, run_underlying (hT.slice _ _ ht).1, goInt, D.els], .int, fun r av hn => by cases hn⟩
  · rename_i e r av off len full ht
    cases hc : cur ρ r av with
    | none => rw [hc] at h; simp at h
    | some root =>
      rw [hc] at h
      simp only [Option.map_some, Option.some.injEq] at h; subst h
      obtain ⟨hroot, hav⟩ := cur_some hc
      cases hx with
      | win hx =>
        obtain ⟨k1, A, c, k2, _⟩ := hx root hroot hav
        subst k2
        exact ⟨_, by simp [Builtin.len_, run_underlying (hT.slice _ _ ht).1, goInt], .int, fun r av hn => by cases hn⟩
  · simp at h

def mostV (mx : Bool) (x y : VV) : Option VV :=
  match x, y with
  | .int k a, .int _ b => some (.int k (if mx then (if b > a then b else a) else (if b < a then b else a)))
  | _, _ => none

theorem mostV_sound {mx : Bool} {x y z : VV} {u v : Value} {ats : Array TypeId} {ty : TypeId} (hx : SR T g w rv ρ x u) (hy : SR T g w rv ρ y v) (h : mostV mx x y = some z) :
    ∃ r, ((if mx then Builtin.max_ else Builtin.min_) ats ty #[u, v]).run P w = .ok r w ∧ SR T g w rv ρ z r ∧ Live ρ z := by
  unfold mostV at h
  split at h
  · simp only [Option.some.injEq] at h; subst h
    cases hx; cases hy
    cases mx
    · exact ⟨_, by simp [Builtin.min_, Builtin.min2], .int, fun r av hn => by cases hn⟩
    · exact ⟨_, by simp [Builtin.max_, Builtin.max2], .int, fun r av hn => by cases hn⟩
  · simp at h

include hT in
theorem und_some {t : TypeId} (h : (T.ty t).isSome) : ∃ d, P.underlying t = some d := by
  obtain ⟨d, hd⟩ := Option.isSome_iff_exists.1 h
  cases d with
  | int k => exact ⟨_, hT.int _ _ hd⟩
  | bool => exact ⟨_, hT.bool _ hd⟩
  | str => exact ⟨_, hT.str _ hd⟩
  | slice e => exact ⟨_, (hT.slice _ _ hd).1⟩
  | struct fs => obtain ⟨f, h1, _⟩ := hT.struct _ _ hd; exact ⟨_, h1⟩
  | plain => obtain ⟨u, h1, _⟩ := hT.plain _ hd; exact ⟨_, h1⟩

/-- The bytes that a row's data are. -/
def bytesD (l : List D) : ByteArray := ⟨((l.map D.toInt).map fun n => UInt8.ofNat n.toNat).toArray⟩

/-- A text's byte. -/
def sgetD (s : ByteArray) (n : Int) : Int := ((s[n.toNat]?.getD 0).toNat : Int)

def indexV (T : Tab) (t : TypeId) (x i : VV) : Option (VV × List Prop) :=
  match T.ty t, x, i with
  | some .str, .str s, .int _ n => some (.int .u8 (sgetD s n), [0 ≤ n, n < s.size])
  | _, _, _ => none

include hT in
theorem indexV_sound {t : TypeId} {x i z : VV} {u k : Value} {obs : List Prop} (hx : SR T g w rv ρ x u) (hi : SR T g w rv ρ i k) (h : indexV T t x i = some (z, obs)) (ho : ∀ p ∈ obs, p) :
    ∃ v, (Instr.index t u k).run P w = .ok v w ∧ SR T g w rv ρ z v ∧ Live ρ z := by
  unfold indexV at h
  split at h
  · rename_i s kk n ht
    simp only [Option.some.injEq, Prod.mk.injEq] at h
    obtain ⟨rfl, rfl⟩ := h
    obtain ⟨h1, ho⟩ := all_cons ho
    obtain ⟨h2, _⟩ := all_cons ho
    cases hx; cases hi
    have hlt : n.toNat < s.size := by omega
    have hg : s[n.toNat]? = some s[n.toNat] := by simp [hlt]
    refine ⟨.int .u8 (sgetD s n), ?_, .int, fun r av hn => by cases hn⟩
    simp only [Instr.index, asIntOf, Sem.run_bind, Sem.run_pure, Result.andThen_ok, run_underlying (hT.str _ ht), sgetD]
    rw [if_pos h1, hg]
    simp
  · simp at h

def convV (T : Tab) (src dst : TypeId) (x : VV) : Option VV :=
  match T.ty src, T.ty dst, x with
  | some (.int _), some (.int k), .int _ n => some (.int k (k.wrap n))
  | some .str, some .str, .str s => some (.str s)
  | some (.slice e), some .str, .imm e' _ els => match T.ty e with
    | some (.int .u8) => if e = e' then some (.str (bytesD els)) else none
    | _ => none
  | _, _, _ => none

include hT in
theorem convV_sound {src dst : TypeId} {x z : VV} {u : Value} (hx : SR T g w rv ρ x u) (h : convV T src dst x = some z) :
    ∃ v, (convert src dst u).run P w = .ok v w ∧ SR T g w rv ρ z v ∧ Live ρ z := by
  unfold convV at h
  split at h
  · rename_i k' k k2 n h1 h2
    simp only [Option.some.injEq] at h; subst h
    cases hx
    exact ⟨_, by simp [convert, run_underlying (hT.int _ _ h1), run_underlying (hT.int _ _ h2), Conv.intToInt], .int, fun r av hn => by cases hn⟩
  · rename_i s h1 h2
    simp only [Option.some.injEq] at h; subst h
    cases hx
    exact ⟨_, by simp [convert, run_underlying (hT.str _ h1), run_underlying (hT.str _ h2)], .str, fun r av hn => by cases hn⟩
  · rename_i e e' full els h1 h2
    split at h
    · rename_i h3
      split at h
      · rename_i he
        subst he
        simp only [Option.some.injEq] at h; subst h
        cases hx with
        | imm hd _ =>
          obtain ⟨A, c, b, o, us, hv, hA, hcap, hl, hcell, hrec⟩ := hd.node_inv
          simp only [List.cons.injEq, and_true] at hv
          subst hv
          simp only [D.els] at *
          have hsz : T.sz e = 1 := hT.fit.int _ _ h3
          have hus : ∀ i, i < els.length → us i = [.int .u8 (els.getD i .nil).toInt] := fun i hi => (hrec i hi).int_inv h3
          refine ⟨.string (bytesD els), ?_, .str, fun r av hn => by cases hn⟩
          rw [run_convert_bytes_string w src dst e A els.length c (hT.slice _ _ h1).1 (hT.int _ _ h3) (hT.str _ h2)]
          have fin : ∀ a, A = some a → (loadCells a els.length).run P w = .ok ((els.map D.toInt).map (Value.int .u8)).toArray w := by
            intro a ha
            have hlen : ((els.map D.toInt).map (Value.int .u8)).length = els.length := by simp
            rw [← hlen]
            refine run_loadCells_list w a _ (fun j v hj => ?_)
            have hj' : j < els.length := by
              have := (List.getElem?_eq_some_iff.1 hj).1
              simpa using this
            have hne : els ≠ [] := by intro e; rw [e] at hj'; simp at hj'
            have := hA hne
            rw [ha] at this
            simp only [Option.some.injEq] at this
            subst this
            rw [Addr.add_mid]
            have h5 := (hcell j 0 v hj' (by
              rw [hus j hj']
              simp only [List.getElem?_map, Option.map_map, Option.map_eq_some_iff] at hj
              obtain ⟨d, hd, rfl⟩ := hj
              simp [List.getD_eq_getElem?_getD, hd])).1
            unfold cellOf at h5
            rw [← h5, hsz]
            congr 2
            omega
          cases hA' : A with
          | none =>
            have : els = [] := by
              rcases Classical.em (els = []) with h | h
              · exact h
              · rw [hA h] at hA'; simp at hA'
            subst this
            simp [Conv.bytesToString, bytesD]
            rfl
          | some a =>
            rw [run_bytesToString w a els.length c (els.map D.toInt) (fin a hA'), foldl_push_bytes]
            simp [bytesD, ByteArray.empty, ByteArray.emptyWithCapacity]
            rfl
      · simp at h
    · simp at h
  · simp at h

/-! ### Parts laid into cells -/

theorem foldl_set_get (vs : List Value) : ∀ (off st : Nat) (cs : Array Value) (k : Nat),
    ((vs.zipIdx st).foldl (fun cs (x : Value × Nat) => cs.setIfInBounds (off + x.2) x.1) cs)[k]? =
      if off + st ≤ k ∧ k < off + st + vs.length ∧ k < cs.size then vs[k - (off + st)]? else cs[k]? := by
  induction vs with
  | nil => intro off st cs k; simp; intro h1 h2; omega
  | cons v vs ih =>
    intro off st cs k
    simp only [List.zipIdx_cons, List.foldl_cons]
    rw [ih off (st + 1) (cs.setIfInBounds (off + st) v) k]
    simp only [Array.size_setIfInBounds, List.length_cons, Array.getElem?_setIfInBounds]
    by_cases h1 : off + (st + 1) ≤ k ∧ k < off + (st + 1) + vs.length ∧ k < cs.size
    · rw [if_pos h1, if_pos (by omega)]
      rw [show k - (off + st) = (k - (off + (st + 1))) + 1 from by omega]
      simp
    · rw [if_neg h1]
      by_cases h2 : off + st = k
      · subst h2
        rw [if_pos rfl]
        by_cases h3 : off + st < cs.size
        · rw [if_pos h3, if_pos (by omega)]; simp
        · rw [if_neg h3, if_neg (by omega)]
          rw [Array.getElem?_eq_none (by omega)]
      · rw [if_neg h2, if_neg (by omega)]

theorem flat_length (n : Nat) (f : Nat → Nat) (us : Nat → List Value) (hf : ∀ j, j < n → (us j).length = f j) : ((List.range n).flatMap us).length = ((List.range n).map f).sum := by
  rw [List.length_flatMap]
  congr 1
  apply List.map_congr_left
  intro j hj
  exact hf j (List.mem_range.1 hj)

theorem sum_le (f : Nat → Nat) (n : Nat) : ∀ j, j < n → ((List.range j).map f).sum + f j ≤ ((List.range n).map f).sum := by
  induction n with
  | zero => intro j hj; omega
  | succ n ih =>
    intro j hj
    rw [List.range_succ]
    simp only [List.map_append, List.sum_append, List.map_cons, List.map_nil, List.sum_cons, List.sum_nil]
    rcases Nat.lt_or_ge j n with h | h
    · have := ih j h; omega
    · have : j = n := by omega
      subst this; omega

/-- One part laid anew. -/
theorem upd_flat (n : Nat) (f : Nat → Nat) (us : Nat → List Value) (hf : ∀ j, j < n → (us j).length = f j) (cs : Array Value) (hcs : cs.toList = (List.range n).flatMap us) (j : Nat) (hj : j < n)
    (vs : Array Value) (hv : vs.size = f j) (off : Nat) (ho : off = ((List.range j).map f).sum) :
    (vs.zipIdx.foldl (fun cs (x : Value × Nat) => cs.setIfInBounds (off + x.2) x.1) cs).toList = (List.range n).flatMap (fun i => if i = j then vs.toList else us i) := by
  have hf' : ∀ i, i < n → (if i = j then vs.toList else us i).length = f i := by
    intro i hi
    split
    · rename_i e; subst e; simpa using hv
    · exact hf i hi
  have hsz : cs.size = ((List.range n).map f).sum := by rw [← flat_length n f us hf, ← hcs]; simp
  apply List.ext_getElem?
  intro k
  have h1 : vs.zipIdx.foldl (fun cs (x : Value × Nat) => cs.setIfInBounds (off + x.2) x.1) cs = (vs.toList.zipIdx 0).foldl (fun cs (x : Value × Nat) => cs.setIfInBounds (off + x.2) x.1) cs := by
    rw [← Array.foldl_toList]; simp
  rw [h1, Array.getElem?_toList, foldl_set_get]
  simp only [Nat.add_zero]
  have hle := sum_le f n j hj
  by_cases hk : off ≤ k ∧ k < off + vs.toList.length ∧ k < cs.size
  · rw [if_pos hk]
    have hk2 : k - off < vs.toList.length := by omega
    have := flat_get n f _ hf' j hj (k - off) (vs.toList[k - off]) (by simp [hk2])
    rw [← ho, show off + (k - off) = k from by omega] at this
    rw [this]; simp [hk2]
  · rw [if_neg hk]
    cases hg : cs[k]? with
    | none =>
      symm
      rw [List.getElem?_eq_none]
      rw [flat_length n f _ hf', ← hsz]
      rcases Nat.lt_or_ge k cs.size with h | h
      · simp [h] at hg
      · exact h
    | some v =>
      have hg' : ((List.range n).flatMap us)[k]? = some v := by rw [← hcs]; simpa using hg
      obtain ⟨i, k', hi, hv', e⟩ := flat_inv n f us hf k v hg'
      have hij : i ≠ j := by
        intro e'
        subst e'
        apply hk
        have hk' : k' < (us i).length := by
          rcases Nat.lt_or_ge k' (us i).length with h | h
          · exact h
          · rw [List.getElem?_eq_none h] at hv'; simp at hv'
        rw [hf i hi] at hk'
        have : k < cs.size := by
          rcases Nat.lt_or_ge k cs.size with h | h
          · exact h
          · rw [Array.getElem?_eq_none h] at hg; simp at hg
        simp only [Array.length_toList]
        omega
      have := flat_get n f (fun i => if i = j then vs.toList else us i) hf' i hi k' v (by simp only [if_neg hij]; exact hv')
      rw [e]; exact this.symm

/-- Each part's data laid into the whole's. -/
def layV (T : Tab) (ty : Nat → TypeId) : List D → List (Nat × VV) → Option (List D)
  | l, [] => some l
  | l, (j, x) :: rest => if j < l.length then
      match toD T (ty j) x with
      | some d => layV T ty (l.set j d) rest
      | none => none
    else none

end
end Go.VI

namespace Go.VI

section
variable {P : Program} {T : Tab} (hT : TabOK P T) {g : Tags} {w : World} {rv : Nat → Value} {ρ : Roots}

/-- The parts as values and as data, pair by pair. -/
inductive Parts (T : Tab) (g : Tags) (w : World) (rv : Nat → Value) (ρ : Roots) : List (Nat × Value) → List (Nat × VV) → Prop
  | nil : Parts T g w rv ρ [] []
  | cons {j : Nat} {v : Value} {x : VV} {ps : List (Nat × Value)} {xs : List (Nat × VV)} : SR T g w rv ρ x v → Parts T g w rv ρ ps xs → Parts T g w rv ρ ((j, v) :: ps) ((j, x) :: xs)

include hT in
theorem fill_sound (n : Nat) (ty : Nat → TypeId) (place : Nat → Option (Nat × Nat)) (hp : ∀ j, j < n → place j = some (((List.range j).map (fun i => T.sz (ty i))).sum, T.sz (ty j))) :
    ∀ (ps : List (Nat × Value)) (xs : List (Nat × VV)), Parts T g w rv ρ ps xs → ∀ (l l' : List D) (cells : Array Value) (us : Nat → List Value), l.length = n → layV T ty l xs = some l' →
      cells.toList = (List.range n).flatMap us → (∀ j, j < n → DR T g w rv imms .imm (.val (ty j)) (l.getD j .nil) (us j)) →
      l'.length = n ∧ ∃ cells' us', Instr.fill place cells ps = some cells' ∧ cells'.toList = (List.range n).flatMap us' ∧
        ∀ j, j < n → DR T g w rv imms .imm (.val (ty j)) (l'.getD j .nil) (us' j) := by
  intro ps xs hpx
  induction hpx with
  | nil =>
    intro l l' cells us hl h hc hd
    simp only [layV, Option.some.injEq] at h
    subst h
    exact ⟨hl, cells, us, rfl, hc, hd⟩
  | @cons j v x ps xs hx _ ih =>
    intro l l' cells us hl h hc hd
    simp only [layV] at h
    split at h
    · rename_i hj
      split at h
      · rename_i d hdd
        obtain ⟨h1, h2⟩ := toD_dr hT hx hdd
        rw [hl] at hj
        have hlen : ∀ i, i < n → (us i).length = T.sz (ty i) := fun i hi => (hd i hi).length hT.fit
        have hvs : v.cells.size = T.sz (ty j) := by simpa using h2
        have hu := upd_flat n (fun i => T.sz (ty i)) us hlen cells hc j hj v.cells hvs _ rfl
        have hcs : cells.size = ((List.range n).map (fun i => T.sz (ty i))).sum := by rw [← flat_length n _ us hlen, ← hc]; simp
        have hle := sum_le (fun i => T.sz (ty i)) n j hj
        obtain ⟨k1, cells', us', k2, k3, k4⟩ := ih (l.set j d) l' _ _ (by simp [hl]) h hu (fun i hi => by
          rw [getD_set]
          by_cases hij : i = j
          · subst hij; rw [if_pos ⟨rfl, by omega⟩, if_pos rfl]; exact h1
          · rw [if_neg (fun e => hij e.1.symm), if_neg hij]; exact hd i hi)
        refine ⟨k1, cells', us', ?_, k3, k4⟩
        simp only [Instr.fill, hp j hj]
        rw [if_neg (by simp [hvs]; omega)]
        exact k2
      · simp at h
    · simp at h

theorem run_mapM_list {α β : Type} (f : α → Sem β) (h : α → β) : ∀ (l : List α), (∀ x ∈ l, (f x).run P w = .ok (h x) w) → (l.mapM f).run P w = .ok (l.map h) w
  | [], _ => by simp
  | a :: l, hh => by
    rw [List.mapM_cons]
    simp only [Sem.run_bind, hh a (by simp), Result.andThen_ok, run_mapM_list f h l (fun x hx => hh x (by simp [hx])), Sem.run_pure, List.map_cons]

theorem run_mapM_array {α β : Type} (f : α → Sem β) (h : α → β) (l : Array α) (hh : ∀ x ∈ l, (f x).run P w = .ok (h x) w) : (l.mapM f).run P w = .ok (l.map h) w := by
  rw [Array.mapM_eq_mapM_toList]
  rw [Sem.run_map, run_mapM_list f h l.toList (fun x hx => hh x (by simpa using hx))]
  simp [← Array.toList_map]

def buildV (T : Tab) (t : TypeId) (parts : List (Nat × VV)) : Option VV :=
  match T.ty t, T.zero t with
  | some (.struct fs), .agg l => if l.length = fs.length then (layV T (fun j => fs.getD j 0) l parts).map fun l' => .agg t (.agg l') else none
  | _, _ => none

include hT in
theorem buildV_sound {t : TypeId} {ps : Array (Nat × Value)} {xs : List (Nat × VV)} {z : VV} (hp : Parts T g w rv ρ ps.toList xs) (h : buildV T t xs = some z) :
    ∃ v, (Instr.build t ps).run P w = .ok v w ∧ SR T g w rv ρ z v ∧ Live ρ z := by
  unfold buildV at h
  split at h
  · rename_i fs l ht hz
    split at h
    · rename_i hl
      cases hlay : layV T (fun j => fs.getD j 0) l xs with
      | none => rw [hlay] at h; simp at h
      | some l' =>
        rw [hlay] at h
        simp only [Option.map_some, Option.some.injEq] at h; subst h
        obtain ⟨fields, k1, k2, k3⟩ := hT.struct _ _ ht
        obtain ⟨inf, zv, i1, i2, i3, i4, i5⟩ := hT.info t (by rw [ht]; rfl)
        have hdz := i5 .imm g w rv imms
        rw [hz] at hdz
        obtain ⟨us, hus, hrec⟩ := hdz.struct_inv ht
        have hplace : ∀ j, j < fs.length → (fields.map fun f => (f.offset, T.sz f.type))[j]? = some (((List.range j).map (fun i => T.sz (fs.getD i 0))).sum, T.sz (fs.getD j 0)) := by
          intro j hj
          have hj' : j < fields.size := by omega
          obtain ⟨a1, a2, a3⟩ := k3 j fields[j] (by simp [hj'])
          simp only [Array.getElem?_map, show fields[j]? = some fields[j] by simp [hj'], Option.map_some]
          rw [a1, a2, offs_range T fs j (by omega)]
        obtain ⟨e1, cells', us', e2, e3, e4⟩ := fill_sound hT fs.length (fun j => fs.getD j 0) (fun j => (fields.map fun f => (f.offset, T.sz f.type))[j]?) hplace ps.toList xs hp l l' zv.cells us hl hlay hus
          (fun j hj => by have := hrec j hj; simpa [D.kid, Mode.kid] using this)
        refine ⟨.agg cells', ?_, .agg ⟨fs, ht⟩ ?_, fun r av hn => by cases hn⟩
        · have hm : (fields.mapM fun f => (do pure (f.offset, ← Go.sizeOf f.type) : Sem (Nat × Nat))).run P w = .ok (fields.map fun f => (f.offset, T.sz f.type)) w := by
            refine run_mapM_array _ _ fields (fun f hf => ?_)
            obtain ⟨j, hj, rfl⟩ := Array.mem_iff_getElem.1 hf
            obtain ⟨a1, a2, a3⟩ := k3 j fields[j] (by simp [hj])
            have a4 : (T.ty fields[j].type).isSome := by rw [a1]; exact a3
            simp [run_size hT a4 w]
          simp only [Instr.build, zeroValue, typeInfo, Sem.run_bind, run_program, Result.andThen_ok, i1, Sem.run_pure, i4, run_underlying k1, hm, e2]
        · rw [e3]
          exact .struct us' ht fun j hj => by simpa [D.kid, Mode.kid] using e4 j hj
    · simp at h
  · simp at h

end
end Go.VI

namespace Go.VI

def Roots.set (ρ : Roots) (K : Nat) (root : Root) : Roots := fun k => if k = K then some root else ρ k

theorem set_self (ρ : Roots) (K : Nat) (root : Root) : ρ.set K root K = some root := by simp [Roots.set]

def pushRow (w : World) (cs : Array Value) (e : TypeId) : World := { w with heap := w.heap.push (.cells cs e) }

theorem sum_const (n c : Nat) : ((List.range n).map (fun _ => c)).sum = n * c := by
  induction n with
  | zero => simp
  | succ n ih => rw [List.range_succ, List.map_append, List.sum_append, ih, Nat.add_mul]; simp

theorem push_cell_lt {w : World} {cs : Array Value} {e : TypeId} {b o : Nat} (h : b < w.heap.size) : cellOf (pushRow w cs e) b o = cellOf w b o := by
  unfold cellOf World.cell? pushRow
  simp only [Array.getElem?_push]
  rw [if_neg (by omega)]

theorem push_cell_new {w : World} {cs : Array Value} {e : TypeId} {o : Nat} : cellOf (pushRow w cs e) w.heap.size o = cs[o]? := by
  unfold cellOf World.cell? pushRow
  simp

theorem push_frozen_lt {w : World} {cs : Array Value} {e : TypeId} {b o : Nat} (h : b < w.heap.size) : frozenOf (pushRow w cs e) b o = frozenOf w b o := by
  unfold frozenOf World.frozen? pushRow
  simp only [Array.getElem?_push]
  rw [if_neg (by omega)]

theorem push_frozen_new {w : World} {cs : Array Value} {e : TypeId} {o : Nat} : frozenOf (pushRow w cs e) w.heap.size o = false := by
  unfold frozenOf World.frozen? pushRow
  simp

theorem DR.zero_of_imm {T : Tab} {g : Tags} {w : World} {rv : Nat → Value} {ks : Nat → Prop} {m : Mode} {s : Sh} {d : D} {vs : List Value} (h : DR T g w rv ks m s d vs) :
    ∀ (_ : m = .imm) (r : Nat) (p : List Nat) (rv' : Nat → Value) (ks' : Nat → Prop), DR T g w rv' ks' (.own r p 0) s d vs := by
  induction h with
  | int h => intro _ _ _ _ _; exact .int h
  | bool h => intro _ _ _ _ _; exact .bool h
  | str h => intro _ _ _ _ _; exact .str h
  | plain h h2 => intro _ _ _ _ _; exact .plain h h2
  | key h h' => intro hm; simp at hm
  | sl h h' _ ih => intro hm r p rv' ks'; exact .sl h h' (ih hm r p rv' ks')
  | node A c b o vs hA hcap hl hcell hh ih =>
    intro hm r p rv' ks'
    subst hm
    refine .node A c b o vs hA hcap hl ?_ fun i hi => ?_
    · intro i k v hi hv
      obtain ⟨h1, h2, _⟩ := hcell i k v hi hv
      exact ⟨h1, by rw [h2]; rfl, fun hh => absurd rfl hh⟩
    · have := hh i hi
      exact this.imm_of_zero (.inl rfl) rv' ks'
  | struct vs h _ ih =>
    intro hm r p rv' ks'
    subst hm
    exact .struct vs h fun j hj => ih j hj rfl r (p ++ [j]) rv' ks'

section
variable {P : Program} {T : Tab} (hT : TabOK P T) {C : Ctx} {g : Tags} {w : World} {rv : Nat → Value} {ρ : Roots} {sl : List VV} {a : Act}

def newTags (g : Tags) (B : Nat) (tag : Nat → Tag) : Tags := fun b o => if b = B then tag o else g b o
def newRv (rv : Nat → Value) (K : Nat) (v : Value) : Nat → Value := fun k => if k = K then v else rv k

theorem new_ev (h : R T C g w rv ρ sl a) (cs : Array Value) (e : TypeId) (tag : Nat → Tag) : Ev C.w0 C.g0 (pushRow w cs e) (newTags g w.heap.size tag) := by
  have hs := h.ev.size
  refine ⟨h.ev.os, h.ev.tape, h.ev.output, ?_, ?_, ?_, ?_, ?_, ?_⟩
  · simp [pushRow]; omega
  · intro b hb hg
    have := h.ev.blk b hb hg
    simp only [pushRow, Array.getElem?_push]
    rw [if_neg (by omega)]; exact this
  · intro b o hb hg; rw [push_cell_lt (by omega)]; exact h.ev.cell b o hb hg
  · intro b o hb; rw [push_frozen_lt (by omega)]; exact h.ev.froz b o hb
  · intro b o v hb hv; rw [push_cell_lt (by omega)]; exact h.ev.has b o v hb hv
  · intro b o hb; simp only [newTags]; rw [if_neg (by omega)]; exact h.ev.tags b o hb

/-- What stood before a new block still reads. -/
theorem new_agree {m : Mode} {s : Sh} {d : D} {vs : List Value} {ks ks' : Nat → Prop} {rv' : Nat → Value} (h : DR T g w rv ks m s d vs) (cs : Array Value) (e : TypeId) (tag : Nat → Tag)
    (hk : ∀ K, ks K → ks' K ∧ rv' K = rv K) : DR T (newTags g w.heap.size tag) (pushRow w cs e) rv' ks' m s d vs :=
  h.agree (fun b o v _ hv => by
    have hb := cellOf_lt hv
    exact ⟨by simp only [newTags]; rw [if_neg (by omega)], by rw [push_cell_lt hb]; exact hv, push_frozen_lt hb⟩) hk

theorem new_sr {x : VV} {v : Value} {ρ' : Roots} {rv' : Nat → Value} (h : SR T g w rv ρ x v) (cs : Array Value) (e : TypeId) (tag : Nat → Tag) (hl : Live ρ x) (hr : ∀ r av, Names r av x → SameRoots ρ ρ' rv rv' r) :
    SR T (newTags g w.heap.size tag) (pushRow w cs e) rv' ρ' x v :=
  h.keep (fun b o u hi hu => by
    have hb := cellOf_lt hu
    exact ⟨by simp only [newTags]; rw [if_neg (by omega)]; exact hi, by rw [push_cell_lt hb]; exact hu, push_frozen_lt hb⟩) hl hr

/-- A new block that nobody writes. -/
theorem R.newImm (h : R T C g w rv ρ sl a) (cs : Array Value) (e : TypeId) : R T C (newTags g w.heap.size fun _ => .imm) (pushRow w cs e) rv ρ sl a := by
  refine ⟨new_ev h cs e _, h.defers, h.len, fun i x v hx hv => new_sr (h.slots i x v hx hv) cs e _ (h.names i x hx) (fun r _ _ => .refl _ _ _), h.names, ?_, ?_, h.held, h.hdr⟩
  · intro r root hr
    have := h.roots r root hr
    refine ⟨this.dep, new_agree this.dr cs e _ (fun _ h => ⟨h, rfl⟩), this.full, fun b o c h1 k h2 h3 => ?_, this.form⟩
    obtain ⟨k1, k2, k3⟩ := this.spare b o c h1 k h2 h3
    obtain ⟨v, hv⟩ := Option.isSome_iff_exists.1 k1
    have hb := cellOf_lt hv
    exact ⟨by rw [push_cell_lt hb]; exact k1, by simp only [newTags]; rw [if_neg (by omega)]; exact k2, by rw [push_frozen_lt hb]; exact k3⟩
  · intro b o r q k hg
    simp only [newTags] at hg
    split at hg
    · simp at hg
    · exact h.live b o r q k hg

/-- A new block that is a root of its own: its elements, and places behind them. -/
theorem R.newRoot (h : R T C g w rv ρ sl a) (cs : Array Value) (e et : TypeId) {K : Nat} {one : Bool} (hK : ρ K = none) (els : List D) (dep : Nat) (hdep : 0 < dep) (us : Nat → List Value) (full : Bool) (c : Nat) (extra : List Value)
    (hfull : full = true → c = els.length) (hcl : els.length ≤ c)
    (hcs : cs.toList = (List.range els.length).flatMap us ++ extra) (hsz : cs.size = c * T.sz e) (hlen : ∀ i, i < els.length → (us i).length = T.sz e)
    (hels : ∀ i, i < els.length → DR T g w rv imms (.own K [i] (dep - 1)) (.val e) (els.getD i .nil) (us i)) :
    R T C (newTags g w.heap.size fun o => .own K [] o) (pushRow w cs et) (newRv rv K (.slice (some ⟨w.heap.size, 0, none⟩) els.length c))
      (ρ.set K { e := e, els := els, dep := dep, full := full, av := 0, held := false, keys := [], one := one }) sl a := by
  have hne : ∀ r, (ρ r).isSome → r ≠ K := by intro r hr e; rw [e, hK] at hr; simp at hr
  have hsame : ∀ r, (ρ r).isSome → SameRoots ρ (ρ.set K { e := e, els := els, dep := dep, full := full, av := 0, held := false, keys := [], one := one }) rv (newRv rv K (.slice (some ⟨w.heap.size, 0, none⟩) els.length c)) r := by
    intro r hr
    refine ⟨fun root root' h0 h' => .inl ?_⟩
    simp only [Roots.set] at h'
    rw [if_neg (hne r hr), h0] at h'
    simp only [Option.some.injEq] at h'
    subst h'
    exact ⟨rfl, rfl, rfl, by simp only [newRv]; rw [if_neg (hne r hr)]⟩
  have hnm : ∀ (i : Nat) x r av, sl[i]? = some x → Names r av x → (ρ r).isSome := fun i x r av hx hn => by
    obtain ⟨root, h1, _⟩ := h.names i x hx r av hn; rw [h1]; rfl
  refine ⟨new_ev h cs et _, h.defers, h.len, fun i x v hx hv => new_sr (h.slots i x v hx hv) cs et _ (h.names i x hx) (fun r av hn => hsame r (hnm i x r av hx hn)), ?_, ?_, ?_, ?_,
    hdr_keep h.hdr fun r root hr => ⟨root, by simp only [Roots.set]; rw [if_neg (hne r (by rw [hr]; rfl)), hr], Nat.le_refl _, fun _ => by simp only [newRv]; rw [if_neg (hne r (by rw [hr]; rfl))]⟩⟩
  · intro i x hx r av hn
    have h1 := hnm i x r av hx hn
    simp only [Roots.set]
    rw [if_neg (hne r h1)]; exact h.names i x hx r av hn
  · intro r root hr
    simp only [Roots.set] at hr
    split at hr
    · rename_i hrK
      subst hrK
      simp only [Option.some.injEq] at hr
      subst hr
      refine ⟨hdep, ?_, fun hf => ⟨some ⟨w.heap.size, 0, none⟩, by simp [newRv, hfull hf]⟩, fun b o c' h1 k h2 h3 => ?_, .inl ⟨w.heap.size, 0, c, by simp [newRv]⟩⟩
      · obtain ⟨n, rfl⟩ : ∃ n, dep = n + 1 := ⟨dep - 1, by omega⟩
        simp only [newRv, if_true]
        refine DR.node (d := .list els) _ _ w.heap.size 0 us (fun _ => rfl) hcl hlen ?_ ?_
        · intro i k v hi hv
          simp only [D.els] at hi
          have hk : k < (us i).length := by
            rcases Nat.lt_or_ge k (us i).length with h | h
            · exact h
            · rw [List.getElem?_eq_none h] at hv; simp at hv
          have hg := flat_get els.length (fun _ => T.sz e) us hlen i hi k v hv
          have hsum : ((List.range i).map (fun _ => T.sz e)).sum = i * T.sz e := sum_const _ _
          rw [hsum] at hg
          have hg2 : cs.toList[i * T.sz e + k]? = some v := by
            rw [hcs, List.getElem?_append_left]
            · exact hg
            · rcases Nat.lt_or_ge (i * T.sz e + k) ((List.range els.length).flatMap us).length with h | h
              · exact h
              · rw [List.getElem?_eq_none h] at hg; simp at hg
          refine ⟨?_, ?_, fun _ => push_frozen_new⟩
          · rw [push_cell_new]; simpa using hg2
          · simp [newTags, Mode.tag]
        · intro i hi
          have := hels i hi
          exact new_agree this cs et _ (fun _ h => h.elim)
      · simp only [newRv, if_true, Value.slice.injEq, Option.some.injEq, Addr.mk.injEq] at h1
        obtain ⟨⟨rfl, rfl, -⟩, -, rfl⟩ := h1
        have hk : k < cs.size := by rw [hsz]; exact h3
        refine ⟨?_, by simp [newTags], push_frozen_new⟩
        rw [push_cell_new]; simp [hk]
    · rename_i hrK
      have hh := h.roots r root hr
      refine ⟨hh.dep, ?_, ?_, fun b o c h1 k h2 h3 => ?_, by simp only [newRv]; rw [if_neg hrK]; exact hh.form⟩
      · simp only [newRv]
        rw [if_neg hrK]
        refine new_agree hh.dr cs et _ (fun k hk => ⟨hk, ?_⟩)
        obtain ⟨rk, hrk, _⟩ := h.held r root hr k hk
        simp only [newRv]
        rw [if_neg (hne k (by rw [hrk]; rfl))]
      · simp only [newRv]; rw [if_neg hrK]; exact hh.full
      · simp only [newRv] at h1
        rw [if_neg hrK] at h1
        obtain ⟨k1, k2, k3⟩ := hh.spare b o c h1 k h2 h3
        obtain ⟨v, hv⟩ := Option.isSome_iff_exists.1 k1
        have hb := cellOf_lt hv
        exact ⟨by rw [push_cell_lt hb]; exact k1, by simp only [newTags]; rw [if_neg (by omega)]; exact k2, by rw [push_frozen_lt hb]; exact k3⟩
  · intro b o r q k hg
    simp only [newTags] at hg
    simp only [Roots.set]
    split at hg
    · simp only [Tag.own.injEq] at hg
      rw [if_pos hg.1.symm]; rfl
    · have := h.live b o r q k hg
      split
      · rfl
      · exact this
  · intro r root hr k hk
    simp only [Roots.set] at hr ⊢
    split at hr
    · simp only [Option.some.injEq] at hr
      subst hr
      simp at hk
    · obtain ⟨rk, hrk, hh⟩ := h.held r root hr k hk
      rw [if_neg (hne k (by rw [hrk]; rfl))]
      exact ⟨rk, hrk, hh⟩

/-- A root without elements, where there is nothing to own. -/
theorem R.newEmpty (h : R T C g w rv ρ sl a) (e : TypeId) {K : Nat} (hK : ρ K = none) (dep : Nat) (hdep : 0 < dep) (A : Option Addr) (full : Bool) :
    R T C g w (newRv rv K (.slice A 0 0)) (ρ.set K { e := e, els := [], dep := dep, full := full, av := 0, held := false, keys := [] }) sl a := by
  have hne : ∀ r, (ρ r).isSome → r ≠ K := by intro r hr e; rw [e, hK] at hr; simp at hr
  have hnm : ∀ (i : Nat) x r av, sl[i]? = some x → Names r av x → (ρ r).isSome := fun i x r av hx hn => by
    obtain ⟨root, h1, _⟩ := h.names i x hx r av hn; rw [h1]; rfl
  refine ⟨h.ev, h.defers, h.len, fun i x v hx hv => (h.slots i x v hx hv).keep (fun _ _ _ h1 h2 => ⟨h1, h2, rfl⟩) (h.names i x hx) (fun r av hn => ⟨fun root root' h0 h' => .inl ?_⟩), ?_, ?_, ?_, ?_,
    hdr_keep h.hdr fun r root hr => ⟨root, by simp only [Roots.set]; rw [if_neg (hne r (by rw [hr]; rfl)), hr], Nat.le_refl _, fun _ => by simp only [newRv]; rw [if_neg (hne r (by rw [hr]; rfl))]⟩⟩
  · simp only [Roots.set] at h'
    rw [if_neg (hne r (by rw [h0]; rfl)), h0] at h'
    simp only [Option.some.injEq] at h'
    subst h'
    exact ⟨rfl, rfl, rfl, by simp only [newRv]; rw [if_neg (hne r (by rw [h0]; rfl))]⟩
  · intro i x hx r av hn
    have h1 := hnm i x r av hx hn
    simp only [Roots.set]
    rw [if_neg (hne r h1)]; exact h.names i x hx r av hn
  · intro r root hr
    simp only [Roots.set] at hr
    split at hr
    · rename_i hrK
      subst hrK
      simp only [Option.some.injEq] at hr
      subst hr
      refine ⟨hdep, ?_, fun _ => ⟨A, by simp [newRv]⟩, fun b o c h1 k h2 h3 => ?_, .inr ⟨A, by simp [newRv]⟩⟩
      · simp only [newRv, if_true]
        exact DR.node (d := .list []) A 0 0 0 (fun _ => []) (fun h => absurd rfl h) (Mode.Cap.refl _ _) (fun i hi => absurd hi (by simp [D.els])) (fun i k v hi => absurd hi (by simp [D.els])) (fun i hi => absurd hi (by simp [D.els]))
      · simp only [newRv, if_true, Value.slice.injEq] at h1
        rw [← h1.2.2] at h3; simp at h3
    · rename_i hrK
      have hh := h.roots r root hr
      refine ⟨hh.dep, ?_, ?_, ?_, by simp only [newRv]; rw [if_neg hrK]; exact hh.form⟩
      · simp only [newRv]
        rw [if_neg hrK]
        refine hh.dr.agree (fun _ _ _ _ hv => ⟨rfl, hv, rfl⟩) (fun k hk => ⟨hk, ?_⟩)
        obtain ⟨rk, hrk, _⟩ := h.held r root hr k hk
        simp only [newRv]
        rw [if_neg (hne k (by rw [hrk]; rfl))]
      · simp only [newRv]; rw [if_neg hrK]; exact hh.full
      · simp only [newRv]; rw [if_neg hrK]; exact hh.spare
  · intro b o r q k hg
    have := h.live b o r q k hg
    simp only [Roots.set]
    split
    · rfl
    · exact this
  · intro r root hr k hk
    simp only [Roots.set] at hr ⊢
    split at hr
    · simp only [Option.some.injEq] at hr
      subst hr
      simp at hk
    · obtain ⟨rk, hrk, hh⟩ := h.held r root hr k hk
      rw [if_neg (hne k (by rw [hrk]; rfl))]
      exact ⟨rk, hrk, hh⟩

/-! ### A variable; a box -/

def allocV (T : Tab) (t : TypeId) (K dep : Nat) (ρ : Roots) : Option Res :=
  match ρ K, T.ty t, dep with
  | none, some _, dep + 1 => some { x := .addr K 0 0 [] t, ups := [(K, { e := t, els := [T.zero t], dep := dep + 1, full := true, av := 0, held := false, keys := [], one := true })] }
  | _, _, _ => none

def boxV (T : Tab) (t : TypeId) (x : VV) (K : Nat) (ρ : Roots) : Option Res :=
  match ρ K, toD T t x with
  | none, some d => some { x := .addr K 0 0 [] t, ups := [(K, { e := t, els := [d], dep := 1, full := true, av := 0, held := false, keys := [], one := true })] }
  | _, _ => none

def ups (ρ : Roots) : List (Nat × Root) → Roots
  | [] => ρ
  | (k, r) :: l => ups (ρ.set k r) l

include hT in
theorem allocV_sound (h : R T C g w rv ρ sl a) {t : TypeId} {K dep : Nat} {res : Res} (hv : allocV T t K dep ρ = some res) :
    ∃ v w' g' rv', (Instr.alloc t true (.tuple #[])).run P w = .ok v w' ∧ R T C g' w' rv' (ups ρ res.ups) sl a ∧ SR T g' w' rv' (ups ρ res.ups) res.x v ∧ Live (ups ρ res.ups) res.x := by
  unfold allocV at hv
  split at hv
  · rename_i d n hK ht
    simp only [Option.some.injEq] at hv; subst hv
    obtain ⟨i, z, h1, h2, h3, h4, h5⟩ := hT.info t (by rw [ht]; rfl)
    have hz := h5 (.own K [0] n) g w rv imms
    have hR := h.newRoot (one := true) z.cells t t hK [T.zero t] (n + 1) (by omega) (fun _ => z.cells.toList) true 1 [] (fun _ => rfl) (Nat.le_refl _) (by simp) (by have := hz.length hT.fit; simpa using this) (fun i _ => hz.length hT.fit) (fun i hi => by
      have : i = 0 := by simp at hi; omega
      subst this; simpa using hz)
    refine ⟨.pointer (some ⟨w.heap.size, 0, none⟩), _, _, _, ?_, hR, ?_, ?_⟩
    · simp only [Instr.alloc, zeroValue, typeInfo, Sem.run_bind, run_program, Result.andThen_ok, h1, Sem.run_pure, h4, newVar, newRow, run_newObj]
      rfl
    · refine .addr fun root hr _ => ?_
      simp only [ups, Roots.set, if_true, Option.some.injEq] at hr
      subst hr
      exact ⟨by simp, 0, w.heap.size, 0, rfl, ⟨1, by simp [newRv]⟩, by simp⟩
    · intro r av hn
      cases hn
      exact ⟨_, set_self _ _ _, Nat.le_refl _⟩
  · simp at hv

include hT in
theorem boxV_sound (h : R T C g w rv ρ sl a) {t : TypeId} {K : Nat} {x : VV} {u : Value} {res : Res} (hx : SR T g w rv ρ x u) (hv : boxV T t x K ρ = some res) :
    ∃ v w' g' rv', (Instr.box t u).run P w = .ok v w' ∧ R T C g' w' rv' (ups ρ res.ups) sl a ∧ SR T g' w' rv' (ups ρ res.ups) res.x v ∧ Live (ups ρ res.ups) res.x := by
  unfold boxV at hv
  split at hv
  · rename_i d hK hd
    simp only [Option.some.injEq] at hv; subst hv
    obtain ⟨h1, h2⟩ := toD_dr hT hx hd
    have hR := h.newRoot (one := true) u.cells t t hK [d] 1 (by omega) (fun _ => u.cells.toList) true 1 [] (fun _ => rfl) (Nat.le_refl _) (by simp) (by simpa using h2) (fun i _ => h2) (fun i hi => by
      have : i = 0 := by simp at hi; omega
      subst this; simpa using h1.zero_of_imm rfl K [0] rv imms)
    refine ⟨.pointer (some ⟨w.heap.size, 0, none⟩), _, _, _, ?_, hR, ?_, ?_⟩
    · simp only [Instr.box, newVar, newRow, Sem.run_bind, run_newObj, Result.andThen_ok, Sem.run_pure]
      rfl
    · refine .addr fun root hr _ => ?_
      simp only [ups, Roots.set, if_true, Option.some.injEq] at hr
      subst hr
      exact ⟨by simp, 0, w.heap.size, 0, rfl, ⟨1, by simp [newRv]⟩, by simp⟩
    · intro r av hn
      cases hn
      exact ⟨_, set_self _ _ _, Nat.le_refl _⟩
  · simp at hv

/-! ### make -/

theorem made_flat (z : Array Value) (n : Nat) : ((Array.range (n * z.size)).map (z[· % z.size]!)).toList = (List.range n).flatMap (fun _ => z.toList) := by
  rcases Nat.eq_zero_or_pos z.size with h0 | hpos
  · have : z = #[] := by simpa using h0
    subst this
    simp
  · apply List.ext_getElem?
    intro k
    have hlen : ((List.range n).flatMap (fun _ => z.toList)).length = n * z.size := by
      rw [flat_length n (fun _ => z.size) _ (fun _ _ => by simp), sum_const]
    rcases Nat.lt_or_ge k (n * z.size) with h | h
    · have hi : k / z.size < n := Nat.div_lt_of_lt_mul (by rw [Nat.mul_comm]; exact h)
      have hm : k % z.size < z.size := Nat.mod_lt _ hpos
      have := flat_get n (fun _ => z.size) (fun _ => z.toList) (fun _ _ => by simp) (k / z.size) hi (k % z.size) z[k % z.size] (by simp [hm])
      have e : ((List.range (k / z.size)).map (fun _ => z.size)).sum + k % z.size = k := by
        rw [sum_const, Nat.mul_comm]
        exact Nat.div_add_mod k z.size
      rw [e] at this
      rw [this]
      simp [h, hm]
    · rw [List.getElem?_eq_none (by simp; exact h), List.getElem?_eq_none (by rw [hlen]; exact h)]

def makeV (T : Tab) (t : TypeId) (l c : VV) (K dep : Nat) (ρ : Roots) : Option Res :=
  match T.ty t, l, c, ρ K, dep with
  | some (.slice e), .int _ n, .int _ m, none, dep + 1 =>
    some { x := .top K 0, ups := [(K, { e := e, els := List.replicate n.toNat (T.zero e), dep := dep + 1, full := true, av := 0, held := false, keys := [] })],
           obs := [m = n, 0 ≤ n, n * T.bytes e ≤ 140737488355328, n ≤ 140737488355328] }
  | _, _, _, _, _ => none

theorem wrap_small (n : Int) (h0 : 0 ≤ n) (h1 : n ≤ 140737488355328) : IntKind.i64.wrap n = n := IntWalk.i64_in n ⟨by omega, by omega⟩

include hT in
theorem makeV_sound (h : R T C g w rv ρ sl a) {t : TypeId} {K dep : Nat} {l c : VV} {u v : Value} {res : Res} (hl : SR T g w rv ρ l u) (hc : SR T g w rv ρ c v) (hv : makeV T t l c K dep ρ = some res) (ho : ∀ p ∈ res.obs, p) :
    ∃ r w' g' rv', (Instr.makeSlice t u v).run P w = .ok r w' ∧ R T C g' w' rv' (ups ρ res.ups) sl a ∧ SR T g' w' rv' (ups ρ res.ups) res.x r ∧ Live (ups ρ res.ups) res.x := by
  unfold makeV at hv
  split at hv
  · rename_i e k1 n k2 m d ht hK
    simp only [Option.some.injEq] at hv; subst hv
    obtain ⟨a1, ho⟩ := all_cons ho
    obtain ⟨a2, ho⟩ := all_cons ho
    obtain ⟨a3, ho⟩ := all_cons ho
    obtain ⟨a4, _⟩ := all_cons ho
    subst a1
    obtain ⟨hu, he⟩ := hT.slice _ _ ht
    obtain ⟨i, z, h1, h2, h3, h4, h5⟩ := hT.info e he
    have hz := h5 (.own K [0] d) g w rv imms
    have hzs : z.cells.size = T.sz e := by simpa using hz.length hT.fit
    let N := m.toNat
    let cs : Array Value := if N * T.sz e = 0 then #[] else (Array.range (N * T.sz e)).map (z.cells[· % z.cells.size]!)
    have hcs : cs.toList = (List.range N).flatMap (fun _ => z.cells.toList) := by
      simp only [cs]
      split
      · rename_i h0
        rcases Nat.mul_eq_zero.1 h0 with h0 | h0
        · simp [h0]
        · have : z.cells = #[] := by rw [h0] at hzs; simpa using hzs
          simp [this]
      · rw [← hzs]; exact made_flat z.cells N
    have hlenr : (List.replicate N (T.zero e)).length = N := by simp
    have hcsz : cs.size = N * T.sz e := by rw [← Array.length_toList, hcs, flat_length N (fun _ => T.sz e) _ (fun _ _ => by simpa using hzs), sum_const]
    have hR := h.newRoot (one := false) cs e e hK (List.replicate N (T.zero e)) (d + 1) (by omega) (fun _ => z.cells.toList) true N [] (fun _ => hlenr.symm) (by rw [hlenr]; exact Nat.le_refl _) (by rw [hlenr, hcs]; simp) hcsz (fun i _ => hz.length hT.fit) (fun i hi => by
      have e1 : (List.replicate N (T.zero e)).getD i .nil = T.zero e := by
        rw [hlenr] at hi
        simp [List.getD_eq_getElem?_getD, List.getElem?_replicate, hi]
      rw [e1]
      exact h5 (.own K [i] d) g w rv imms)
    refine ⟨.slice (some ⟨w.heap.size, 0, none⟩) N N, _, _, _, ?_, hR, ?_, ?_⟩
    · cases hl; cases hc
      have w1 := wrap_small m a2 a4
      have hb : (i.bytes : Int) * m ≤ 140737488355328 := by rw [h3, Int.mul_comm]; exact a3
      simp only [Instr.makeSlice, Sem.run_bind, run_underlying hu, Result.andThen_ok, asInt, asIntOf, Sem.run_pure, typeInfo, run_program, h1, w1]
      have hb2 : ¬ ((i.bytes : Int) * m > 2 ^ 48) := by
        have : (2 : Int) ^ 48 = 281474976710656 := by decide
        omega
      have c1 : (decide (m < 0) || decide ((i.bytes : Int) * m > 2 ^ 48)) = false := by
        simp only [Bool.or_eq_false_iff, decide_eq_false_iff_not]
        exact ⟨by omega, hb2⟩
      have c2 : ¬ (((decide (m < 0) || decide ((i.bytes : Int) * m > 2 ^ 48)) = true ∨ m < 0) ∨ m > m) := by
        rw [c1]; simp; omega
      simp only [c1, Bool.false_eq_true, false_or, Bool.false_or, Bool.or_false]
      rw [if_neg (by simp; omega)]
      simp only [Sem.run_bind, run_askRoom, Result.andThen_ok, run_size hT he]
      by_cases h0 : N * T.sz e = 0
      · have h0' : m.toNat * T.sz e = 0 := h0
        simp only [h0', if_true, Sem.run_pure, Result.andThen_ok, newRow, Sem.run_bind, run_newObj]
        have hcs0 : cs = #[] := by simp only [cs]; rw [if_pos h0]
        have hr0 : (Array.range 0).map (fun x => (#[] : Array Value)[x % (#[] : Array Value).size]!) = #[] := by simp
        rw [hcs0, hr0]; rfl
      · have h0' : ¬ m.toNat * T.sz e = 0 := h0
        simp only [if_neg h0', zeroValue, typeInfo, Sem.run_bind, run_program, h1, Sem.run_pure, h4, Result.andThen_ok, newRow, run_newObj]
        simp only [cs, if_neg h0, pushRow]
        rfl
    · refine .top fun root hr _ => ?_
      simp [newRv, N]
    · intro r av hn
      cases hn
      exact ⟨_, set_self _ _ _, Nat.le_refl _⟩
  · simp at hv

end
end Go.VI
