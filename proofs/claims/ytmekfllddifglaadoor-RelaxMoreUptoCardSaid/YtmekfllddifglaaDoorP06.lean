/- The relax seat: Mv, Mw, Mx, My, Mz. Conditions: none. -/
import Derived.Test.YtmekfllddifglaaDoorP05
set_option linter.unusedVariables false
set_option linter.unusedSimpArgs false
/- The abstract machine, part v: places get other names; the head of a loop. Conditions: none. -/
set_option linter.unusedVariables false
set_option linter.unusedSimpArgs false
namespace Go.Proofs.YtmekfllddifglaaDoor.AM
open Go

abbrev Ren := Nat → List Nat → Nat → Option (Nat × List Nat × Nat)
mutual
def ren (φ : Ren) : AV → AV
  | .dead => .dead
  | .v x => .v x
  | .agg l => .agg (rens φ l)
  | .tup l => .tup (rens φ l)
  | .sl nl l => .sl nl l
  | .ref l => .ref l
  | .ifc t x => .ifc t (ren φ x)
  | .clo f a b => .clo f (rens φ a) (rens φ b)
  | .loc r p ver off => match φ r p ver with
    | some y => .loc y.1 y.2.1 y.2.2 off
    | none => .dead
  | .own r p ver lo hi => match φ r p ver with
    | some y => .own y.1 y.2.1 y.2.2 lo hi
    | none => .dead
  | .elt r p ver i off => match φ r p ver with
    | some y => .elt y.1 y.2.1 y.2.2 i off
    | none => .dead
  | .mp r p ver => match φ r p ver with
    | some y => .mp y.1 y.2.1 y.2.2
    | none => .dead
  | .yld r p ver => match φ r p ver with
    | some y => .yld y.1 y.2.1 y.2.2
    | none => .dead
def rens (φ : Ren) : List AV → List AV
  | [] => []
  | x :: l => ren φ x :: rens φ l
end
def RenOk (φ : Ren) (S : Subs) (γ : Gh) (S' : Subs) (γ' : Gh) : Prop :=
  ∀ r p ver y, φ r p ver = some y → y.2.2 ≤ ctr S' y.1 y.2.1 ∧ ∀ o', live S' y.1 y.2.1 y.2.2 = some o' → ∃ o, live S r p ver = some o ∧ shp o = shp o' ∧ γ' y.1 y.2.1 y.2.2 = γ r p ver

section
variable {φ : Ren} {S S' : Subs} {γ γ' : Gh} {imm imm' : Nat → Prop} {w w' : World}
mutual
theorem VRel_ren (he : RenOk φ S γ S' γ') (hi : ∀ b, imm b → imm' b) (hk : Keeps imm w w') : ∀ (x : AV) (u : Value), VRel S γ imm w x u → VRel S' γ' imm' w' (ren φ x) u
  | .dead, u, h => trivial
  | .v x, u, h => h
  | .agg l, u, h => by obtain ⟨us, rfl, h⟩ := h; exact ⟨us, rfl, VRels_ren he hi hk l us h⟩
  | .tup l, u, h => by obtain ⟨us, rfl, h⟩ := h; exact ⟨us, rfl, VRels_ren he hi hk l us h⟩
  | .sl nl l, u, h => IRel_mono hi hk _ u h
  | .ref l, u, h => IRel_mono hi hk _ u h
  | .ifc t x, u, h => by obtain ⟨y, rfl, h⟩ := h; exact ⟨y, rfl, VRel_ren he hi hk x y h⟩
  | .clo f fs cs, u, h => by obtain ⟨us, vs, rfl, h1, h2⟩ := h; exact ⟨us, vs, rfl, VRels_ren he hi hk fs us h1, VRels_ren he hi hk cs vs h2⟩
  | .loc r p ver off, u, h => by
    simp only [ren]
    split
    · rename_i y hy
      obtain ⟨h1, h2⟩ := h
      obtain ⟨k1, k2⟩ := he r p ver y hy
      refine ⟨k1, fun o' ho' => ?_⟩
      obtain ⟨o, ho, _, hg⟩ := k2 o' ho'
      rw [hg]; exact h2 o ho
    · trivial
  | .own r p ver lo hi', u, h => by
    simp only [ren]
    split
    · rename_i y hy
      obtain ⟨h1, h2⟩ := h
      obtain ⟨k1, k2⟩ := he r p ver y hy
      refine ⟨k1, fun o' ho' => ?_⟩
      obtain ⟨o, ho, hs, hg⟩ := k2 o' ho'
      rw [hg, ← hs]; exact h2 o ho
    · trivial
  | .elt r p ver i off, u, h => by
    simp only [ren]
    split
    · rename_i y hy
      obtain ⟨h1, h2⟩ := h
      obtain ⟨k1, k2⟩ := he r p ver y hy
      refine ⟨k1, fun o' ho' => ?_⟩
      obtain ⟨o, ho, hs, hg⟩ := k2 o' ho'
      rw [hg, ← hs]; exact h2 o ho
    · trivial
  | .mp r p ver, u, h => by
    simp only [ren]
    split
    · rename_i y hy
      obtain ⟨h1, h2⟩ := h
      obtain ⟨k1, k2⟩ := he r p ver y hy
      refine ⟨k1, fun o' ho' => ?_⟩
      obtain ⟨o, ho, hs, hg⟩ := k2 o' ho'
      rw [hg]; exact h2 o ho
    · trivial
  | .yld r p ver, u, h => by
    simp only [ren]
    split
    · rename_i y hy
      obtain ⟨h1, h2⟩ := h
      obtain ⟨k1, k2⟩ := he r p ver y hy
      refine ⟨k1, fun o' ho' => ?_⟩
      obtain ⟨o, ho, hs, hg⟩ := k2 o' ho'
      rw [hg]; exact h2 o ho
    · trivial
theorem VRels_ren (he : RenOk φ S γ S' γ') (hi : ∀ b, imm b → imm' b) (hk : Keeps imm w w') : ∀ (l : List AV) (us : List Value), VRels S γ imm w l us → VRels S' γ' imm' w' (rens φ l) us
  | [], us, h => h
  | x :: l, us, h => by obtain ⟨u, us', rfl, h1, h2⟩ := h; exact ⟨u, us', rfl, VRel_ren he hi hk x u h1, VRels_ren he hi hk l us' h2⟩
end
end

def renOb (φ : Ren) : Ob → Ob
  | .box fz cells => .box fz (rens φ cells)
  | .loop s j sl c => .loop s j (rens φ sl) c
  | o => o
theorem rens_map (φ : Ren) : ∀ l : List AV, rens φ l = l.map (ren φ)
  | [] => rfl
  | x :: l => by simp [rens, rens_map φ l]
theorem rens_getD (φ : Ren) (l : List AV) (i : Nat) : (rens φ l).getD i .dead = ren φ (l.getD i .dead) := by
  rw [rens_map]
  simp only [List.getD_eq_getElem?_getD, List.getElem?_map]
  cases l[i]? <;> simp [ren]
theorem shp_renOb (φ : Ren) (o : Ob) : shp (renOb φ o) = shp o := by cases o <;> rfl
theorem fzOf_renOb (φ : Ren) (o : Ob) : fzOf (renOb φ o) = fzOf o := by cases o <;> rfl
theorem ORel_ren {φ : Ren} {S S' : Subs} {γ γ' : Gh} {imm imm' : Nat → Prop} {w w' : World} (he : RenOk φ S γ S' γ') (hi : ∀ b, imm b → imm' b) (hk : Keeps imm w w') {o : Ob} {g : Value}
    (hs : ∀ b, bl g = some b → w'.heap[b]? = w.heap[b]?) (h : ORel S γ imm w o g) : ORel S' γ' imm' w' (renOb φ o) g := by
  cases o with
  | box fz cells =>
    obtain ⟨b, cs, e, rfl, hh, hv, h1, hf⟩ := h
    exact ⟨b, cs, e, rfl, by rw [hs b rfl]; exact hh, VRels_ren he hi hk _ _ hv, h1, fun x => hi _ (hf x)⟩
  | arr nl fz sz e el =>
    obtain ⟨xs, ho, hx, hl, h1, hn, hf⟩ := h
    exact ⟨xs, ownsRow_block ho hs, IRels_mono hi hk _ _ hx, hl, h1, hn, fun x b hb => hi _ (hf x b hb)⟩
  | map t en =>
    obtain ⟨b, es, clock, rfl, hh, h1, h2⟩ := h
    exact ⟨b, es, clock, rfl, by rw [hs b rfl]; exact hh, h1, IRels_mono hi hk _ _ h2⟩
  | loop s j sl c =>
    obtain ⟨l, b, rfl, hh, h1, h2, h3, h4, h5, h6, h7⟩ := h
    exact ⟨l, b, rfl, by rw [hs l rfl]; exact hh, h1, h2, h3, h4, h5, by simpa [rens_map] using h6, fun i => by rw [rens_getD]; exact VRel_ren he hi hk _ _ (h7 i)⟩

/-! ### The shape at a loop's head -/
def nsub (φ : Ren) (s : Sub) : Sub := s.map fun e => (e.1, (min e.2.1 1, e.2.2.map (renOb φ)))
def normL (K : List Nat) (φ : Ren) : Nat → Subs → Subs
  | _, [] => []
  | i, s :: l => (if K.contains i then nsub φ s else []) :: normL K φ (i + 1) l
def normV (L : List Nat) (φ : Ren) : Nat → List AV → List AV
  | _, [] => []
  | i, x :: l => (if L.contains i then ren φ x else .dead) :: normV L φ (i + 1) l
def normφ (K : List Nat) (S : Subs) : Ren := fun r p ver => if K.contains r && (live S r p ver).isSome then some (r, p, min ver 1) else none
/-- What is kept of the slots, and of the places; a version is the first one, or another. -/
def norm (L K : List Nat) (st : St) : St := ⟨normV L (normφ K st.subs) 0 st.slots, normL K (normφ K st.subs) 0 st.subs⟩

theorem ent_nsub (φ : Ren) (s : Sub) (p : List Nat) : (nsub φ s).ent p = (min (s.ent p).1 1, (s.ent p).2.map (renOb φ)) := by
  induction s with
  | nil => simp [nsub, Sub.ent]
  | cons x s ih =>
    obtain ⟨q, v, o⟩ := x
    simp only [nsub, List.map_cons, Sub.ent] at ih ⊢
    split
    · rfl
    · exact ih
theorem sub_normL (K : List Nat) (φ : Ren) (r : Nat) : ∀ (i : Nat) (S : Subs), sub (normL K φ i S) r = if K.contains (i + r) then nsub φ (sub S r) else [] := by
  induction r with
  | zero =>
    intro i S
    cases S with
    | nil => simp [normL, sub, nsub]
    | cons s S => simp [normL, sub]
  | succ r ih =>
    intro i S
    cases S with
    | nil => simp [normL, sub, nsub]
    | cons s S =>
      have := ih (i + 1) S
      simp only [sub, List.getD_cons_succ, normL] at this ⊢
      rw [this, show i + 1 + r = i + (r + 1) by omega]
theorem getD_normV (L : List Nat) (φ : Ren) (r : Nat) : ∀ (i : Nat) (l : List AV), (normV L φ i l).getD r .dead = if L.contains (i + r) then ren φ (l.getD r .dead) else .dead := by
  induction r with
  | zero =>
    intro i l
    cases l with
    | nil => simp [normV, ren]
    | cons s S => simp [normV]
  | succ r ih =>
    intro i l
    cases l with
    | nil => simp [normV, ren]
    | cons s S =>
      have := ih (i + 1) S
      simp only [List.getD_cons_succ, normV] at this ⊢
      rw [this, show i + 1 + r = i + (r + 1) by omega]
theorem length_normV (L : List Nat) (φ : Ren) : ∀ (i : Nat) (l : List AV), (normV L φ i l).length = l.length
  | _, [] => rfl
  | i, x :: l => by simp [normV, length_normV L φ (i + 1) l]

theorem norm_live {K : List Nat} {φ : Ren} {S : Subs} {r : Nat} {p : List Nat} {v : Nat} {o' : Ob} (h : live (normL K φ 0 S) r p v = some o') :
    K.contains r = true ∧ v = min (ctr S r p) 1 ∧ ∃ o, live S r p (ctr S r p) = some o ∧ o' = renOb φ o := by
  rw [live_eq, sub_normL, Nat.zero_add] at h
  split at h
  · rename_i hk
    rw [ent_nsub] at h
    split at h
    · rename_i hv
      obtain ⟨o, ho, rfl⟩ := Option.map_eq_some_iff.1 h
      exact ⟨hk, hv.symm, o, by rw [live_eq]; simpa [ctr] using ho, rfl⟩
    · cases h
  · by_cases e : 0 = v <;> simp [Sub.ent, e] at h
theorem norm_ctr {K : List Nat} {φ : Ren} {S : Subs} {r : Nat} {p : List Nat} (hk : K.contains r = true) : ctr (normL K φ 0 S) r p = min (ctr S r p) 1 := by
  rw [ctr, sub_normL, Nat.zero_add, if_pos hk, ent_nsub]; rfl

theorem norm_ok {C : Ctx} {S0 : Subs} {γ0 γ : Gh} {imm : Nat → Prop} {st : St} {a : Act} {w : World} (h0 : ∀ r p, ctr S0 r p = 0) (L K : List Nat) (h : Rel C γ imm st a w) (he : Ext S0 γ0 st.subs γ) :
    ∃ γ', Rel C γ' imm (norm L K st) a w ∧ Ext S0 γ0 (norm L K st).subs γ' ∧ ∀ q : (Nat × List Nat × Nat) × Value, K.contains q.1.1 = true → (live st.subs q.1.1 q.1.2.1 q.1.2.2).isSome = true → q.1.2.2 ≤ 1 → GK st.subs γ q → GK (norm L K st).subs γ' q := by
  obtain ⟨φ, hφ⟩ : ∃ φ, φ = normφ K st.subs := ⟨_, rfl⟩
  have hren : RenOk φ st.subs γ (normL K φ 0 st.subs) (fun r p _ => γ r p (ctr st.subs r p)) := by
    intro r p ver y hy
    rw [hφ] at hy
    unfold normφ at hy
    split at hy
    · rename_i hc
      simp only [Bool.and_eq_true] at hc
      obtain ⟨o, ho⟩ := Option.isSome_iff_exists.1 hc.2
      have hver := ctr_of_live ho
      simp only [Option.some.injEq] at hy
      subst hy
      refine ⟨by rw [norm_ctr hc.1, hver]; exact Nat.le_refl _, fun o' ho' => ?_⟩
      obtain ⟨_, _, o2, ho2, rfl⟩ := norm_live ho'
      simp only [hver] at ho2 ⊢
      exact ⟨o2, ho2, (shp_renOb _ _).symm, trivial⟩
    · cases hy
  refine ⟨fun r p _ => γ r p (ctr st.subs r p), ⟨?_, by rw [norm, length_normV]; exact h.len, fun i => ?_⟩, ?_, ?_⟩
  · have hi := h.inv
    refine ⟨hi.tape, hi.os, hi.output, hi.size, hi.keep, hi.keepI, hi.imm0, hi.immlt, hi.immE, ?_, ?_, ?_⟩
    · intro r p v o' ho'
      rw [norm, ← hφ] at ho'
      obtain ⟨_, _, o, ho, rfl⟩ := norm_live ho'
      simp only [norm, ← hφ]
      exact ORel_ren hren (fun _ x => x) (Keeps.refl _ _) (fun _ _ => rfl) (hi.obj r p _ o ho)
    · intro r p v o' b ho' hb
      rw [norm, ← hφ] at ho'
      obtain ⟨_, _, o, ho, rfl⟩ := norm_live ho'
      rw [fzOf_renOb]
      exact hi.own r p _ o b ho hb
    · intro r p v o1 r' p' v' o2 b h1 h2 b1 b2
      rw [norm, ← hφ] at h1 h2
      obtain ⟨_, hv1, o, ho, rfl⟩ := norm_live h1
      obtain ⟨_, hv2, o', ho', rfl⟩ := norm_live h2
      have := hi.inj _ _ _ _ _ _ _ _ b ho ho' b1 b2
      obtain ⟨rfl, rfl, _⟩ := this
      exact ⟨rfl, rfl, by omega⟩
  · simp only [norm, ← hφ]
    rw [getD_normV]
    split
    · exact VRel_ren hren (fun _ x => x) (Keeps.refl _ _) _ _ (h.val i)
    · trivial
  · intro r p ver hle
    rw [h0] at hle
    obtain rfl : ver = 0 := by omega
    refine ⟨Nat.zero_le _, fun o' ho' => ?_⟩
    rw [norm, ← hφ] at ho'
    obtain ⟨_, hv, o, ho, rfl⟩ := norm_live ho'
    have hc : ctr st.subs r p = 0 := by omega
    rw [hc] at ho
    obtain ⟨_, hx⟩ := he r p 0 (by rw [h0]; exact Nat.le_refl _)
    obtain ⟨o2, ho2, hs, hg⟩ := hx o ho
    exact ⟨o2, ho2, by rw [hs, shp_renOb], by simp only [hc]; exact hg⟩
  · rintro ⟨⟨r, p, v⟩, g⟩ hk hl hv ⟨h1, h2⟩
    simp only at hk hl hv h1 h2
    obtain ⟨o, ho⟩ := Option.isSome_iff_exists.1 hl
    have hc := ctr_of_live ho
    refine ⟨?_, fun o' ho' => ?_⟩
    · simp only [norm]
      rw [norm_ctr hk, hc]; omega
    · simp only [hc]
      exact h2 o ho

/-! ### A slice that is nil, as an array that is grown -/
def coS (i sz : Nat) (e : TypeId) (st : St) : St := match st.slots.getD i .dead with
  | .v (.slice none 0 0) => if i < st.subs.length then ⟨st.slots.set i (.own i [] (ctr st.subs i [] + 1) 0 0), setEnt st.subs i [] (ctr st.subs i [] + 1, some (.arr true false sz e []))⟩ else st
  | _ => st
theorem nil_row (w : World) (e : TypeId) (sz : Nat) : w.ownsRow 0 e sz (.slice none 0 0) 0 [] := ⟨by simp, .inl ⟨rfl, rfl⟩⟩
/-- A new place for what is nil. -/
theorem Inv.nil {C : Ctx} {S : Subs} {γ : Gh} {imm : Nat → Prop} {w : World} (h : Inv C S γ imm w) {r : Nat} (hr : r < S.length) (p : List Nat) (sz : Nat) (e : TypeId) :
    Inv C (setEnt S r p (ctr S r p + 1, some (.arr true false sz e []))) (upd γ r p (ctr S r p + 1) (.slice none 0 0)) imm w ∧ Ext S γ (setEnt S r p (ctr S r p + 1, some (.arr true false sz e []))) (upd γ r p (ctr S r p + 1) (.slice none 0 0)) := by
  refine ⟨?_, Ext.put hr (.inl rfl)⟩
  refine Inv.put (fun _ => False) h hr (.inl rfl) rfl rfl rfl (Nat.le_refl _) (fun _ x => x.elim) (fun _ _ _ => rfl) (fun _ x => x) (fun _ x => .inl x) ?_ ?_ ?_
  · exact ⟨[], nil_row w e sz, rfl, by simp, by simp, by simp, by simp⟩
  · intro b hb; simp [bl] at hb
  · intro r1 p1 v1 o1 b h1 _ hb
    exact ⟨id, (h.own _ _ _ _ b h1 hb).2.2, by simp [bl]⟩
theorem nil_val {S : Subs} {γ : Gh} {imm : Nat → Prop} {w : World} {r : Nat} (hr : r < S.length) (p : List Nat) (sz : Nat) (e : TypeId) (c : Nat) :
    VRel (setEnt S r p (c, some (.arr true false sz e []))) (upd γ r p c (.slice none 0 0)) imm w (.own r p c 0 0) (.slice none 0 0) := by
  refine ⟨by rw [ctr_setEnt_same hr]; exact Nat.le_refl _, fun o ho => ?_⟩
  rw [live_setEnt_same hr, if_pos rfl] at ho
  simp only [Option.some.injEq] at ho
  subst ho
  rw [upd_same]
  exact ⟨sz, 0, rfl, none, 0, none, rfl, by simp, by simp, by simp, rfl, fun _ => rfl, fun h => by omega, fun b hb => by simp at hb⟩
theorem coS_ok {C : Ctx} {γ : Gh} {imm : Nat → Prop} {st : St} {a : Act} {w : World} (i sz : Nat) (e : TypeId) (h : Rel C γ imm st a w) :
    ∃ γ', Rel C γ' imm (coS i sz e st) a w ∧ Ext st.subs γ (coS i sz e st).subs γ' := by
  unfold coS
  split
  · rename_i hx
    split
    · rename_i hlt
      obtain ⟨h1, h2⟩ := Inv.nil h.inv hlt [] sz e
      refine ⟨_, ⟨h1, by simpa using h.len, fun j => ?_⟩, h2⟩
      by_cases hij : i = j
      · subst hij
        have hv := h.val i
        rw [hx] at hv
        have hv' : a.tmps.getD i undef = .slice none 0 0 := hv
        by_cases hl : i < st.slots.length
        · simp only [List.getD_eq_getElem?_getD, List.getElem?_set_self hl, Option.getD_some]
          rw [hv']
          exact nil_val hlt [] sz e _
        · have : (st.slots.set i (.own i [] (ctr st.subs i [] + 1) 0 0)).getD i .dead = .dead := by simp [List.getD_eq_getElem?_getD, hl]
          rw [this]; trivial
      · have : (st.slots.set i (.own i [] (ctr st.subs i [] + 1) 0 0)).getD j .dead = st.slots.getD j .dead := by simp [List.getD_eq_getElem?_getD, List.getElem?_set_ne hij]
        rw [this]
        exact VRel_mono h2 (fun _ x => x) (Keeps.refl _ _) _ _ (h.val j)
    · exact ⟨γ, h, Ext.refl _ _⟩
  · exact ⟨γ, h, Ext.refl _ _⟩

/-- The same of a cell of a box. -/
def coC (r : Nat) (p : List Nat) (k sz : Nat) (e : TypeId) (st : St) : St := match live st.subs r p (ctr st.subs r p) with
  | some (.box fz cells) => (match cells[k]? with
    | some (.v (.slice none 0 0)) => if r < st.subs.length ∧ fz = false then
        let c := ctr st.subs r (p ++ [k]) + 1
        ⟨st.slots, setEnt (setEnt st.subs r (p ++ [k]) (c, some (.arr true false sz e []))) r p (ctr st.subs r p, some (.box fz (cells.set k (.own r (p ++ [k]) c 0 0))))⟩ else st
    | _ => st)
  | _ => st
theorem coC_ok {C : Ctx} {γ : Gh} {imm : Nat → Prop} {st : St} {a : Act} {w : World} (r : Nat) (p : List Nat) (k sz : Nat) (e : TypeId) (h : Rel C γ imm st a w) :
    ∃ γ', Rel C γ' imm (coC r p k sz e st) a w ∧ Ext st.subs γ (coC r p k sz e st).subs γ' := by
  unfold coC
  split
  · rename_i fz cells ho
    split
    · rename_i hk
      split
      · rename_i hc
        obtain ⟨hlt, rfl⟩ := hc
        have hpk : ¬ (r = r ∧ p ++ [k] = p) := fun x => by have := congrArg List.length x.2; simp at this
        obtain ⟨h1, h2⟩ := Inv.nil h.inv hlt (p ++ [k]) sz e
        have hlt1 : r < (setEnt st.subs r (p ++ [k]) (ctr st.subs r (p ++ [k]) + 1, some (.arr true false sz e []))).length := by simpa using hlt
        have hl1 : live (setEnt st.subs r (p ++ [k]) (ctr st.subs r (p ++ [k]) + 1, some (.arr true false sz e []))) r p (ctr st.subs r p) = some (.box false cells) := by
          rw [live_setEnt_other hlt hpk]; exact ho
        have hext := Ext.put (γ := upd γ r (p ++ [k]) (ctr st.subs r (p ++ [k]) + 1) (.slice none 0 0)) (g := upd γ r (p ++ [k]) (ctr st.subs r (p ++ [k]) + 1) (.slice none 0 0) r p (ctr st.subs r p)) (o' := .box false (cells.set k (.own r (p ++ [k]) (ctr st.subs r (p ++ [k]) + 1) 0 0))) hlt1 (.inr ⟨_, hl1, rfl, rfl⟩)
        have hg := h1.obj _ _ _ _ hl1
        refine ⟨_, ⟨Inv.put (fun _ => False) h1 hlt1 (.inr ⟨_, hl1, rfl, rfl⟩) rfl rfl rfl (Nat.le_refl _) (fun _ x => x.elim) (fun _ _ _ => rfl) (fun _ x => x) (fun _ x => .inl x) ?_ ?_ ?_, h.len, fun j => ?_⟩, Ext.trans h2 hext⟩
        · obtain ⟨b, cs, e', hb, hh, hv, hone, hf⟩ := hg
          refine ⟨b, cs, e', hb, hh, ?_, hone, hf⟩
          have hv2 := VRels_mono hext (fun _ x => x) (Keeps.refl imm w) _ _ hv
          have hlen := VRels_length hv2
          refine VRels_of_get (by simpa using hlen) fun i hi hu => ?_
          by_cases hik : k = i
          · subst hik
            have hki : k < cells.length := by simpa using hi
            have hcell := VRels_get hv2 k hki hu
            have hkk : cells[k] = .v (.slice none 0 0) := by
              rw [List.getElem?_eq_getElem hki] at hk
              exact Option.some.inj hk
            rw [hkk] at hcell
            have hcv : cs[k] = .slice none 0 0 := hcell
            rw [List.getElem_set_self, hcv]
            exact VRel_mono hext (fun _ x => x) (Keeps.refl imm w) _ _ (nil_val hlt (p ++ [k]) sz e _)
          · rw [List.getElem_set_ne hik]
            exact VRels_get hv2 i (by simpa using hi) hu
        · intro b hb
          have := h1.own _ _ _ (.box false cells) b hl1 hb
          exact this
        · intro r1 p1 v1 o1 b g1 gn gb
          refine ⟨id, (h1.own _ _ _ _ b g1 gb).2.2, fun e => ?_⟩
          have := h1.inj _ _ _ _ _ _ _ _ b hl1 g1 e gb
          exact gn ⟨this.1, this.2.1⟩
        · exact VRel_mono (Ext.trans h2 hext) (fun _ x => x) (Keeps.refl _ _) _ _ (h.val j)
      · exact ⟨γ, h, Ext.refl _ _⟩
    · exact ⟨γ, h, Ext.refl _ _⟩
  · exact ⟨γ, h, Ext.refl _ _⟩
end Go.Proofs.YtmekfllddifglaaDoor.AM

/- The abstract machine, part w: what goes into a call, and what comes back. Conditions: none. -/
set_option linter.unusedVariables false
set_option linter.unusedSimpArgs false
namespace Go.Proofs.YtmekfllddifglaaDoor.AM
open Go

def strip : List Nat → List Nat → Option (List Nat)
  | [], q => some q
  | _ :: _, [] => none
  | a :: p, b :: q => if a = b then strip p q else none
theorem strip_some : ∀ {p0 p q : List Nat}, strip p0 p = some q ↔ p = p0 ++ q
  | [], p, q => by simp [strip]
  | a :: p0, [], q => by simp [strip]
  | a :: p0, b :: p, q => by
    simp only [strip]
    split
    · rename_i e; subst e; rw [strip_some]; simp
    · rename_i e; simp; exact fun h => (e h.symm).elim

/-- What is handed in under a place, as it was, to be changed. -/
abbrev Pass := AV × Option (Nat × List Nat × Sub)
def subIn (p0 : List Nat) (φ : Ren) : Sub → Sub
  | [] => []
  | e :: s => match strip p0 e.1 with
    | some q => (q, (0, e.2.2.map (renOb φ))) :: subIn p0 φ s
    | none => subIn p0 φ s
def keyIn (p0 : List Nat) (s' : Sub) (p : List Nat) : Bool := match strip p0 p with
  | some q => s'.any fun e => e.1 == q
  | none => false
def subOut (p0 : List Nat) (φ : Ren) (s s' : Sub) : Sub :=
  (s'.map fun e => (p0 ++ e.1, ((s.ent (p0 ++ e.1)).1 + e.2.1, e.2.2.map (renOb φ)))) ++ (s.filter fun e => !keyIn p0 s' e.1).map fun e => if (strip p0 e.1).isSome then (e.1, (e.2.1, none)) else e

theorem ent_subIn (p0 : List Nat) (φ : Ren) (s : Sub) (q : List Nat) : (subIn p0 φ s).ent q = (0, (s.ent (p0 ++ q)).2.map (renOb φ)) := by
  induction s with
  | nil => simp [subIn, Sub.ent]
  | cons e s ih =>
    obtain ⟨p, v, o⟩ := e
    simp only [subIn]
    split
    · rename_i q' hq
      rw [strip_some] at hq
      subst hq
      by_cases e : q' = q
      · subst e; simp [Sub.ent]
      · simp [Sub.ent, e, ih]
    · rename_i hq
      have : p ≠ p0 ++ q := fun e => by rw [strip_some.2 e] at hq; cases hq
      simp [Sub.ent, this, ih]
theorem ent_out_tail (p0 : List Nat) (s : Sub) (p : List Nat) : Sub.ent (s.map fun e => if (strip p0 e.1).isSome then (e.1, (e.2.1, none)) else e) p = if (strip p0 p).isSome then ((s.ent p).1, none) else s.ent p := by
  induction s with
  | nil => simp [Sub.ent]
  | cons e s ih =>
    obtain ⟨p', v, o⟩ := e
    simp only [List.map_cons]
    by_cases e : p' = p
    · subst e
      by_cases hs : (strip p0 p').isSome
      · simp [Sub.ent, hs]
      · simp [Sub.ent, hs]
    · have h1 : Sub.ent ((if (strip p0 p').isSome = true then (p', v, (none : Option Ob)) else (p', v, o)) :: List.map (fun e : List Nat × Ent => if (strip p0 e.1).isSome = true then (e.1, e.2.1, none) else e) s) p = Sub.ent (List.map (fun e : List Nat × Ent => if (strip p0 e.1).isSome = true then (e.1, e.2.1, none) else e) s) p := by
        by_cases hs : (strip p0 p').isSome
        · simp [Sub.ent, hs, e]
        · simp [Sub.ent, hs, e]
      rw [h1, ih]
      simp [Sub.ent, e]
theorem ent_front (p0 : List Nat) (φ : Ren) (s B : Sub) (p : List Nat) : ∀ s' : Sub, Sub.ent ((s'.map fun e => (p0 ++ e.1, ((s.ent (p0 ++ e.1)).1 + e.2.1, e.2.2.map (renOb φ)))) ++ B) p = if keyIn p0 s' p then (match strip p0 p with
    | some q => ((s.ent p).1 + (s'.ent q).1, (s'.ent q).2.map (renOb φ))
    | none => (0, none)) else B.ent p
  | [] => by
    have hk : keyIn p0 [] p = false := by unfold keyIn; cases strip p0 p <;> rfl
    simp [hk]
  | (q, v, o) :: s' => by
    simp only [List.map_cons, List.cons_append]
    by_cases hp : p0 ++ q = p
    · have hs := strip_some.2 hp.symm
      have hk : keyIn p0 ((q, v, o) :: s') p = true := by simp [keyIn, hs]
      rw [if_pos hk, hs]
      simp [Sub.ent, hp]
    · simp only [Sub.ent, hp, if_false]
      rw [ent_front p0 φ s B p s']
      have hk : keyIn p0 ((q, v, o) :: s') p = keyIn p0 s' p := by
        unfold keyIn
        cases h : strip p0 p with
        | none => rfl
        | some q' =>
          have : q ≠ q' := fun e => hp (by subst e; exact (strip_some.1 h).symm)
          simp [this]
      rw [hk]
      congr 1
      cases h : strip p0 p with
      | none => rfl
      | some q' =>
        have : q ≠ q' := fun e => hp (by subst e; exact (strip_some.1 h).symm)
        simp [this]
theorem ent_kept (p0 : List Nat) (s' : Sub) (p : List Nat) (hk : keyIn p0 s' p = false) : ∀ s : Sub, Sub.ent ((s.filter fun e => !keyIn p0 s' e.1).map fun e => if (strip p0 e.1).isSome then (e.1, (e.2.1, none)) else e) p = Sub.ent (s.map fun e => if (strip p0 e.1).isSome then (e.1, (e.2.1, none)) else e) p
  | [] => rfl
  | (q, v, o) :: s => by
    by_cases hq : q = p
    · subst hq
      by_cases hs : (strip p0 q).isSome
      · simp [hk, Sub.ent, hs]
      · simp [hk, Sub.ent, hs]
    · have ih := ent_kept p0 s' p hk s
      by_cases hs : (strip p0 q).isSome
      · by_cases hf : keyIn p0 s' q
        · simpa [hf, Sub.ent, hs, hq] using ih
        · simpa [hf, Sub.ent, hs, hq] using ih
      · by_cases hf : keyIn p0 s' q
        · simpa [hf, Sub.ent, hs, hq] using ih
        · simpa [hf, Sub.ent, hs, hq] using ih
theorem no_key {s' : Sub} {q : List Nat} (h : (s'.any fun e => e.1 == q) = false) : s'.ent q = (0, none) := by
  induction s' with
  | nil => rfl
  | cons e s' ih =>
    simp only [List.any_cons, Bool.or_eq_false_iff, beq_eq_false_iff_ne, ne_eq] at h
    obtain ⟨q', e⟩ := e
    simp only [Sub.ent, h.1, if_false]
    exact ih h.2
theorem ent_subOut (p0 : List Nat) (φ : Ren) (s s' : Sub) (p : List Nat) : (subOut p0 φ s s').ent p = match strip p0 p with
    | some q => ((s.ent p).1 + (s'.ent q).1, (s'.ent q).2.map (renOb φ))
    | none => s.ent p := by
  unfold subOut
  rw [ent_front]
  by_cases hk : keyIn p0 s' p = true
  · rw [if_pos hk]
    cases h : strip p0 p with
    | none => simp [keyIn, h] at hk
    | some q => rfl
  · have hk' : keyIn p0 s' p = false := by simpa using hk
    rw [if_neg hk, ent_kept p0 s' p hk', ent_out_tail]
    cases h : strip p0 p with
    | none => simp
    | some q =>
      have : s'.ent q = (0, none) := no_key (by simpa [keyIn, h] using hk')
      simp [this]

/-- Who is handed in under that place: as which argument. -/
def who : List Pass → Nat → Nat → Option (Nat × List Nat × Sub)
  | [], _, _ => none
  | x :: l, j, r => match x.2 with
    | some y => if y.1 = r then some (j, y.2.1, y.2.2) else who l (j + 1) r
    | none => who l (j + 1) r
def φin (qs : List Pass) : Ren := fun r p ver => match who qs 0 r with
  | some (j, p0, s) => (match strip p0 p with
    | some q => if (s.live p ver).isSome then some (j, q, 0) else none
    | none => none)
  | none => none
def φout (qs : List Pass) (Sc : Subs) : Ren := fun j q v => match (qs.getD j (.dead, none)).2 with
  | some (r, p0, s) => if (live Sc j q v).isSome then some (r, p0 ++ q, (s.ent (p0 ++ q)).1 + v) else none
  | none => none
def argsIn (qs : List Pass) : List AV := qs.map fun x => match x.2 with
  | some _ => ren (φin qs) x.1
  | none => x.1
def subsIn (qs : List Pass) : Subs := qs.map fun x => match x.2 with
  | some y => subIn y.2.1 (φin qs) y.2.2
  | none => []
def roots : List Pass → List Nat
  | [] => []
  | x :: l => match x.2 with
    | some y => y.1 :: roots l
    | none => roots l

theorem who_some {qs : List Pass} {r : Nat} : ∀ {i j : Nat} {p0 : List Nat} {s : Sub}, who qs i r = some (j, p0, s) → i ≤ j ∧ (qs.getD (j - i) (.dead, none)).2 = some (r, p0, s) := by
  induction qs with
  | nil => intro i j p0 s h; cases h
  | cons x l ih =>
    intro i j p0 s h
    obtain ⟨x, o⟩ := x
    cases o with
    | none =>
      simp only [who] at h
      obtain ⟨h1, h2⟩ := ih h
      refine ⟨by omega, ?_⟩
      rw [show j - i = (j - (i + 1)) + 1 by omega, List.getD_cons_succ]; exact h2
    | some y =>
      simp only [who] at h
      split at h
      · rename_i e
        simp only [Option.some.injEq, Prod.mk.injEq] at h
        obtain ⟨rfl, rfl, rfl⟩ := h
        subst e
        simp
      · obtain ⟨h1, h2⟩ := ih h
        refine ⟨by omega, ?_⟩
        rw [show j - i = (j - (i + 1)) + 1 by omega, List.getD_cons_succ]; exact h2
theorem mem_roots {qs : List Pass} {j r : Nat} {p0 : List Nat} {s : Sub} (h : (qs.getD j (.dead, none)).2 = some (r, p0, s)) : r ∈ roots qs := by
  induction qs generalizing j with
  | nil => simp at h
  | cons x l ih =>
    obtain ⟨x, o⟩ := x
    cases j with
    | zero =>
      simp only [List.getD_cons_zero] at h
      subst h
      simp [roots]
    | succ j =>
      rw [List.getD_cons_succ] at h
      cases o with
      | none => exact ih h
      | some y => exact List.mem_cons_of_mem _ (ih h)
theorem who_of {qs : List Pass} {j r : Nat} {p0 : List Nat} {s : Sub} (hnd : (roots qs).Nodup) (h : (qs.getD j (.dead, none)).2 = some (r, p0, s)) (i : Nat) : who qs i r = some (i + j, p0, s) := by
  induction qs generalizing i j with
  | nil => simp at h
  | cons x l ih =>
    obtain ⟨x, o⟩ := x
    cases j with
    | zero =>
      simp only [List.getD_cons_zero] at h
      subst h
      simp [who]
    | succ j =>
      rw [List.getD_cons_succ] at h
      cases o with
      | none =>
        simp only [who]
        rw [ih hnd h (i + 1)]
        simp; omega
      | some y =>
        simp only [roots, List.nodup_cons] at hnd
        simp only [who]
        rw [if_neg (fun e => hnd.1 (by rw [e]; exact mem_roots h)), ih hnd.2 h (i + 1)]
        simp; omega

theorem sub_subsIn (qs : List Pass) (j : Nat) : sub (subsIn qs) j = match (qs.getD j (.dead, none)).2 with
    | some y => subIn y.2.1 (φin qs) y.2.2
    | none => [] := by
  unfold sub subsIn
  simp only [List.getD_eq_getElem?_getD, List.getElem?_map]
  cases h : qs[j]? with
  | none => simp
  | some x => simp
theorem subsIn_ctr (qs : List Pass) (j : Nat) (q : List Nat) : ctr (subsIn qs) j q = 0 := by
  unfold ctr
  rw [sub_subsIn]
  split
  · rw [ent_subIn]
  · rfl
theorem subsIn_live {qs : List Pass} {j : Nat} {q : List Nat} {v : Nat} {o : Ob} (h : live (subsIn qs) j q v = some o) :
    ∃ r p0 s o1, (qs.getD j (.dead, none)).2 = some (r, p0, s) ∧ v = 0 ∧ (s.ent (p0 ++ q)).2 = some o1 ∧ o = renOb (φin qs) o1 := by
  have hv := ctr_of_live h
  rw [subsIn_ctr] at hv
  rw [live_eq, sub_subsIn] at h
  split at h
  · rename_i y hy
    rw [ent_subIn] at h
    rw [if_pos hv] at h
    obtain ⟨o1, h1, rfl⟩ := Option.map_eq_some_iff.1 h
    exact ⟨y.1, y.2.1, y.2.2, o1, hy, hv.symm, h1, rfl⟩
  · by_cases e : 0 = v <;> simp [Sub.ent, e] at h

/-- The blocks of what is handed in. -/
def Lent (S : Subs) (γ : Gh) (qs : List Pass) (b : Nat) : Prop := ∃ j r p0 s q v o, (qs.getD j (.dead, none)).2 = some (r, p0, s) ∧ live S r (p0 ++ q) v = some o ∧ bl (γ r (p0 ++ q) v) = some b
def γin (S : Subs) (γ : Gh) (qs : List Pass) : Gh := fun j q _ => match (qs.getD j (.dead, none)).2 with
  | some (r, p0, _) => γ r (p0 ++ q) (ctr S r (p0 ++ q))
  | none => undef
/-- They are what they are in this store. -/
def Told (S : Subs) (qs : List Pass) : Prop := ∀ j r p0 s, (qs.getD j (.dead, none)).2 = some (r, p0, s) → s = sub S r ∧ True

theorem in_ren {S : Subs} {γ : Gh} {qs : List Pass} (ht : Told S qs) : RenOk (φin qs) S γ (subsIn qs) (γin S γ qs) := by
  intro r p ver y hy
  unfold φin at hy
  split at hy
  · rename_i j p0 s hw
    obtain ⟨_, hj⟩ := who_some hw
    simp only [Nat.sub_zero] at hj
    obtain ⟨rfl, hlt⟩ := ht j r p0 s hj
    split at hy
    · rename_i q hq
      split at hy
      · rename_i hl
        simp only [Option.some.injEq] at hy
        subst hy
        obtain ⟨o, ho⟩ := Option.isSome_iff_exists.1 hl
        have ho' : live S r p ver = some o := ho
        have hpq := strip_some.1 hq
        subst hpq
        refine ⟨Nat.zero_le _, fun o' ho2 => ?_⟩
        obtain ⟨r', p0', s', o1, h1, _, h3, rfl⟩ := subsIn_live ho2
        rw [hj] at h1
        simp only [Option.some.injEq, Prod.mk.injEq] at h1
        obtain ⟨rfl, rfl, rfl⟩ := h1
        have he := Sub.live_ent ho
        rw [he] at h3
        simp only [Option.some.injEq] at h3
        subst h3
        refine ⟨o, ho', (shp_renOb _ _).symm, ?_⟩
        simp only [γin, hj]
        rw [ctr_of_live ho']
      · cases hy
    · cases hy
  · cases hy

/-- The surroundings of what is called. -/
def CtxIn (S : Subs) (γ : Gh) (imm : Nat → Prop) (w : World) (qs : List Pass) : Ctx := ⟨w, Lent S γ qs, imm⟩
theorem in_inv {C : Ctx} {S : Subs} {γ : Gh} {imm : Nat → Prop} {w : World} (h : Inv C S γ imm w) {qs : List Pass} (ht : Told S qs) (hnd : (roots qs).Nodup) : Inv (CtxIn S γ imm w qs) (subsIn qs) (γin S γ qs) imm w := by
  have key : ∀ j q v o, live (subsIn qs) j q v = some o → ∃ r p0 s o1, (qs.getD j (.dead, none)).2 = some (r, p0, s) ∧ v = 0 ∧ live S r (p0 ++ q) (ctr S r (p0 ++ q)) = some o1 ∧ o = renOb (φin qs) o1 ∧ γin S γ qs j q v = γ r (p0 ++ q) (ctr S r (p0 ++ q)) := by
    intro j q v o ho
    obtain ⟨r, p0, s, o1, h1, h2, h3, h4⟩ := subsIn_live ho
    obtain ⟨rfl, _⟩ := ht _ _ _ _ h1
    exact ⟨r, p0, _, o1, h1, h2, by rw [live_eq]; simpa [ctr] using h3, h4, by simp only [γin, h1]⟩
  refine ⟨rfl, rfl, rfl, Nat.le_refl _, fun _ _ _ => rfl, fun _ _ => rfl, fun _ x => x, h.immlt, fun _ x => .inl x, ?_, ?_, ?_⟩
  · intro j q v o ho
    obtain ⟨r, p0, s, o1, h1, h2, h3, rfl, h5⟩ := key j q v o ho
    rw [h5]
    exact ORel_ren (in_ren ht) (fun _ x => x) (Keeps.refl _ _) (fun _ _ => rfl) (h.obj _ _ _ _ h3)
  · intro j q v o b ho hb
    obtain ⟨r, p0, s, o1, h1, h2, h3, rfl, h5⟩ := key j q v o ho
    rw [h5] at hb
    have := h.own _ _ _ _ b h3 hb
    exact ⟨this.1, .inl ⟨j, r, p0, s, q, _, o1, h1, h3, hb⟩, by rw [fzOf_renOb]; exact this.2.2⟩
  · intro j q v o j' q' v' o' b ho ho' hb hb'
    obtain ⟨r, p0, s, o1, h1, h2, h3, rfl, h5⟩ := key j q v o ho
    obtain ⟨r', p0', s', o1', h1', h2', h3', rfl, h5'⟩ := key j' q' v' o' ho'
    rw [h5] at hb
    rw [h5'] at hb'
    obtain ⟨rfl, he, _⟩ := h.inj _ _ _ _ _ _ _ _ b h3 h3' hb hb'
    have w1 := who_of hnd h1 0
    have w2 := who_of hnd h1' 0
    rw [w1] at w2
    simp only [Option.some.injEq, Prod.mk.injEq] at w2
    obtain ⟨e1, e2, e3⟩ := w2
    subst e2
    exact ⟨by omega, List.append_cancel_left he, by omega⟩

/-! ### Back -/
def backSub (qs : List Pass) (Sc S : Subs) (r : Nat) : Sub := match who qs 0 r with
  | some (j, p0, s) => subOut p0 (φout qs Sc) s (sub Sc j)
  | none => sub S r
def γback (qs : List Pass) (S : Subs) (γ γc : Gh) : Gh := fun r p v => match who qs 0 r with
  | some (j, p0, _) => (match strip p0 p with
    | some q => if v < ctr S r p then γ r p v else γc j q (v - ctr S r p)
    | none => γ r p v)
  | none => γ r p v

theorem out_to {C : Ctx} {S : Subs} {γ : Gh} {imm : Nat → Prop} {w : World} (h : Inv C S γ imm w) {qs : List Pass} (ht : Told S qs) (hnd : (roots qs).Nodup) {Sc : Subs} {w' : World} {R : Gh → (Nat → Prop) → Prop} {R' : Gh → (Nat → Prop) → Prop}
    (hc : To (CtxIn S γ imm w qs) (subsIn qs) (γin S γ qs) imm w Sc w' R) {S' : Subs} (hS : ∀ r, sub S' r = backSub qs Sc S r) (hR : ∀ γ' γc imm', R γc imm' → R' γ' imm') : To C S γ imm w S' w' R' := by
  obtain ⟨γc, imm', hi, he, hm, hk, hr⟩ := hc
  -- what is live behind the call
  have ent' : ∀ r p, (sub S' r).ent p = match who qs 0 r with
      | some (j, p0, s) => (match strip p0 p with
        | some q => ((s.ent p).1 + ((sub Sc j).ent q).1, ((sub Sc j).ent q).2.map (renOb (φout qs Sc)))
        | none => s.ent p)
      | none => (sub S r).ent p := by
    intro r p
    rw [hS, backSub]
    split
    · rename_i j p0 s hw
      rw [ent_subOut]
    · rfl
  have lv : ∀ r p v o, live S' r p v = some o → (∃ j p0 s q v' o', who qs 0 r = some (j, p0, s) ∧ (qs.getD j (.dead, none)).2 = some (r, p0, s) ∧ p = p0 ++ q ∧ v = ctr S r p + v' ∧ live Sc j q v' = some o' ∧ o = renOb (φout qs Sc) o' ∧ γback qs S γ γc r p v = γc j q v') ∨
      (live S r p v = some o ∧ γback qs S γ γc r p v = γ r p v ∧ ∀ j p0 s q, (qs.getD j (.dead, none)).2 = some (r, p0, s) → p ≠ p0 ++ q) := by
    intro r p v o ho
    rw [live_eq, ent'] at ho
    cases hw : who qs 0 r with
    | none =>
      rw [hw] at ho
      refine .inr ⟨by rw [live_eq]; exact ho, by simp only [γback, hw], fun j p0 s q hq => ?_⟩
      rw [who_of hnd hq 0] at hw
      cases hw
    | some x =>
      obtain ⟨j, p0, s⟩ := x
      rw [hw] at ho
      obtain ⟨_, hj⟩ := who_some hw
      simp only [Nat.sub_zero] at hj
      obtain ⟨rfl, hlt⟩ := ht _ _ _ _ hj
      simp only [] at ho
      cases hs : strip p0 p with
      | none =>
        rw [hs] at ho
        refine .inr ⟨by rw [live_eq]; exact ho, by simp only [γback, hw, hs], fun j' p0' s' q hq hp => ?_⟩
        rw [who_of hnd hq 0] at hw
        simp only [Option.some.injEq, Prod.mk.injEq] at hw
        obtain ⟨_, rfl, _⟩ := hw
        rw [strip_some.2 hp] at hs
        cases hs
      | some q =>
        rw [hs] at ho
        simp only [] at ho
        split at ho
        · rename_i hv
          obtain ⟨o', ho', rfl⟩ := Option.map_eq_some_iff.1 ho
          refine .inl ⟨j, p0, _, q, ctr Sc j q, o', rfl, hj, strip_some.1 hs, ?_, by rw [live_eq]; simpa [ctr] using ho', rfl, ?_⟩
          · rw [← hv]; rfl
          · simp only [γback, hw, hs]
            have : v = ctr S r p + ctr Sc j q := by rw [← hv]; rfl
            rw [if_neg (by omega)]
            congr 1
            omega
        · cases ho
  have hctr : ∀ r p, ctr S r p ≤ ctr S' r p := by
    intro r p
    rw [ctr, ctr, ent' r p]
    cases hw : who qs 0 r with
    | none => exact Nat.le_refl _
    | some x =>
      obtain ⟨j, p0, s⟩ := x
      obtain ⟨_, hj⟩ := who_some hw
      simp only [Nat.sub_zero] at hj
      obtain ⟨rfl, _⟩ := ht _ _ _ _ hj
      simp only []
      cases hs : strip p0 p with
      | none => exact Nat.le_refl _
      | some q => simp only []; omega
  have hctr2 : ∀ j q r p0 s, (qs.getD j (.dead, none)).2 = some (r, p0, s) → ctr S' r (p0 ++ q) = ctr S r (p0 ++ q) + ctr Sc j q := by
    intro j q r p0 s hj
    have hw := who_of hnd hj 0
    rw [Nat.zero_add] at hw
    obtain ⟨rfl, _⟩ := ht _ _ _ _ hj
    rw [ctr, ent', hw]
    simp only [strip_some.2 (rfl : p0 ++ q = p0 ++ q)]
    rfl
  -- the references
  have hext : Ext S γ S' (γback qs S γ γc) := by
    intro r p ver hle
    refine ⟨Nat.le_trans hle (hctr r p), fun o ho => ?_⟩
    rcases lv r p ver o ho with ⟨j, p0, s, q, v', o', hw, hj, rfl, rfl, ho', rfl, hg⟩ | ⟨ho', hg, _⟩
    · obtain rfl : v' = 0 := by omega
      obtain ⟨_, hx⟩ := he j q 0 (by rw [subsIn_ctr]; exact Nat.le_refl _)
      obtain ⟨o2, ho2, hsh, hg2⟩ := hx o' ho'
      obtain ⟨r2, p02, s2, o1, g1, _, g3, rfl⟩ := subsIn_live ho2
      rw [hj] at g1
      simp only [Option.some.injEq, Prod.mk.injEq] at g1
      obtain ⟨rfl, rfl, rfl⟩ := g1
      obtain ⟨rfl, _⟩ := ht _ _ _ _ hj
      refine ⟨o1, by rw [live_eq]; simpa [ctr] using g3, by rw [shp_renOb, ← hsh, shp_renOb], ?_⟩
      rw [hg, hg2]
      simp only [γin, hj, Nat.add_zero]
    · exact ⟨o, ho', rfl, hg⟩
  have hren : RenOk (φout qs Sc) Sc γc S' (γback qs S γ γc) := by
    intro j q v y hy
    unfold φout at hy
    split at hy
    · rename_i r p0 s hj
      split at hy
      · rename_i hl
        simp only [Option.some.injEq] at hy
        subst hy
        obtain ⟨o, ho⟩ := Option.isSome_iff_exists.1 hl
        obtain ⟨rfl, hlt⟩ := ht _ _ _ _ hj
        have hcv := ctr_of_live ho
        refine ⟨by simp only [hctr2 j q r p0 _ hj, hcv]; exact Nat.le_refl _, fun o' ho' => ?_⟩
        have hw := who_of hnd hj 0
        rw [Nat.zero_add] at hw
        have ho2 := ho'
        simp only [live_eq] at ho2
        rw [ent', hw] at ho2
        simp only [strip_some.2 (rfl : p0 ++ q = p0 ++ q)] at ho2
        split at ho2
        · obtain ⟨o3, ho3, rfl⟩ := Option.map_eq_some_iff.1 ho2
          have hl2 := Sub.live_ent ho
          rw [hl2] at ho3
          simp only [Option.some.injEq] at ho3
          subst ho3
          refine ⟨o, ho, (shp_renOb _ _).symm, ?_⟩
          simp only [γback, hw, strip_some.2 (rfl : p0 ++ q = p0 ++ q)]
          have : (Sub.ent (sub S r) (p0 ++ q)).1 = ctr S r (p0 ++ q) := rfl
          rw [this, if_neg (by omega)]
          congr 1
          omega
        · cases ho2
      · cases hy
    · cases hy
  have hE : ∀ b, Lent S γ qs b → b < w.heap.size ∧ (C.E b ∨ C.w0.heap.size ≤ b) := by
    rintro b ⟨j, r, p0, s, q, v, o, hj, ho, hb⟩
    have := h.own _ _ _ _ b ho hb
    exact ⟨this.1, this.2.1⟩
  have hnE : ∀ r p v o b, live S r p v = some o → (∀ j p0 s q, (qs.getD j (.dead, none)).2 = some (r, p0, s) → p ≠ p0 ++ q) → bl (γ r p v) = some b → ¬ Lent S γ qs b := by
    rintro r p v o b ho hn hb ⟨j, r', p0, s, q, v', o', hj, ho', hb'⟩
    obtain ⟨rfl, rfl, _⟩ := h.inj _ _ _ _ _ _ _ _ b ho ho' hb hb'
    exact hn j p0 s q hj rfl
  refine ⟨γback qs S γ γc, imm', ?_, hext, hm, hk, hR _ _ _ hr⟩
  refine ⟨hi.tape.trans h.tape, hi.os.trans h.os, hi.output.trans h.output, Nat.le_trans h.size hi.size, ?_, fun b hb => (hi.keepI b (h.imm0 b hb)).trans (h.keepI b hb), fun b hb => hm b (h.imm0 b hb), hi.immlt, ?_, ?_, ?_, ?_⟩
  · intro b hb hn
    rw [hi.keep b (Nat.lt_of_lt_of_le hb h.size) (fun hl => ?_)]
    · exact h.keep b hb hn
    · rcases (hE b hl).2 with h1 | h1
      · exact hn h1
      · omega
  · intro b hb
    rcases hi.immE b hb with h1 | h1 | h1
    · exact h.immE b h1
    · exact .inr (hE b h1).2
    · exact .inr (.inr (Nat.le_trans h.size h1))
  · intro r p v o ho
    rcases lv r p v o ho with ⟨j, p0, s, q, v', o', hw, hj, rfl, rfl, ho', rfl, hg⟩ | ⟨ho', hg, hn⟩
    · rw [hg]
      exact ORel_ren hren (fun _ x => x) (Keeps.refl _ _) (fun _ _ => rfl) (hi.obj _ _ _ _ ho')
    · rw [hg]
      refine ORel_mono hext hm hk (fun b hb => ?_) (h.obj _ _ _ _ ho')
      exact hi.keep b (h.own _ _ _ _ b ho' hb).1 (hnE _ _ _ _ b ho' hn hb)
  · intro r p v o b ho hb
    rcases lv r p v o ho with ⟨j, p0, s, q, v', o', hw, hj, rfl, rfl, ho', rfl, hg⟩ | ⟨ho', hg, hn⟩
    · rw [hg] at hb
      have := hi.own _ _ _ _ b ho' hb
      refine ⟨this.1, ?_, by rw [fzOf_renOb]; exact this.2.2⟩
      rcases this.2.1 with h1 | h1
      · exact (hE b h1).2
      · exact .inr (Nat.le_trans h.size h1)
    · rw [hg] at hb
      have := h.own _ _ _ _ b ho' hb
      refine ⟨Nat.lt_of_lt_of_le this.1 hi.size, this.2.1, fun hf hx => ?_⟩
      rcases hi.immE b hx with h1 | h1 | h1
      · exact this.2.2 hf h1
      · exact hnE _ _ _ _ b ho' hn hb h1
      · have : w.heap.size ≤ b := h1
        omega
  · intro r p v o r' p' v' o' b ho ho' hb hb'
    have half : ∀ r p v o r' p' v' o', live S r p v = some o → bl (γ r p v) = some b → (∀ j p0 s q, (qs.getD j (.dead, none)).2 = some (r, p0, s) → p ≠ p0 ++ q) → live Sc r' p' v' = some o' → bl (γc r' p' v') = some b → False := by
      intro r p v o r' p' v' o' g1 g2 g3 g4 g5
      have k1 := h.own _ _ _ _ b g1 g2
      have k2 := hi.own _ _ _ _ b g4 g5
      rcases k2.2.1 with k3 | k3
      · exact hnE _ _ _ _ b g1 g3 g2 k3
      · have : w.heap.size ≤ b := k3
        omega
    rcases lv r p v o ho with ⟨j, p0, s, q, v1, o1, hw, hj, rfl, rfl, ho1, rfl, hg⟩ | ⟨ho1, hg, hn⟩
    · rcases lv r' p' v' o' ho' with ⟨j', p0', s', q', v1', o1', hw', hj', rfl, rfl, ho1', rfl, hg'⟩ | ⟨ho1', hg', hn'⟩
      · rw [hg] at hb
        rw [hg'] at hb'
        obtain ⟨rfl, rfl, rfl⟩ := hi.inj _ _ _ _ _ _ _ _ b ho1 ho1' hb hb'
        rw [hj] at hj'
        simp only [Option.some.injEq, Prod.mk.injEq] at hj'
        obtain ⟨rfl, rfl, rfl⟩ := hj'
        exact ⟨rfl, rfl, rfl⟩
      · rw [hg] at hb
        rw [hg'] at hb'
        exact (half _ _ _ _ _ _ _ _ ho1' hb' hn' ho1 hb).elim
    · rcases lv r' p' v' o' ho' with ⟨j', p0', s', q', v1', o1', hw', hj', rfl, rfl, ho1', rfl, hg'⟩ | ⟨ho1', hg', hn'⟩
      · rw [hg] at hb
        rw [hg'] at hb'
        exact (half _ _ _ _ _ _ _ _ ho1 hb hn ho1' hb').elim
      · rw [hg] at hb
        rw [hg'] at hb'
        exact h.inj _ _ _ _ _ _ _ _ b ho1 ho1' hb hb'
end Go.Proofs.YtmekfllddifglaaDoor.AM

/- The abstract machine, part x: a call. Conditions: none. -/
set_option linter.unusedVariables false
set_option linter.unusedSimpArgs false
namespace Go.Proofs.YtmekfllddifglaaDoor.AM
open Go

/-- What a function does, told abstractly: of what is handed in, and of what lies under it. -/
abbrev FnA := List AV → Subs → Option (AV × Subs)
def FnOk (P : Program) (G : Gl) (f : FuncId) (F : FnA) : Prop :=
  ∀ args S res S', F args S = some (res, S') → (∀ r p, ctr S r p = 0) → ∀ (C : Ctx) (γ : Gh) (vals : List Value), COk C G → Inv C S γ C.imm0 C.w0 → VRels S γ C.imm0 C.w0 args vals →
    Calls P f vals.toArray C.w0 fun e w' => ∃ u S2, e = .returned u ∧ S' = S2.take S.length ∧ To C S γ C.imm0 C.w0 S2 w' (fun _ imm' => IRel imm' w' res u)

def tgt : AV → Option (Nat × List Nat)
  | .loc r p _ _ => some (r, p)
  | .own r p _ _ _ => some (r, p)
  | .elt r p _ _ _ => some (r, p)
  | .mp r p _ => some (r, p)
  | .ifc _ x => tgt x
  | _ => none
abbrev Arg := AV × Option (Nat × List Nat)
/-- Each argument: handed on for good; or lent, to be changed. -/
def prepA : List Bool → List AV → RW (List Arg)
  | _, [] => .ret []
  | md, x :: l => match (if md.headD false then tgt x else none) with
    | some t => (prepA md.tail l).bind fun l' => .ret ((x, some t) :: l')
    | none => (pub 60 x).bind fun y => (prepA md.tail l).bind fun l' => .ret ((y, none) :: l')
def gather : List Arg → RW (List Pass)
  | [] => .ret []
  | (x, none) :: l => (gather l).bind fun l' => .ret ((x, none) :: l')
  | (x, some (r, p)) :: l => .get r fun s => (gather l).bind fun l' => .ret ((x, some (r, p, s)) :: l')
def putB (qs : List Pass) (Sc : Subs) : List Pass → Nat → RW Unit
  | [], _ => .ret ()
  | (_, none) :: l, j => putB qs Sc l (j + 1)
  | (_, some (r, p, s)) :: l, j => .put r (subOut p (φout qs Sc) s (sub Sc j)) (putB qs Sc l (j + 1))
def aCall (F : FnA) (md : List Bool) (args : List AV) : RW AV :=
  (prepA md args).bind fun xs => (gather xs).bind fun qs => if (roots qs).Nodup then
    (match F (argsIn qs) (subsIn qs) with
    | some (res, Sc) => (putB qs Sc qs 0).bind fun _ => .ret res
    | none => .fail) else .fail

def PRels {β : Type} (S : Subs) (γ : Gh) (imm : Nat → Prop) (w : World) : List (AV × Option β) → List Value → Prop
  | [], us => us = []
  | x :: l, us => ∃ u us', us = u :: us' ∧ VRel S γ imm w x.1 u ∧ (x.2 = none → IRel imm w x.1 u) ∧ PRels S γ imm w l us'

theorem prepA_good {C : Ctx} {w : World} : ∀ (l : List AV) (md : List Bool) (us : List Value) (S : Subs) (γ : Gh) (imm : Nat → Prop), Inv C S γ imm w → VRels S γ imm w l us →
    GoodW C S γ imm w (prepA md l) (fun xs S' γ' imm' => PRels S' γ' imm' w xs us)
  | [], md, us, S, γ, imm, h, hv => GoodW.ret h (by simpa [VRels, PRels] using hv)
  | x :: l, md, us, S, γ, imm, h, hv => by
    obtain ⟨u, us', rfl, h1, h2⟩ := hv
    simp only [prepA]
    split
    · refine GoodW.bind (prepA_good l md.tail us' S γ imm h h2) fun ys S2 γ2 imm2 hi2 he2 hm2 hys => ?_
      exact GoodW.ret hi2 ⟨u, us', rfl, VRel_mono he2 hm2 (Keeps.refl _ _) _ _ h1, fun e => by simp at e, hys⟩
    · refine GoodW.bind (pub_good 60 S γ imm h x u h1) fun y S1 γ1 imm1 hi1 he1 hm1 hy => ?_
      refine GoodW.bind (prepA_good l md.tail us' S1 γ1 imm1 hi1 (VRels_mono he1 hm1 (Keeps.refl _ _) _ _ h2)) fun ys S2 γ2 imm2 hi2 he2 hm2 hys => ?_
      have := IRel_mono hm2 (Keeps.refl _ _) _ _ hy
      exact GoodW.ret hi2 ⟨u, us', rfl, VRel_of_IRel _ _ this, fun _ => this, hys⟩

theorem gather_run {S : Subs} {γ : Gh} {imm : Nat → Prop} {w : World} : ∀ (xs : List Arg) (us : List Value) (qs : List Pass) (S' : Subs), (gather xs).run S = some (qs, S') → PRels S γ imm w xs us → S' = S ∧ Told S qs ∧ PRels S γ imm w qs us
  | [], us, qs, S', h, hp => by
    simp only [gather, RW.run, Option.some.injEq, Prod.mk.injEq] at h
    obtain ⟨rfl, rfl⟩ := h
    exact ⟨rfl, fun j r p0 s hj => by simp at hj, hp⟩
  | (x, none) :: l, us, qs, S', h, hp => by
    simp only [gather] at h
    rw [RW.run_bind] at h
    obtain ⟨⟨l', S1⟩, h1, h2⟩ := Option.bind_eq_some_iff.1 h
    obtain ⟨u, us', rfl, hv, hi, hl⟩ := hp
    obtain ⟨rfl, ht, hp'⟩ := gather_run l us' l' S1 h1 hl
    simp only [RW.run, Option.some.injEq, Prod.mk.injEq] at h2
    obtain ⟨rfl, rfl⟩ := h2
    refine ⟨rfl, fun j r p0 s hj => ?_, ⟨u, us', rfl, hv, fun _ => hi rfl, hp'⟩⟩
    cases j with
    | zero => simp at hj
    | succ j => rw [List.getD_cons_succ] at hj; exact ht j r p0 s hj
  | (x, some (r, p)) :: l, us, qs, S', h, hp => by
    simp only [gather, RW.run] at h
    rw [RW.run_bind] at h
    obtain ⟨⟨l', S1⟩, h1, h2⟩ := Option.bind_eq_some_iff.1 h
    obtain ⟨u, us', rfl, hv, hi, hl⟩ := hp
    obtain ⟨rfl, ht, hp'⟩ := gather_run l us' l' S1 h1 hl
    simp only [RW.run, Option.some.injEq, Prod.mk.injEq] at h2
    obtain ⟨rfl, rfl⟩ := h2
    refine ⟨rfl, fun j r' p0 s hj => ?_, ⟨u, us', rfl, hv, fun e => by simp at e, hp'⟩⟩
    cases j with
    | zero =>
      simp only [List.getD_cons_zero, Option.some.injEq, Prod.mk.injEq] at hj
      obtain ⟨rfl, rfl, rfl⟩ := hj
      exact ⟨rfl, trivial⟩
    | succ j => rw [List.getD_cons_succ] at hj; exact ht j r' p0 s hj

theorem putB_run {qs : List Pass} {Sc : Subs} : ∀ (l : List Pass) (j : Nat) (S S' : Subs), (putB qs Sc l j).run S = some ((), S') → (roots l).Nodup → ∀ r, sub S' r = match who l j r with
    | some (j, p0, s) => subOut p0 (φout qs Sc) s (sub Sc j)
    | none => sub S r
  | [], j, S, S', h, hnd, r => by
    simp only [putB, RW.run, Option.some.injEq, Prod.mk.injEq, true_and] at h
    subst h; rfl
  | (x, none) :: l, j, S, S', h, hnd, r => by
    simp only [putB] at h
    rw [putB_run l (j + 1) S S' h hnd r]
    rfl
  | (x, some (r0, p, s)) :: l, j, S, S', h, hnd, r => by
    simp only [putB, RW.run] at h
    split at h
    · rename_i hlt
      simp only [roots, List.nodup_cons] at hnd
      rw [putB_run l (j + 1) _ S' h hnd.2 r]
      simp only [who]
      by_cases e : r0 = r
      · subst e
        have hw : who l (j + 1) r0 = none := by
          cases hw : who l (j + 1) r0 with
          | none => rfl
          | some y =>
            obtain ⟨j', p', s'⟩ := y
            exact (hnd.1 (mem_roots (who_some hw).2)).elim
        rw [hw, if_pos rfl]
        simp only [sub_set S r0 _ hlt, if_true]
      · rw [if_neg e]
        split
        · rfl
        · rw [sub_set S r0 _ hlt, if_neg e]
    · cases h

theorem args_in {S : Subs} {γ : Gh} {imm : Nat → Prop} {w : World} {qs : List Pass} (ht : Told S qs) : ∀ (l : List Pass) (us : List Value), PRels S γ imm w l us →
    VRels (subsIn qs) (γin S γ qs) imm w (l.map fun x => match x.2 with
      | some _ => ren (φin qs) x.1
      | none => x.1) us
  | [], us, h => by simpa [VRels, PRels] using h
  | (x, o) :: l, us, h => by
    obtain ⟨u, us', rfl, hv, hi, hl⟩ := h
    refine ⟨u, us', rfl, ?_, args_in ht l us' hl⟩
    cases o with
    | none => exact VRel_of_IRel _ _ (hi rfl)
    | some y => exact VRel_ren (in_ren ht) (fun _ x => x) (Keeps.refl _ _) _ _ hv

theorem sub_take (S : Subs) (n r : Nat) : sub (S.take n) r = if r < n then sub S r else [] := by
  unfold sub
  by_cases h : r < n
  · simp [List.getD_eq_getElem?_getD, List.getElem?_take, h]
  · simp [List.getD_eq_getElem?_getD, List.getElem?_take, h]
theorem getD_lt {qs : List Pass} {j : Nat} {y : Nat × List Nat × Sub} (h : (qs.getD j (.dead, none)).2 = some y) : j < qs.length := by
  rcases Nat.lt_or_ge j qs.length with hl | hl
  · exact hl
  · simp [List.getD_eq_getElem?_getD, List.getElem?_eq_none hl] at h
theorem φout_take (qs : List Pass) (S : Subs) : φout qs (S.take (subsIn qs).length) = φout qs S := by
  funext j q v
  unfold φout
  split
  · rename_i r p0 s hj
    have hl : j < (subsIn qs).length := by simpa [subsIn] using getD_lt hj
    have e : live (S.take (subsIn qs).length) j q v = live S j q v := by simp only [live, sub_take, hl, if_true]
    rw [e]
  · rfl
theorem aCall_good {P : Program} {G : Gl} {f : FuncId} {F : FnA} (hF : FnOk P G f F) {C : Ctx} {S : Subs} {γ : Gh} {imm : Nat → Prop} {w : World} (h : Inv C S γ imm w) (hG : GOk G imm w) {md : List Bool} {args : List AV} {vals : List Value} (hv : VRels S γ imm w args vals)
    {x : AV} {S' : Subs} (hr : (aCall F md args).run S = some (x, S')) :
    Calls P f vals.toArray w fun e w' => ∃ u, e = .returned u ∧ To C S γ imm w S' w' (fun γ' imm' => VRel S' γ' imm' w' x u) := by
  unfold aCall at hr
  rw [RW.run_bind] at hr
  obtain ⟨⟨xs, S1⟩, h1, h2⟩ := Option.bind_eq_some_iff.1 hr
  rw [RW.run_bind] at h2
  obtain ⟨⟨qs, S2⟩, h3, h4⟩ := Option.bind_eq_some_iff.1 h2
  obtain ⟨γ1, imm1, hi1, he1, hm1, hk1, hp1⟩ := prepA_good args md vals S γ imm h hv xs S1 h1
  obtain ⟨rfl, ht, hp2⟩ := gather_run xs vals qs S2 h3 hp1
  simp only at h4
  split at h4
  · rename_i hnd
    split at h4
    · rename_i res Sc hFr
      rw [RW.run_bind] at h4
      obtain ⟨⟨_, S3⟩, h5, h6⟩ := Option.bind_eq_some_iff.1 h4
      simp only [RW.run, Option.some.injEq, Prod.mk.injEq] at h6
      obtain ⟨rfl, rfl⟩ := h6
      have hb := putB_run qs 0 _ _ h5 hnd
      have hin := in_inv hi1 ht hnd
      have hc := hF _ _ _ _ hFr (fun r p => subsIn_ctr qs r p) (CtxIn S2 γ1 imm1 w qs) (γin S2 γ1 qs) vals ⟨hG.mono hm1 hk1⟩ hin (args_in ht qs vals hp2)
      refine hc.mono ?_
      rintro e w' ⟨u, Sd, rfl, rfl, hto⟩
      have hb2 : ∀ r, sub S3 r = backSub qs Sd S2 r := by
        intro r
        rw [hb r, backSub, φout_take]
        cases hw : who qs 0 r with
        | some y =>
          obtain ⟨j, p0, s⟩ := y
          obtain ⟨_, hj⟩ := who_some hw
          simp only [Nat.sub_zero] at hj
          have hl : j < (subsIn qs).length := by simpa [subsIn] using getD_lt hj
          simp only [sub_take, hl, if_true]
        | none => rfl
      obtain ⟨γ', imm', k1, k2, k3, k4, k5⟩ := out_to hi1 ht hnd hto (S' := S3) hb2 (R' := fun γ' imm' => VRel S3 γ' imm' w' res u) (fun _ _ _ hx => VRel_of_IRel _ _ hx)
      exact ⟨u, rfl, γ', imm', k1, he1.trans k2, fun b hb => k3 b (hm1 b hb), Keeps.trans hm1 hk1 k4, k5⟩
    · simp [RW.run] at h4
  · simp [RW.run] at h4
end Go.Proofs.YtmekfllddifglaaDoor.AM

/- The abstract machine, part y: operations that call; what operations look at and reach. Conditions: none. -/
set_option linter.unusedVariables false
set_option linter.unusedSimpArgs false
namespace Go.Proofs.YtmekfllddifglaaDoor.AM
open Go

/-- Of each function: which arguments it is lent; what it does. -/
abbrev Tbl := FuncId → Option (List Bool × FnA)
def enters (P : Program) (f : FuncId) : Bool := match P.funcs[f]? with
  | some fn => fn.name != "runtime.NumGoroutine" && fn.body.isSome
  | none => false
def TblOk (P : Program) (G : Gl) (T : Tbl) : Prop := ∀ f md F, T f = some (md, F) → enters P f = true ∧ FnOk P G f F

def carry (P : Program) (T : Tbl) : Carry := fun d o ρ => match o.op with
  | .call c => (match c.callee with
    | .value f => (match ρ f with
      | .clo g first caps => (match T g with
        | some (md, F) => aCall F md (first ++ (c.args.toList.map ρ ++ caps))
        | none => .fail)
      | _ => .fail)
    | _ => aop P d o ρ)
  | _ => aop P d o ρ

theorem run_enter {P : Program} {f : FuncId} (h : enters P f = true) (args : Array Value) (w : World) : (callFunc f args).run P w = .ok (.enter f args) w := by
  unfold enters at h
  split at h
  · rename_i fn hf
    simp only [Bool.and_eq_true, bne_iff_ne, ne_eq] at h
    obtain ⟨c, hc⟩ := Option.isSome_iff_exists.1 h.2
    simp [callFunc, hf, h.1, hc]
  · cases h

theorem carry_ok {P : Program} {G : Gl} {T : Tbl} (hT : TblOk P G T) : CarryOk P G (carry P T) := by
  intro C S γ imm w h hG d o ρ η hρ x S' hr
  have plain : (aop P d o ρ).run S = some (x, S') → (∃ u w', Outs P (execOp η o) w u w' ∧ To C S γ imm w S' w' (fun γ' imm' => VRel S' γ' imm' w' x u)) := fun hr => aop_good h d o hρ x S' hr
  have nd : (aop P d o ρ).run S = some (x, S') → ∀ c, o.op ≠ .defer c := by
    intro hr c e
    simp [aop, e, RW.run] at hr
  unfold carry at hr
  split at hr
  · rename_i c hc
    split at hr
    · rename_i f hf
      split at hr
      · rename_i g first caps hg
        split at hr
        · rename_i md F hTg
          obtain ⟨he, hok⟩ := hT g md F hTg
          refine ⟨fun c' e => (by rw [hc] at e; cases e), .inr (.inl ?_)⟩
          have hv := hρ f
          rw [hg] at hv
          obtain ⟨us, vs, hu, h1, h2⟩ := hv
          have hargs : VRels S γ imm w (c.args.toList.map ρ) (c.args.toList.map η) := VRels_map hρ _
          have hall := VRels_append h1 (VRels_append hargs h2)
          refine ⟨g, (us ++ (c.args.toList.map η ++ vs)).toArray, w, ?_, aCall_good hok h hG hall hr⟩
          have harr : us.toArray ++ Array.map η c.args ++ vs.toArray = (us ++ (c.args.toList.map η ++ vs)).toArray := by
            apply Array.toList_inj.1
            simp
          simp [execOp, hc, resolve, hf, hu, Deferred.ofValue, invoke, run_enter he, harr]
        · simp [RW.run] at hr
      · simp [RW.run] at hr
    · exact ⟨nd hr, .inl (plain hr)⟩
  · exact ⟨nd hr, .inl (plain hr)⟩

/-! ### What is looked at -/
theorem aStill_congr {P : Program} {o : Oper} (hs : ∀ cs b, o.op ≠ .select cs b) {ρ ρ' : Operand → AV} (h : ∀ x ∈ o.op.operands, ρ x = ρ' x) : aStill P o ρ = aStill P o ρ' := by
  unfold aStill
  have h1 : o.op.operands.all (fun x => (conc (ρ x)).isSome) = o.op.operands.all (fun x => (conc (ρ' x)).isSome) := by
    rw [Bool.eq_iff_iff, Array.all_eq_true_iff_forall_mem, Array.all_eq_true_iff_forall_mem]
    exact ⟨fun k x hx => by rw [← h x hx]; exact k x hx, fun k x hx => by rw [h x hx]; exact k x hx⟩
  have h2 : execOp (fun x => (conc (ρ x)).getD undef) o = execOp (fun x => (conc (ρ' x)).getD undef) o := execOp_congr o hs fun x hx => by rw [h x hx]
  rw [h1, h2]
theorem map_loc {α β γ : Type} (l : List α) (f : α → β) {g g' : β → γ} (h : ∀ x ∈ l, g (f x) = g' (f x)) : (l.map fun x => g (f x)) = l.map fun x => g' (f x) := List.map_congr_left h
theorem omap_loc {α β : Type} (l : Option α) {g g' : α → β} (h : ∀ x ∈ l.toArray, g x = g' x) : l.map g = l.map g' := by
  cases l with
  | none => rfl
  | some x => simp [h x (by simp)]

theorem carry_loc {P : Program} {T : Tbl} : CarryLoc (carry P T) := by
  intro d o ρ ρ' h
  have ha : aop P d o ρ = aop P d o ρ' := by
    have hst : (∀ cs b, o.op ≠ .select cs b) → aStill P o ρ = aStill P o ρ' := fun hs => aStill_congr hs h
    unfold aop
    cases ho : o.op with
    | call c =>
      rw [ho] at h
      have hargs : ∀ x ∈ c.args, ρ x = ρ' x := fun x hx => h x (by simp [Op.operands, Call.operands, hx])
      have hs := hst (by simp [ho])
      simp only [aBuiltin]
      rw [hs]
      cases hc : c.callee with
      | builtin b =>
        cases b with
        | append =>
          cases e1 : c.args.toList with
          | nil => rfl
          | cons s l =>
            cases l with
            | nil => rfl
            | cons x l =>
              have q1 := hargs s (by rw [← Array.mem_toList_iff, e1]; simp)
              have q2 := hargs x (by rw [← Array.mem_toList_iff, e1]; simp)
              generalize c.argTypes.toList = ts
              rcases ts with _ | ⟨t, _ | ⟨t', _ | ⟨_, _⟩⟩⟩ <;> cases l <;> first | rfl | simp only [q1, q2]
        | len =>
          cases e1 : c.args.toList with
          | nil => rfl
          | cons s l =>
            have q1 := hargs s (by rw [← Array.mem_toList_iff, e1]; simp)
            generalize c.argTypes.toList = ts
            rcases ts with _ | ⟨t, _ | ⟨t', ts⟩⟩ <;> cases l <;> first | rfl | simp only [q1]
        | _ => rfl
      | _ => rfl
    | select cs b => rfl
    | makeMap t n => cases n <;> rfl
    | build t ps =>
      rw [ho] at h
      simp only []
      congr 1
      exact List.map_congr_left fun q hq => by rw [h q.2 (by simp [Op.operands]; exact ⟨q.1, by simpa using hq⟩)]
    | buildSlice t n ps =>
      rw [ho] at h
      simp only []
      congr 1
      exact List.map_congr_left fun q hq => by rw [h q.2 (by simp [Op.operands]; exact ⟨q.1, by simpa using hq⟩)]
    | makeFunc fn a b =>
      rw [ho] at h
      have h1 : a.toList.map ρ = a.toList.map ρ' := List.map_congr_left fun q hq => h q (by simp [Op.operands]; exact .inl (by simpa using hq))
      have h2 : b.toList.map ρ = b.toList.map ρ' := List.map_congr_left fun q hq => h q (by simp [Op.operands]; exact .inr (by simpa using hq))
      cases fn <;> simp only [h1, h2]
    | slice t x lo hi mx =>
      have hs := hst (by simp [ho])
      rw [ho] at h
      have h0 := h x (by simp [Op.operands])
      have h1 := omap_loc lo (g := ρ) (g' := ρ') fun y hy => h y (by simp [Op.operands]; simp at hy; exact .inr (.inl hy))
      have h2 := omap_loc hi (g := ρ) (g' := ρ') fun y hy => h y (by simp [Op.operands]; simp at hy; exact .inr (.inr (.inl hy)))
      have h3 := omap_loc mx (g := ρ) (g' := ρ') fun y hy => h y (by simp [Op.operands]; simp at hy; exact .inr (.inr (.inr hy)))
      simp only [h0, h1, h2, h3, hs]
    | _ =>
      try have hs := hst (by simp [ho])
      try rfl
      try (simp only [ho, Op.operands, List.mem_toArray, List.mem_cons, List.not_mem_nil, or_false, forall_eq_or_imp, forall_eq] at h; simp only [h, hs])
  unfold carry
  cases ho : o.op with
  | call c =>
    rw [ho] at h
    simp only []
    cases hc : c.callee with
    | value f =>
      simp only []
      have hf := h f (by simp [Op.operands, Call.operands, hc])
      have hargs : c.args.toList.map ρ = c.args.toList.map ρ' := List.map_congr_left fun x hx => h x (by simp [Op.operands, Call.operands]; exact .inr (by simpa using hx))
      rw [hf, hargs]
    | _ => exact ha
  | _ => exact ha
end Go.Proofs.YtmekfllddifglaaDoor.AM

/- The abstract machine, part z: a function. Conditions: none. -/
set_option linter.unusedVariables false
set_option linter.unusedSimpArgs false
namespace Go.Proofs.YtmekfllddifglaaDoor.AM
open Go

/-! ### What is only looked at -/
/-- It writes nothing. -/
inductive RO {α : Type} : RW α → Prop
  | ret (a : α) : RO (.ret a)
  | fail : RO .fail
  | get (r : Nat) (k : Sub → RW α) (h : ∀ s, RO (k s)) : RO (.get r k)
theorem RO.reach {α : Type} {m : RW α} (h : RO m) (S : Subs) : (m.reach S).2 = [] := by
  induction h with
  | ret a => rfl
  | fail => rfl
  | get r k _ ih => simp only [RW.reach]; exact ih _
theorem RO.bind {α β : Type} {m : RW α} {f : α → RW β} (h : RO m) (hf : ∀ x, RO (f x)) : RO (m.bind f) := by
  induction h with
  | ret a => exact hf a
  | fail => exact .fail
  | get r k _ ih => exact .get r _ ih
theorem RO.ofO {α : Type} (x : Option α) : RO (RW.ofO x) := by cases x; exact .fail; exact .ret _
theorem ofO_reach {α : Type} (x : Option α) (S : Subs) : (RW.ofO x).reach S = ([], []) := by cases x <;> rfl

theorem isLive_ro (x : AV) : RO (isLive x) := by
  unfold isLive
  split <;> first
    | exact .ret _
    | exact .fail
    | (refine .get _ _ fun s => ?_; split <;> first | exact .ret _ | exact .fail)
theorem rdP_ro (x : AV) : RO (rdP x) := by
  unfold rdP
  split <;> first
    | exact .ret _
    | exact .fail
    | (refine .get _ _ fun s => ?_; split <;> first | exact .ret _ | exact .fail)
theorem load_ro (P : Program) (t : TypeId) (x : AV) : RO (aLoad P t x) := RO.bind (rdP_ro x) fun _ => RO.ofO _
theorem nilEq_ro (x : AV) (y : Value) : RO (nilEq x y) := by
  unfold nilEq
  split <;> first
    | exact .ret _
    | exact .fail
    | exact RO.bind (isLive_ro _) fun _ => .ret _
    | (refine .get _ _ fun s => ?_; split <;> first | exact .ret _ | exact .fail)
theorem nilCheck_ro (x : AV) : RO (aNilCheck x) := by
  unfold aNilCheck
  split <;> first
    | exact .ret _
    | exact .fail
    | exact RO.bind (isLive_ro _) fun _ => .ret _
theorem bin_ro (P : Program) (op : BinOp) (t : TypeId) (x y : AV) : RO (aBin P op t x y) := by
  unfold aBin
  repeat' split
  all_goals first
    | exact .fail
    | exact RO.bind (nilEq_ro _ _) fun _ => .ret _
theorem field_ro (P : Program) (s : TypeId) (f : Nat) (x : AV) : RO (aField P s f x) := RO.bind (isLive_ro x) fun _ => RO.ofO _
theorem index_ro (P : Program) (t : TypeId) (x i : AV) : RO (aIndex P t x i) := by
  unfold aIndex
  repeat' split
  all_goals first
    | exact .fail
    | exact .ret _
    | exact RO.bind (isLive_ro _) fun _ => RO.ofO _
    | (refine .get _ _ fun s => ?_; repeat' split) <;> first | exact .ret _ | exact .fail
theorem slice_ro (P : Program) (t : TypeId) (x : AV) (lo hi mx : Option AV) : RO (aSlice P t x lo hi mx) := by
  unfold aSlice
  repeat' split
  all_goals first
    | exact .fail
    | exact .ret _
    | (refine .get _ _ fun s => ?_; repeat' split) <;> first | exact .ret _ | exact .fail
theorem len_ro (P : Program) (t : TypeId) (x : AV) : RO (aLen P t x) := by
  unfold aLen
  repeat' split
  all_goals first
    | exact .fail
    | exact .ret _
    | exact RO.bind (isLive_ro _) fun _ => .ret _

theorem elems_ro (sz : Nat) (x : AV) : RO (elemsRW sz x) := by
  unfold elemsRW
  split
  · refine RO.get _ _ fun s => ?_
    split
    · split <;> constructor
    · constructor
  all_goals first | (split <;> constructor) | constructor
theorem bytesStr_ro (P : Program) (a b : TypeId) (x : AV) : RO (aBytesStr P a b x) := by
  unfold aBytesStr
  split
  · split
    · exact RO.bind (elems_ro _ _) fun _ => RO.ofO _
    · constructor
  · constructor
theorem lookup_ro (P : Program) (t : TypeId) (x k : AV) (ok : Bool) : RO (aLookup P t x k ok) := by
  unfold aLookup
  split
  · constructor
  · split
    · constructor
    · split
      · split
        · refine RO.get _ _ fun s => ?_
          split
          · split
            · constructor
            · exact RO.ofO _
            · constructor
          · constructor
        · exact RO.ofO _
        · constructor
      · constructor
theorem carry_cls {P : Program} {T : Tbl} : CarryCls (carry P T) := by
  intro d o ρ S
  cases ho : o.op with
  | call c =>
    cases hc : c.callee with
    | builtin b =>
      have e : carry P T d o ρ = aBuiltin P d o c ρ := by simp only [carry, ho, hc, aop]
      rw [e]
      cases b <;> simp only [opCls, hc, aBuiltin]
      all_goals refine ⟨fun h => ?_, fun h => ?_⟩ <;> first
        | exact ofO_reach _ _
        | (exfalso; revert h; decide)
        | (cases h; done)
        | (generalize c.args.toList = as
           generalize c.argTypes.toList = ts
           rcases as with _ | ⟨a, _ | ⟨_, _⟩⟩ <;> rcases ts with _ | ⟨t, _ | ⟨_, _⟩⟩ <;> first
             | rfl
             | (simp only []
                split
                · rw [ofO_reach]
                · exact (len_ro _ _ _).reach S))
        | skip
    | _ => simp [opCls, hc]
  | load t x =>
    have e : carry P T d o ρ = aLoad P t (ρ x) := by simp only [carry, ho, aop]
    rw [e]; exact ⟨fun h => by simp [opCls] at h, fun _ => (load_ro _ _ _).reach S⟩
  | nilCheck x =>
    have e : carry P T d o ρ = aNilCheck (ρ x) := by simp only [carry, ho, aop]
    rw [e]; exact ⟨fun h => by simp [opCls] at h, fun _ => (nilCheck_ro _).reach S⟩
  | binOp op t x y g =>
    refine ⟨fun h => by simp [opCls] at h, fun _ => ?_⟩
    simp only [carry, ho, aop]
    split
    · rw [ofO_reach]
    · exact (bin_ro _ _ _ _ _).reach S
  | fieldAddr t x f =>
    have e : carry P T d o ρ = aField P t f (ρ x) := by simp only [carry, ho, aop]
    rw [e]; exact ⟨fun h => by simp [opCls] at h, fun _ => (field_ro _ _ _ _).reach S⟩
  | indexAddr t x i =>
    have e : carry P T d o ρ = aIndex P t (ρ x) (ρ i) := by simp only [carry, ho, aop]
    rw [e]; exact ⟨fun h => by simp [opCls] at h, fun _ => (index_ro _ _ _ _).reach S⟩
  | slice t x lo hi mx =>
    refine ⟨fun h => by simp [opCls] at h, fun _ => ?_⟩
    simp only [carry, ho, aop]
    split
    · rw [ofO_reach]
    · exact (slice_ro _ _ _ _ _ _).reach S
  | move x => exact ⟨fun _ => by simp only [carry, ho, aop]; rfl, fun h => by simp [opCls] at h⟩
  | pick c a b => exact ⟨fun _ => by simp only [carry, ho, aop]; split <;> rfl, fun h => by simp [opCls] at h⟩
  | makeInterface t x => exact ⟨fun _ => by simp only [carry, ho, aop]; split <;> rfl, fun h => by simp [opCls] at h⟩
  | makeFunc f a b => exact ⟨fun _ => by cases f <;> simp only [carry, ho, aop] <;> rfl, fun h => by simp [opCls] at h⟩
  | field t x f => exact ⟨fun _ => by simp only [carry, ho, aop]; exact ofO_reach _ _, fun h => by simp [opCls] at h⟩
  | index t x i => exact ⟨fun _ => by simp only [carry, ho, aop]; split <;> exact ofO_reach _ _, fun h => by simp [opCls] at h⟩
  | extract x i => exact ⟨fun _ => by simp only [carry, ho, aop]; split <;> first | exact ofO_reach _ _ | rfl, fun h => by simp [opCls] at h⟩
  | typeAssert x t a ok => exact ⟨fun _ => by simp only [carry, ho, aop]; split <;> exact ofO_reach _ _, fun h => by simp [opCls] at h⟩
  | unOp op t x => exact ⟨fun _ => by simp only [carry, ho, aop]; exact ofO_reach _ _, fun h => by simp [opCls] at h⟩
  | convert a b x =>
    refine ⟨fun h => by simp [opCls] at h, fun _ => ?_⟩
    simp only [carry, ho, aop]
    split
    · rw [ofO_reach]
    · exact (bytesStr_ro _ _ _ _).reach S
  | lookup t x k ok =>
    have e : carry P T d o ρ = aLookup P t (ρ x) (ρ k) ok := by simp only [carry, ho, aop]
    rw [e]; exact ⟨fun h => by simp [opCls] at h, fun _ => (lookup_ro _ _ _ _ _).reach S⟩
  | _ => exact ⟨fun h => by simp [opCls] at h, fun h => by simp [opCls] at h⟩
end Go.Proofs.YtmekfllddifglaaDoor.AM
