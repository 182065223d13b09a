/- The relax seat: Me, Mf, Mg, Mh. Conditions: none. -/
import Derived.Test.YtmekfllddifglaaDoorP01
import Derived.Laws.OwnMore
import Derived.Laws.Tables
import Derived.Great.BuildSlice
import Derived.Maps.AppendAt
import Derived.Lib.AppendStr
set_option linter.unusedVariables false
set_option linter.unusedSimpArgs false
/- The abstract machine, part e: what is handed on (frozen), moved, stored, laid. Conditions: none. -/
namespace Go.Proofs.YtmekfllddifglaaDoor.AM
open Go

/-- An abstract program, and what it leads to in a world that stays. -/
def GoodW {α : Type} (C : Ctx) (S : Subs) (γ : Gh) (imm : Nat → Prop) (w : World) (m : RW α) (R : α → Subs → Gh → (Nat → Prop) → Prop) : Prop :=
  ∀ x S', m.run S = some (x, S') → To C S γ imm w S' w (fun γ' imm' => R x S' γ' imm')

theorem GoodW.bind {α β : Type} {C : Ctx} {S : Subs} {γ : Gh} {imm : Nat → Prop} {w : World} {m : RW α} {f : α → RW β} {R : α → Subs → Gh → (Nat → Prop) → Prop} {R' : β → Subs → Gh → (Nat → Prop) → Prop}
    (h : GoodW C S γ imm w m R)
    (k : ∀ x S' γ' imm', Inv C S' γ' imm' w → Ext S γ S' γ' → (∀ b, imm b → imm' b) → R x S' γ' imm' → GoodW C S' γ' imm' w (f x) R') : GoodW C S γ imm w (m.bind f) R' := by
  intro y S2 hr
  rw [RW.run_bind] at hr
  obtain ⟨⟨x, S1⟩, h1, h2⟩ := Option.bind_eq_some_iff.1 hr
  exact To.bind (h x S1 h1) fun γ' imm' hi he hm _ hx => k x S1 γ' imm' hi he hm hx y S2 h2

theorem Keeps.refl (imm : Nat → Prop) (w : World) : Keeps imm w w := ⟨fun _ _ => rfl⟩

def mapRW {α β : Type} (f : α → RW β) : List α → RW (List β)
  | [] => .ret []
  | x :: l => (f x).bind fun y => (mapRW f l).bind fun ys => .ret (y :: ys)

theorem GoodW.ret {α : Type} {C : Ctx} {S : Subs} {γ : Gh} {imm : Nat → Prop} {w : World} {R : α → Subs → Gh → (Nat → Prop) → Prop} (h : Inv C S γ imm w) {x : α} (hx : R x S γ imm) : GoodW C S γ imm w (.ret x) R := by
  intro y S' hr
  simp only [RW.run, Option.some.injEq, Prod.mk.injEq] at hr
  obtain ⟨rfl, rfl⟩ := hr
  exact To.stay h hx
theorem GoodW.fail {α : Type} {C : Ctx} {S : Subs} {γ : Gh} {imm : Nat → Prop} {w : World} {R : α → Subs → Gh → (Nat → Prop) → Prop} : GoodW C S γ imm w (.fail : RW α) R := by
  intro y S' hr; simp [RW.run] at hr
theorem GoodW.get {α : Type} {C : Ctx} {S : Subs} {γ : Gh} {imm : Nat → Prop} {w : World} {R : α → Subs → Gh → (Nat → Prop) → Prop} {r : Nat} {k : Sub → RW α} (h : GoodW C S γ imm w (k (sub S r)) R) : GoodW C S γ imm w (.get r k) R := by
  intro y S' hr
  exact h y S' (by simpa [RW.run] using hr)

/-! ### Publishing -/
def freeze (s : Sub) (p : List Nat) (ver : Nat) (o : Ob) : Sub := s.put p (ver, some o)

/-- A nil slice is told as any other. -/
def canV : Value → AV
  | .slice none 0 0 => .sl true []
  | x => .v x
theorem canV_ok {imm : Nat → Prop} {w : World} (x : Value) : IRel imm w (canV x) x := by
  unfold canV
  split
  · exact ⟨none, 0, 0, rfl, rfl, Nat.le_refl _, by simp, fun _ => ⟨rfl, rfl, rfl⟩, by simp⟩
  · rfl
def pub : Nat → AV → RW AV
  | 0, _ => .fail
  | n + 1, x => match x with
    | .v y => .ret (canV y)
    | .sl nl l => .ret (.sl nl l)
    | .ref l => .ret (.ref l)
    | .agg l => (mapRW (pub n) l).bind fun l' => .ret (.agg l')
    | .tup l => (mapRW (pub n) l).bind fun l' => .ret (.tup l')
    | .ifc t y => (pub n y).bind fun y' => .ret (.ifc t y')
    | .clo f fs cs => (mapRW (pub n) fs).bind fun fs' => (mapRW (pub n) cs).bind fun cs' => .ret (.clo f fs' cs')
    | .own r p ver lo hi => .get r fun s => match s.live p ver with
      | some (.arr nl _ sz e el) => .put r (s.put p (ver, some (.arr nl true sz e el))) (.ret (.sl nl ((el.take hi).drop lo)))
      | _ => .fail
    | .elt r p ver i off => .get r fun s => match s.live p ver with
      | some (.arr nl _ sz e el) => .put r (s.put p (ver, some (.arr nl true sz e el))) (.ret (.ref ((cellsOf (el.getD i .dead)).drop off)))
      | _ => .fail
    | .loc r p ver off => .get r fun s => match s.live p ver with
      | some (.box _ cells) => (mapRW (pub n) cells).bind fun cells' => .get r fun s' => match s'.live p ver with
        | some (.box _ _) => .put r (s'.put p (ver, some (.box true cells'))) (.ret (.ref (cells'.drop off)))
        | _ => .fail
      | _ => .fail
    | _ => .fail

theorem mapRW_good {C : Ctx} {w : World} {f : AV → RW AV} (hf : ∀ (S : Subs) (γ : Gh) (imm : Nat → Prop), Inv C S γ imm w → ∀ x u, VRel S γ imm w x u → GoodW C S γ imm w (f x) (fun y _ _ imm' => IRel imm' w y u)) :
    ∀ (l : List AV) (us : List Value) (S : Subs) (γ : Gh) (imm : Nat → Prop), Inv C S γ imm w → VRels S γ imm w l us → GoodW C S γ imm w (mapRW f l) (fun y _ _ imm' => IRels imm' w y us)
  | [], us, S, γ, imm, h, hv => GoodW.ret h (by simpa [VRels, IRels] using hv)
  | x :: l, us, S, γ, imm, h, hv => by
    obtain ⟨u, us', rfl, h1, h2⟩ := hv
    refine GoodW.bind (hf S γ imm h x u h1) fun y S1 γ1 imm1 hi1 he1 hm1 hy => ?_
    refine GoodW.bind (mapRW_good hf l us' S1 γ1 imm1 hi1 (VRels_mono he1 hm1 (Keeps.refl _ _) _ _ h2)) fun ys S2 γ2 imm2 hi2 he2 hm2 hys => ?_
    exact GoodW.ret hi2 ⟨u, us', rfl, IRel_mono hm2 (Keeps.refl _ _) _ _ hy, hys⟩

/-- An object can't change any more: its block is handed on. -/
theorem To.freeze {C : Ctx} {S : Subs} {γ : Gh} {imm : Nat → Prop} {w : World} (h : Inv C S γ imm w) {r : Nat} {p : List Nat} {ver : Nat} {o o' : Ob} (hr : r < S.length) (hl : live S r p ver = some o)
    (hs : shp o = shp o') (hf : fzOf o' = true)
    (hO : ∀ imm', (∀ b, imm b → imm' b) → (∀ b, bl (γ r p ver) = some b → imm' b) → ORel (setEnt S r p (ver, some o')) γ imm' w o' (γ r p ver))
    {R : Gh → (Nat → Prop) → Prop} (hR : ∀ imm', (∀ b, imm b → imm' b) → (∀ b, bl (γ r p ver) = some b → imm' b) → R γ imm') :
    To C S γ imm w (setEnt S r p (ver, some o')) w R := by
  have hu : upd γ r p ver (γ r p ver) = γ := by
    funext r' p' ver'
    simp only [upd]
    split
    · rename_i e; obtain ⟨rfl, rfl, rfl⟩ := e; rfl
    · rfl
  have hm : ∀ b, imm b → (imm b ∨ bl (γ r p ver) = some b) := fun b hb => .inl hb
  have hm2 : ∀ b, bl (γ r p ver) = some b → (imm b ∨ bl (γ r p ver) = some b) := fun b hb => .inr hb
  have hext : Ext S γ (setEnt S r p (ver, some o')) γ := by
    have := Ext.put (γ := γ) (g := γ r p ver) (o' := o') hr (.inr ⟨o, hl, hs, rfl⟩)
    rwa [hu] at this
  refine ⟨γ, fun b => imm b ∨ bl (γ r p ver) = some b, ?_, hext, hm, Keeps.refl _ _, hR _ hm hm2⟩
  have := Inv.put (γ := γ) (imm' := fun b => imm b ∨ bl (γ r p ver) = some b) (w' := w) (g := γ r p ver) (o' := o') (fun _ => False) h hr (.inr ⟨o, hl, hs, rfl⟩) rfl rfl rfl (Nat.le_refl _) (fun _ x => x.elim) (fun _ _ _ => rfl) hm ?_ ?_ ?_ ?_
  · rwa [hu] at this
  · intro b hb
    rcases hb with hb | hb
    · exact .inl hb
    · have := h.own _ _ _ _ b hl hb
      exact .inr ⟨this.1, this.2.1⟩
  · rw [hu]; exact hO _ hm hm2
  · intro b hb
    have := h.own _ _ _ _ b hl hb
    exact ⟨this.1, this.2.1, fun x => by rw [hf] at x; cases x⟩
  · intro r1 p1 v1 o1 b h1 hn hb
    have hne : bl (γ r p ver) ≠ some b := fun e => hn (by have := h.inj _ _ _ _ _ _ _ _ b hl h1 e hb; exact ⟨this.1, this.2.1⟩)
    refine ⟨id, fun hf1 hx => ?_, hne⟩
    rcases hx with hx | hx
    · exact (h.own _ _ _ _ b h1 hb).2.2 hf1 hx
    · exact hne hx

theorem GoodW.put {α : Type} {C : Ctx} {S : Subs} {γ : Gh} {imm : Nat → Prop} {w : World} {R : α → Subs → Gh → (Nat → Prop) → Prop} {r : Nat} {s : Sub} {x : α}
    (h : r < S.length → To C S γ imm w (S.set r s) w (fun γ' imm' => R x (S.set r s) γ' imm')) : GoodW C S γ imm w (.put r s (.ret x)) R := by
  intro y S' hr
  simp only [RW.run] at hr
  split at hr
  · rename_i hlt
    simp only [Option.some.injEq, Prod.mk.injEq] at hr
    obtain ⟨rfl, rfl⟩ := hr
    exact h hlt
  · cases hr

theorem IRels_take {imm : Nat → Prop} {w : World} {l : List AV} {us : List Value} (h : IRels imm w l us) (n : Nat) : IRels imm w (l.take n) (us.take n) := by
  induction l generalizing us n with
  | nil => simp only [IRels] at h; subst h; simp [IRels]
  | cons x l ih =>
    obtain ⟨u, us', rfl, h1, h2⟩ := h
    cases n with
    | zero => simp [IRels]
    | succ n => exact ⟨u, us'.take n, by simp, h1, ih h2 n⟩
theorem IRels_drop {imm : Nat → Prop} {w : World} {l : List AV} {us : List Value} (h : IRels imm w l us) (n : Nat) : IRels imm w (l.drop n) (us.drop n) := by
  induction l generalizing us n with
  | nil => simp only [IRels] at h; subst h; simp [IRels]
  | cons x l ih =>
    cases n with
    | zero => simpa using h
    | succ n => obtain ⟨u, us', rfl, h1, h2⟩ := h; simpa using ih h2 n

/-- Cells of a block that can't change, as values that can't. -/
theorem CellsAt_of {imm : Nat → Prop} {w : World} {b : Nat} (hb : imm b) : ∀ (l : List AV) (us : List Value) (o : Nat), IRels imm w l us → (∀ j (hj : j < us.length), w.cell? ⟨b, o + j, none⟩ = some us[j]) → (∀ u ∈ us, u.oneCell' = true) → CellsAt imm w l b o
  | [], us, o, _, _, _ => trivial
  | x :: l, us, o, h, hc, h1 => by
    obtain ⟨u, us', rfl, hx, hl⟩ := h
    refine ⟨⟨hb, u, hc 0 (by simp), h1 u (by simp), hx⟩, CellsAt_of hb l us' (o + 1) hl (fun j hj => ?_) fun v hv => h1 v (by simp [hv])⟩
    have := hc (j + 1) (by simp; omega)
    simpa [Nat.add_assoc, Nat.add_comm 1] using this

theorem flatMap_take {l : List AV} {sz : Nat} (h : ∀ x ∈ l, (cellsOf x).length = sz) (n : Nat) : (l.take n).flatMap cellsOf = (l.flatMap cellsOf).take (n * sz) := by
  induction l generalizing n with
  | nil => simp
  | cons x l ih =>
    cases n with
    | zero => simp
    | succ n =>
      have hx := h x (by simp)
      rw [List.take_succ_cons, List.flatMap_cons, List.flatMap_cons, ih (fun y hy => h y (by simp [hy])), List.take_append, hx]
      rw [List.take_of_length_le (l := cellsOf x) (by rw [hx, Nat.add_mul]; omega), show (n + 1) * sz - sz = n * sz by rw [Nat.add_mul]; omega]
theorem flatMap_drop {l : List AV} {sz : Nat} (h : ∀ x ∈ l, (cellsOf x).length = sz) (n : Nat) : (l.drop n).flatMap cellsOf = (l.flatMap cellsOf).drop (n * sz) := by
  induction l generalizing n with
  | nil => simp
  | cons x l ih =>
    cases n with
    | zero => simp
    | succ n =>
      have hx := h x (by simp)
      rw [List.drop_succ_cons, List.flatMap_cons, ih (fun y hy => h y (by simp [hy])), List.drop_append, hx]
      rw [List.drop_of_length_le (l := cellsOf x) (by rw [hx, Nat.add_mul]; omega), show (n + 1) * sz - sz = n * sz by rw [Nat.add_mul]; omega, List.nil_append]

theorem ownsRow_lens {w : World} {e : TypeId} {sz n : Nat} {g : Value} {xs : List Value} (h : w.ownsRow 0 e sz g n xs) : xs.length = n * sz := h.1

/-- A view of a frozen array, as a slice that can't change. -/
theorem view_pub {S : Subs} {γ : Gh} {imm : Nat → Prop} {w : World} {nl : Bool} {fz : Bool} {sz : Nat} {e : TypeId} {el : List AV} {g : Value} (hO : ORel S γ imm w (.arr nl fz sz e el) g)
    {imm' : Nat → Prop} (hm : ∀ b, imm b → imm' b) (hb : ∀ b, bl g = some b → imm' b) {lo hi : Nat} {u : Value} (hh : HdrAt sz el.length g lo hi u) : IRel imm' w (.sl nl ((el.take hi).drop lo)) u := by
  obtain ⟨xs, ho, hx, hl, h1, hn, _⟩ := hO
  obtain ⟨a, cap, a', rfl, h2, h3, h4, rfl, h5, h6, h7⟩ := hh
  refine ⟨a', hi - lo, cap - lo, rfl, by simp; omega, by omega, fun x hx y hy => by rw [hl x (List.mem_of_mem_take (List.mem_of_mem_drop hx)), hl y (List.mem_of_mem_take (List.mem_of_mem_drop hy))], fun e => ?_, fun e => ?_⟩
  · have hg := hn.1 e
    injection hg with e1 e2 e3
    have hlo : lo = 0 := by omega
    exact ⟨by rw [h5 hlo, e1], by omega, by omega⟩
  · have hcap : a ≠ none := by
      rcases ho.2 with ⟨e1, _⟩ | ⟨b, cap', cur, e1, _⟩
      · have := hn.2 e1; rw [e] at this; cases this
      · injection e1 with e1; rw [e1]; exact fun h => by cases h
    rcases Nat.lt_or_ge lo hi with hlt | hge
    · obtain ⟨b, rfl, rfl⟩ := h6 hlt
      refine ⟨⟨b, lo * sz, none⟩, rfl, fun _ => rfl, ElemsAt_iff.2 ?_⟩
      have hsub : ∀ x ∈ el.take hi, (cellsOf x).length = sz := fun x hx' => hl x (List.mem_of_mem_take hx')
      rw [flatMap_drop hsub, flatMap_take hl]
      refine CellsAt_of (hb b rfl) _ _ _ (IRels_mono hm (Keeps.refl _ _) _ _ (IRels_drop (IRels_take hx (hi * sz)) (lo * sz))) (fun j hj => ?_) fun v hv => h1 v (List.mem_of_mem_take (List.mem_of_mem_drop hv))
      simp only [List.length_drop, List.length_take] at hj
      rw [ownsRow_cell ho (j := lo * sz + j) (by omega)]
      simp
    · obtain rfl : lo = hi := by omega
      rw [List.drop_of_length_le (by simp; omega)]
      rcases ho.2 with ⟨e1, _⟩ | ⟨b, cap', cur, e1, _⟩
      · injection e1 with e1; exact absurd e1 hcap
      · injection e1 with e1
        obtain ⟨o, ho'⟩ := h7 b e1
        exact ⟨_, ho', fun _ => rfl, trivial⟩

/-- What is handed on can't change any more. -/
theorem pub_good {C : Ctx} {w : World} : ∀ (n : Nat) (S : Subs) (γ : Gh) (imm : Nat → Prop), Inv C S γ imm w → ∀ x u, VRel S γ imm w x u → GoodW C S γ imm w (pub n x) (fun y _ _ imm' => IRel imm' w y u)
  | 0, S, γ, imm, h, x, u, hx => GoodW.fail
  | n + 1, S, γ, imm, h, x, u, hx => by
    have ih := mapRW_good (C := C) (w := w) (f := pub n) (fun S γ imm h x u hx => pub_good n S γ imm h x u hx)
    cases x with
    | dead => exact GoodW.fail
    | v y => exact GoodW.ret h (by obtain rfl : u = y := hx; exact canV_ok u)
    | sl nl l => exact GoodW.ret h hx
    | ref l => exact GoodW.ret h hx
    | agg l =>
      obtain ⟨us, rfl, hv⟩ := hx
      exact GoodW.bind (ih l us S γ imm h hv) fun ys S1 γ1 imm1 hi1 _ _ hys => GoodW.ret hi1 ⟨us, rfl, hys⟩
    | tup l =>
      obtain ⟨us, rfl, hv⟩ := hx
      exact GoodW.bind (ih l us S γ imm h hv) fun ys S1 γ1 imm1 hi1 _ _ hys => GoodW.ret hi1 ⟨us, rfl, hys⟩
    | ifc t y =>
      obtain ⟨z, rfl, hv⟩ := hx
      exact GoodW.bind (pub_good n S γ imm h y z hv) fun ys S1 γ1 imm1 hi1 _ _ hys => GoodW.ret hi1 ⟨z, rfl, hys⟩
    | clo f fs cs =>
      obtain ⟨us, vs, rfl, hv1, hv2⟩ := hx
      refine GoodW.bind (ih fs us S γ imm h hv1) fun ys S1 γ1 imm1 hi1 he1 hm1 hys => ?_
      refine GoodW.bind (ih cs vs S1 γ1 imm1 hi1 (VRels_mono he1 hm1 (Keeps.refl _ _) _ _ hv2)) fun zs S2 γ2 imm2 hi2 he2 hm2 hzs => ?_
      exact GoodW.ret hi2 ⟨us, vs, rfl, IRels_mono hm2 (Keeps.refl _ _) _ _ hys, hzs⟩
    | own r p ver lo hi =>
      refine GoodW.get ?_
      split
      · rename_i nl fz sz e el hl
        refine GoodW.put fun hr => ?_
        obtain ⟨_, h2⟩ := hx
        obtain ⟨sz', n', hs, hh⟩ := h2 _ hl
        simp only [shp, Prod.mk.injEq, true_and] at hs
        obtain ⟨rfl, rfl⟩ := hs
        have hO := h.obj r p ver _ hl
        refine To.freeze (o' := .arr nl true sz e el) h hr hl rfl rfl (fun imm' hm hb => ?_) fun imm' hm hb => view_pub hO hm hb hh
        obtain ⟨xs, k1, k2, k3, k4, k5, _⟩ := hO
        exact ⟨xs, k1, IRels_mono hm (Keeps.refl _ _) _ _ k2, k3, k4, k5, fun _ => hb⟩
      · exact GoodW.fail
    | elt r p ver i off =>
      refine GoodW.get ?_
      split
      · rename_i nl fz sz e el hl
        refine GoodW.put fun hr => ?_
        obtain ⟨_, h2⟩ := hx
        obtain ⟨sz', n', b, cap, hs, hi, hg, rfl⟩ := h2 _ hl
        simp only [shp, Prod.mk.injEq, true_and] at hs
        obtain ⟨rfl, rfl⟩ := hs
        have hO := h.obj r p ver _ hl
        obtain ⟨xs, k1, k2, k3, k4, k5, _⟩ := hO
        refine To.freeze (o' := .arr nl true sz e el) h hr hl rfl rfl (fun imm' hm hb => ⟨xs, k1, IRels_mono hm (Keeps.refl _ _) _ _ k2, k3, k4, k5, fun _ => hb⟩) fun imm' hm hb => ?_
        rw [hg] at k1 hb
        refine ⟨b, i * sz + off, rfl, ?_⟩
        have hmm : el.getD i .dead = el[i] := by simp [List.getD_eq_getElem?_getD, hi]
        have hcl := k3 el[i] (List.getElem_mem _)
        rw [hmm]
        have hseg : (cellsOf el[i]).drop off = (((el.drop i).take 1).flatMap cellsOf).drop off := by
          rw [List.drop_eq_getElem_cons hi, List.take_succ_cons, List.take_zero, List.flatMap_cons, List.flatMap_nil, List.append_nil]
        have hsub : ∀ x ∈ el.drop i, (cellsOf x).length = sz := fun x hx' => k3 x (List.mem_of_mem_drop hx')
        rw [hseg, flatMap_take hsub, flatMap_drop k3]
        refine CellsAt_of (hb b rfl) _ _ _ (IRels_mono hm (Keeps.refl _ _) _ _ (IRels_drop (IRels_take (IRels_drop k2 (i * sz)) (1 * sz)) off)) (fun j hj => ?_) fun v hv => k4 v (List.mem_of_mem_drop (List.mem_of_mem_take (List.mem_of_mem_drop hv)))
        simp only [List.length_drop, List.length_take] at hj
        rw [ownsRow_cell k1 (j := i * sz + off + j) (by omega)]
        simp [Nat.add_assoc]
      · exact GoodW.fail
    | loc r p ver off =>
      refine GoodW.get ?_
      split
      · rename_i fz cells hl
        obtain ⟨_, h2⟩ := hx
        obtain ⟨b, hg, rfl⟩ := h2 _ hl
        obtain ⟨b', cs, e, hg', hh, hv, h1, _⟩ := h.obj r p ver _ hl
        rw [hg] at hg'
        obtain rfl : b = b' := by simpa using hg'
        have hctr : ver ≤ ctr S r p := by have := ctr_of_live hl; omega
        refine GoodW.bind (ih cells cs S γ imm h hv) fun ys S1 γ1 imm1 hi1 he1 hm1 hys => ?_
        refine GoodW.get ?_
        split
        · rename_i fz1 cells1 hl1
          refine GoodW.put fun hr => ?_
          obtain ⟨k1, k2⟩ := he1 r p ver hctr
          obtain ⟨o, ho, hs, hg1⟩ := k2 _ hl1
          refine To.freeze (o' := .box true ys) hi1 hr hl1 rfl rfl (fun imm' hm hb => ?_) fun imm' hm hb => ?_
          · refine ⟨b, cs, e, by rw [hg1, hg], hh, VRels_of_IRels _ _ (IRels_mono hm (Keeps.refl _ _) _ _ hys), h1, fun _ => hb b (by rw [hg1, hg]; rfl)⟩
          · refine ⟨b, off, rfl, ?_⟩
            refine CellsAt_of (hb b (by rw [hg1, hg]; rfl)) _ _ _ (IRels_mono hm (Keeps.refl _ _) _ _ (IRels_drop hys off)) (fun j hj => ?_) fun v hv => h1 v (List.mem_of_mem_drop hv)
            simp only [List.length_drop] at hj
            simp [World.cell?, hh]
        · exact GoodW.fail
      · exact GoodW.fail
    | mp r p ver => exact GoodW.fail
    | yld r p ver => exact GoodW.fail
end Go.Proofs.YtmekfllddifglaaDoor.AM

/- The abstract machine, part f: moved, stored, laid. Conditions: none. -/
namespace Go.Proofs.YtmekfllddifglaaDoor.AM
open Go

/-! ### Moving a whole array to another place -/
def mvOb (r : Nat) (p : List Nat) (ver hi : Nat) (r' : Nat) (p' : List Nat) : RW AV :=
  .get r fun s => match s.live p ver with
    | some (.arr nl false sz e el) => .put r (s.put p (ver, none)) (.get r' fun s' => .put r' (s'.put p' ((s'.ent p').1 + 1, some (.arr nl false sz e (el.take hi)))) (.ret (.own r' p' ((s'.ent p').1 + 1) 0 hi)))
    | _ => .fail

theorem ownsRow_take {w : World} {e : TypeId} {sz n cap : Nat} {a : Option Addr} {xs : List Value} (h : w.ownsRow 0 e sz (.slice a n cap) n xs) {m : Nat} (hm : m ≤ n) : w.ownsRow 0 e sz (.slice a m cap) m (xs.take (m * sz)) := by
  have hle : m * sz ≤ n * sz := Nat.mul_le_mul_right _ hm
  refine ⟨by rw [List.length_take, h.1]; omega, ?_⟩
  rcases h.2 with ⟨e1, e2⟩ | ⟨b, cap', cur, e1, hb, hh, h1, h2, h3, h4⟩
  · subst e2
    obtain rfl : m = 0 := by omega
    exact .inl ⟨e1, rfl⟩
  · injection e1 with e1 _ e3
    subst e1; subst e3
    exact .inr ⟨b, cap, cur, rfl, hb, hh, by omega, h2, h3, by rw [← h4, List.take_take, Nat.min_eq_left hle]⟩

theorem mv_good {C : Ctx} {S : Subs} {γ : Gh} {imm : Nat → Prop} {w : World} (h : Inv C S γ imm w) {r : Nat} {p : List Nat} {ver hi : Nat} {u : Value} (hx : VRel S γ imm w (.own r p ver 0 hi) u) (r' : Nat) (p' : List Nat) :
    GoodW C S γ imm w (mvOb r p ver hi r' p') (fun y S' γ' imm' => VRel S' γ' imm' w y u) := by
  intro y S2 hr
  simp only [mvOb, RW.run] at hr
  split at hr
  · rename_i nl sz e el hl
    have hl' : live S r p ver = some (.arr nl false sz e el) := hl
    simp only [RW.run] at hr
    split at hr
    · rename_i hlt
      split at hr
      · rename_i hlt'
        simp only [Option.some.injEq, Prod.mk.injEq] at hr
        obtain ⟨rfl, rfl⟩ := hr
        have hlt2 : r' < (setEnt S r p (ver, none)).length := hlt'
        have hc : ctr S r p = ver := ctr_of_live hl'
        have hd : Inv C (setEnt S r p (ver, none)) γ imm w := Inv.del h hlt (by omega)
        have hed : Ext S γ (setEnt S r p (ver, none)) γ := Ext.del hlt (by omega)
        obtain ⟨_, h2⟩ := hx
        obtain ⟨sz', n', hs, hh⟩ := h2 _ hl'
        simp only [shp, Prod.mk.injEq, true_and] at hs
        obtain ⟨rfl, rfl⟩ := hs
        obtain ⟨a, cap, a', hg, _, h4, h5, rfl, h6, h7, _⟩ := hh
        obtain rfl : a' = a := h6 rfl
        obtain ⟨xs, k1, k2, k3, k4, k5, _⟩ := h.obj r p ver _ hl'
        rw [hg] at k1 k5
        have hbl : ∀ b, bl (.slice a' (hi - 0) (cap - 0)) = some b → bl (γ r p ver) = some b := by
          intro b hb; rw [hg]; cases a' with
          | none => simp [bl] at hb
          | some ad => simpa [bl] using hb
        let o' : Ob := .arr nl false sz e (el.take hi)
        have hlen : (el.take hi).length = hi := by simp; omega
        have hext : Ext (setEnt S r p (ver, none)) γ (setEnt (setEnt S r p (ver, none)) r' p' (ctr (setEnt S r p (ver, none)) r' p' + 1, some o')) (upd γ r' p' (ctr (setEnt S r p (ver, none)) r' p' + 1) (.slice a' (hi - 0) (cap - 0))) := Ext.put hlt2 (.inl rfl)
        have hI := Inv.put (p := p') (γ := γ) (imm' := imm) (w' := w) (g := .slice a' (hi - 0) (cap - 0)) (o' := o') (fun _ => False) hd hlt2 (.inl rfl) rfl rfl rfl (Nat.le_refl _) (fun _ x => x.elim) (fun _ _ _ => rfl) (fun _ x => x) (fun _ x => .inl x) ?_ ?_ ?_
        · refine ⟨_, _, hI, hed.trans hext, fun _ x => x, Keeps.refl _ _, ?_⟩
          refine ⟨?_, fun o ho => ?_⟩
          · rw [show S.set r (Sub.put (sub S r) p (ver, none)) = setEnt S r p (ver, none) from rfl]
            have := ctr_setEnt_same (S := setEnt S r p (ver, none)) (r := r') (p := p') (e := (ctr (setEnt S r p (ver, none)) r' p' + 1, some o')) hlt2
            exact Nat.le_of_eq this.symm
          · have hls := live_setEnt_same (S := setEnt S r p (ver, none)) (r := r') (p := p') (v := ctr (setEnt S r p (ver, none)) r' p' + 1) (ver := ctr (setEnt S r p (ver, none)) r' p' + 1) (o := some o') hlt2
            rw [if_pos rfl] at hls
            have ho2 := hls.symm.trans ho
            simp only [Option.some.injEq] at ho2
            subst ho2
            refine ⟨sz, hi, by simp [shp, o']; omega, a', cap, a', ?_, Nat.zero_le _, Nat.le_refl _, by omega, by simp, fun _ => rfl, fun hlt3 => ?_, fun b e => ⟨0, e⟩⟩
            · exact upd_same _ _ _ _ _
            · exact h7 hlt3
        · have k1' := ownsRow_take k1 h4
          refine ⟨xs.take (hi * sz), ?_, ?_, fun x hx' => k3 x (List.mem_of_mem_take hx'), fun v hv => k4 v (List.mem_of_mem_take hv), ?_, fun e => by cases e⟩
          · rw [hlen]; exact k1'
          · rw [flatMap_take k3]; exact IRels_take k2 _
          · rw [k5]
            constructor
            · intro e1; injection e1 with e1 e2 e3; subst e1; subst e3; simp; omega
            · intro e1
              injection e1 with e1 e2 e3
              subst e1
              rcases k1.2 with ⟨e4, _⟩ | ⟨b, cap', cur, e4, _⟩
              · exact e4
              · injection e4 with e4; cases e4
        · intro b hb
          have := h.own _ _ _ _ b hl' (hbl b hb)
          exact ⟨this.1, this.2.1, this.2.2⟩
        · intro r1 p1 v1 o1 b h1 _ hb
          have hnn : ¬ (r = r1 ∧ p = p1) := by
            rintro ⟨rfl, rfl⟩
            rw [live_setEnt_same hlt] at h1
            split at h1 <;> cases h1
          rw [live_setEnt_other hlt hnn] at h1
          refine ⟨id, (h.own _ _ _ _ b h1 hb).2.2, fun e1 => hnn ?_⟩
          have := h.inj _ _ _ _ _ _ _ _ b hl' h1 (hbl b e1) hb
          exact ⟨this.1, this.2.1⟩
      · cases hr
    · cases hr
  · simp [RW.run] at hr

/-- A value that may lie in a cell, if it leads to nothing that can change. -/
def cellAV : AV → Bool
  | .v x => x.oneCell'
  | .sl _ _ | .ref _ | .ifc _ _ | .clo _ _ _ => true
  | _ => false
theorem cellAV_one {S : Subs} {γ : Gh} {imm : Nat → Prop} {w : World} {x : AV} {u : Value} (hc : cellAV x = true) (hx : VRel S γ imm w x u) : u.oneCell' = true := by
  cases x with
  | v y => cases hx; exact hc
  | sl nl l => obtain ⟨a, n, cap, rfl, _⟩ := hx; rfl
  | ref l => obtain ⟨b, o, rfl, _⟩ := hx; rfl
  | ifc t y => obtain ⟨z, rfl, _⟩ := hx; rfl
  | clo f fs cs => obtain ⟨us, vs, rfl, _⟩ := hx; rfl
  | _ => simp [cellAV] at hc

/-- A value that comes to lie at a place: an array comes with it; what can't be moved is handed on. -/
def settle1 (d : Nat) (p : List Nat) : AV → RW AV
  | .own r q ver lo hi => .get r fun s => match s.live q ver with
    | some (.arr _ false _ _ _) => if ver = 0 then .ret (.own r q ver lo hi) else if lo = 0 then (if r = d ∧ q = p then .ret (.own r q ver lo hi) else mvOb r q ver hi d p) else pub 1 (.own r q ver lo hi)
    | some (.arr _ true _ _ _) => pub 1 (.own r q ver lo hi)
    | _ => .fail
  | .loc r q ver off => .get r fun s => match s.live q ver with
    | some _ => .ret (.loc r q ver off)
    | none => .fail
  | .mp r q ver => .get r fun s => match s.live q ver with
    | some (.map _ _) => .ret (.mp r q ver)
    | _ => .fail
  | x => if cellAV x then .ret x else .fail

theorem own_one {S : Subs} {γ : Gh} {imm : Nat → Prop} {w : World} {r : Nat} {p : List Nat} {ver lo hi : Nat} {u : Value} {o : Ob} (hl : live S r p ver = some o) (hx : VRel S γ imm w (.own r p ver lo hi) u) : u.oneCell' = true := by
  obtain ⟨sz, n, _, a, cap, a', _, _, _, _, rfl, _⟩ := hx.2 o hl
  rfl

theorem settle1_good {C : Ctx} {S : Subs} {γ : Gh} {imm : Nat → Prop} {w : World} (h : Inv C S γ imm w) (d : Nat) (p : List Nat) {x : AV} {u : Value} (hx : VRel S γ imm w x u) :
    GoodW C S γ imm w (settle1 d p x) (fun y S' γ' imm' => VRel S' γ' imm' w y u ∧ u.oneCell' = true) := by
  have hp : ∀ z, VRel S γ imm w z u → u.oneCell' = true → GoodW C S γ imm w (pub 1 z) (fun y S' γ' imm' => VRel S' γ' imm' w y u ∧ u.oneCell' = true) := by
    intro z hz h1 y S' hr
    obtain ⟨γ', imm', k1, h2, h3, h4, h5⟩ := pub_good 1 S γ imm h z u hz y S' hr
    exact ⟨γ', imm', k1, h2, h3, h4, VRel_of_IRel _ _ h5, h1⟩
  have hc : ∀ z, VRel S γ imm w z u → GoodW C S γ imm w (if cellAV z then .ret z else .fail) (fun y S' γ' imm' => VRel S' γ' imm' w y u ∧ u.oneCell' = true) := by
    intro z hz
    split
    · rename_i e; exact GoodW.ret h ⟨hz, cellAV_one e hz⟩
    · exact GoodW.fail
  cases x with
  | own r q ver lo hi =>
    refine GoodW.get ?_
    split
    · rename_i hl
      have h1 := own_one (S := S) hl hx
      split
      · exact GoodW.ret h ⟨hx, h1⟩
      split
      · rename_i e0
        subst e0
        split
        · exact GoodW.ret h ⟨hx, h1⟩
        · intro y S' hr
          obtain ⟨γ', imm', k1, h2, h3, h4, h5⟩ := mv_good h hx d p y S' hr
          exact ⟨γ', imm', k1, h2, h3, h4, h5, h1⟩
      · exact hp _ hx h1
    · rename_i hl
      exact hp _ hx (own_one (S := S) hl hx)
    · exact GoodW.fail
  | mp r q ver =>
    refine GoodW.get ?_
    split
    · rename_i t en hl
      have hO := h.obj r q ver _ hl
      obtain ⟨b, es, clock, hg, _⟩ := hO
      refine GoodW.ret h ⟨hx, ?_⟩
      rw [hx.2 _ hl, hg]; rfl
    · exact GoodW.fail
  | loc r q ver off =>
    refine GoodW.get ?_
    split
    · rename_i o hl
      obtain ⟨b, _, rfl⟩ := hx.2 o hl
      exact GoodW.ret h ⟨hx, rfl⟩
    · exact GoodW.fail
  | _ => exact hc _ hx

def settle (d : Nat) (p : List Nat) : Nat → List AV → RW (List AV)
  | _, [] => .ret []
  | off, x :: xs => (settle1 d (p ++ [off]) x).bind fun y => (settle d p (off + 1) xs).bind fun ys => .ret (y :: ys)

theorem settle_good {C : Ctx} {w : World} (d : Nat) (p : List Nat) : ∀ (l : List AV) (us : List Value) (off : Nat) (S : Subs) (γ : Gh) (imm : Nat → Prop), Inv C S γ imm w → VRels S γ imm w l us →
    GoodW C S γ imm w (settle d p off l) (fun y S' γ' imm' => VRels S' γ' imm' w y us ∧ ∀ u ∈ us, u.oneCell' = true)
  | [], us, off, S, γ, imm, h, hv => GoodW.ret h ⟨hv, by simp only [VRels] at hv; subst hv; simp⟩
  | x :: l, us, off, S, γ, imm, h, hv => by
    obtain ⟨u, us', rfl, h1, h2⟩ := hv
    refine GoodW.bind (settle1_good h d (p ++ [off]) h1) fun y S1 γ1 imm1 hi1 he1 hm1 hy => ?_
    refine GoodW.bind (settle_good d p l us' (off + 1) S1 γ1 imm1 hi1 (VRels_mono he1 hm1 (Keeps.refl _ _) _ _ h2)) fun ys S2 γ2 imm2 hi2 he2 hm2 hys => ?_
    refine GoodW.ret hi2 ⟨⟨u, us', rfl, VRel_mono he2 hm2 (Keeps.refl _ _) _ _ hy.1, hys.1⟩, fun v hv => ?_⟩
    rcases List.mem_cons.1 hv with e | e
    · rw [e]; exact hy.2
    · exact hys.2 v e

/-- The cells of a value. -/
def cellsS : AV → List AV
  | .agg l => l
  | x => [x]
theorem cellsS_ok {S : Subs} {γ : Gh} {imm : Nat → Prop} {w : World} {x : AV} {u : Value} (hx : VRel S γ imm w x u) (h1 : (match x with | .agg _ => false | _ => true) = true → u.oneCell' = true) : VRels S γ imm w (cellsS x) u.cells.toList := by
  cases x with
  | agg l => obtain ⟨us, rfl, hv⟩ := hx; simpa [cellsS, Value.cells] using hv
  | _ =>
    have hc : u.cells = #[u] := by
      have := h1 rfl
      cases u <;> first | rfl | simp [Value.oneCell'] at this
    rw [hc]
    exact ⟨u, [], rfl, hx, rfl⟩
end Go.Proofs.YtmekfllddifglaaDoor.AM

/- The abstract machine, part g: stores, new variables. Conditions: none. -/
namespace Go.Proofs.YtmekfllddifglaaDoor.AM
open Go

theorem upd_self (γ : Gh) (r : Nat) (p : List Nat) (ver : Nat) : upd γ r p ver (γ r p ver) = γ := by
  funext r' p' ver'
  simp only [upd]
  split
  · rename_i e; obtain ⟨rfl, rfl, rfl⟩ := e; rfl
  · rfl

/-- The block of an object that may change is written. -/
theorem To.write {C : Ctx} {S : Subs} {γ : Gh} {imm : Nat → Prop} {w : World} (h : Inv C S γ imm w) {r : Nat} {p : List Nat} {ver : Nat} {o o' : Ob} (hr : r < S.length) (hl : live S r p ver = some o)
    (hs : shp o = shp o') (hf : fzOf o = false) {b : Nat} (hb : bl (γ r p ver) = some b) (new : Array Value)
    (hO : Ext S γ (setEnt S r p (ver, some o')) γ → Keeps imm w (w.setRow b new) → ORel (setEnt S r p (ver, some o')) γ imm (w.setRow b new) o' (γ r p ver))
    {R : Gh → (Nat → Prop) → Prop} (hR : R γ imm) : To C S γ imm w (setEnt S r p (ver, some o')) (w.setRow b new) R := by
  have hext : Ext S γ (setEnt S r p (ver, some o')) γ := by
    have := Ext.put (γ := γ) (g := γ r p ver) (o' := o') hr (.inr ⟨o, hl, hs, rfl⟩)
    rwa [upd_self] at this
  have hown := h.own _ _ _ _ b hl hb
  have hsame : ∀ k, k ≠ b → (w.setRow b new).heap[k]? = w.heap[k]? := fun k hk => setRow_other w b k new hk
  have hk : Keeps imm w (w.setRow b new) := ⟨fun k hk => hsame k fun e => hown.2.2 hf (e ▸ hk)⟩
  refine ⟨γ, imm, ?_, hext, fun _ x => x, hk, hR⟩
  have := Inv.put (p := p) (γ := γ) (imm' := imm) (w' := w.setRow b new) (g := γ r p ver) (o' := o') (fun k => k = b) h hr (.inr ⟨o, hl, hs, rfl⟩) rfl rfl rfl (by simp)
    (fun k e => by subst e; exact ⟨hown.2.1, hown.2.2 hf⟩) (fun k _ hk => hsame k hk) (fun _ x => x) (fun _ x => .inl x) (by rw [upd_self]; exact hO hext hk) ?_ ?_
  · rwa [upd_self] at this
  · intro k hk
    have hkk := h.own _ _ _ _ k hl hk
    exact ⟨by simpa using hkk.1, hkk.2.1, fun _ => hkk.2.2 hf⟩
  · intro r1 p1 v1 o1 k h1 hn hk
    have hne : bl (γ r p ver) ≠ some k := fun e => hn (by have := h.inj _ _ _ _ _ _ _ _ k hl h1 e hk; exact ⟨this.1, this.2.1⟩)
    exact ⟨fun e => hne (by rw [e]; exact hb), (h.own _ _ _ _ k h1 hk).2.2, hne⟩

theorem To.after {C : Ctx} {S S1 S2 : Subs} {γ γ1 : Gh} {imm imm1 : Nat → Prop} {w w1 w2 : World} {R : Gh → (Nat → Prop) → Prop}
    (he : Ext S γ S1 γ1) (hm : ∀ b, imm b → imm1 b) (hk : Keeps imm w w1) (h : To C S1 γ1 imm1 w1 S2 w2 R) : To C S γ imm w S2 w2 R := by
  obtain ⟨γ2, imm2, h1, h2, h3, h4, h5⟩ := h
  exact ⟨γ2, imm2, h1, he.trans h2, fun b hb => h3 b (hm b hb), Keeps.trans hm hk h4, h5⟩

theorem VRels_take {S : Subs} {γ : Gh} {imm : Nat → Prop} {w : World} {l : List AV} {us : List Value} (h : VRels S γ imm w l us) (n : Nat) : VRels S γ imm w (l.take n) (us.take n) := by
  induction l generalizing us n with
  | nil => simp only [VRels] at h; subst h; simp [VRels]
  | cons x l ih =>
    obtain ⟨u, us', rfl, h1, h2⟩ := h
    cases n with
    | zero => simp [VRels]
    | succ n => exact ⟨u, us'.take n, by simp, h1, ih h2 n⟩
theorem VRels_drop {S : Subs} {γ : Gh} {imm : Nat → Prop} {w : World} {l : List AV} {us : List Value} (h : VRels S γ imm w l us) (n : Nat) : VRels S γ imm w (l.drop n) (us.drop n) := by
  induction l generalizing us n with
  | nil => simp only [VRels] at h; subst h; simp [VRels]
  | cons x l ih =>
    cases n with
    | zero => simpa using h
    | succ n => obtain ⟨u, us', rfl, h1, h2⟩ := h; simpa using ih h2 n

/-- The element with some of its cells turned. -/
def setEl (old : AV) (off : Nat) (ys : List AV) : AV :=
  match old with
  | .agg l => .agg (l.take off ++ ys ++ l.drop (off + ys.length))
  | _ => ys.headD .dead

def aStore (P : Program) (t : TypeId) (a x : AV) : RW Unit :=
  match szT P t with
  | none => .fail
  | some n =>
    if (cellsS x).length = n then
      match a with
      | .loc r p ver off => (settle r p off (cellsS x)).bind fun ys => .get r fun s => match s.live p ver with
        | some (.box false cells) => if off + n ≤ cells.length then .put r (s.put p (ver, some (.box false (cells.take off ++ ys ++ cells.drop (off + n))))) (.ret ()) else .fail
        | _ => .fail
      | .elt r p ver i off => (mapRW (pub 4) (cellsS x)).bind fun ys => .get r fun s => match s.live p ver with
        | some (.arr nl false sz e el) => if off + n ≤ sz ∧ ys.all cellAV = true ∧ 0 < n then .put r (s.put p (ver, some (.arr nl false sz e (el.set i (setEl (el.getD i .dead) off ys))))) (.ret ()) else .fail
        | _ => .fail
      | _ => .fail
    else .fail

theorem run_storeVar {P : Program} {t : TypeId} {n : Nat} (hn : szT P t = some n) {w : World} {b o : Nat} {cur : Array Value} {e : TypeId} (hg : w.heap[b]? = some (.cells cur e (0, 0))) {u : Value}
    (hs : u.cells.size = n) (hle : o + n ≤ cur.size) (h1 : ∀ v ∈ u.cells.toList, v.oneCell' = true) :
    (storeVar t ⟨b, o, none⟩ u).run P w = .ok () (w.setRow b (cur.toList.take o ++ u.cells.toList ++ cur.toList.drop (o + n)).toArray) := by
  have hst := run_storeCells_at P b o e u.cells.toList 0 cur w hg (by simp; omega) h1
  simp only [Nat.add_zero, Array.length_toList, hs] at hst
  simp [storeVar, run_sizeOf hn, hs, hst]

theorem cells_of_one {u : Value} (h : u.oneCell' = true) : u.cells = #[u] := by cases u <;> first | rfl | simp [Value.oneCell'] at h

/-- The concrete cells of a value whose abstract cells are known. -/
theorem cellsS_rel {S : Subs} {γ : Gh} {imm : Nat → Prop} {w : World} {x : AV} {u : Value} (hx : VRel S γ imm w x u) : ∃ us : List Value, VRels S γ imm w (cellsS x) us ∧ ((∀ v ∈ us, v.oneCell' = true) → u.cells.toList = us) := by
  cases x with
  | agg l => obtain ⟨us, rfl, hv⟩ := hx; exact ⟨us, hv, fun _ => by simp [Value.cells]⟩
  | _ => exact ⟨[u], ⟨u, [], rfl, hx, rfl⟩, fun h => by rw [cells_of_one (h u (by simp))]⟩

theorem IRels_one {imm : Nat → Prop} {w : World} : ∀ (l : List AV) (us : List Value), IRels imm w l us → l.all cellAV = true → ∀ u ∈ us, u.oneCell' = true
  | [], us, h, _ => by simp only [IRels] at h; subst h; simp
  | x :: l, us, h, hc => by
    obtain ⟨u, us', rfl, h1, h2⟩ := h
    simp only [List.all_cons, Bool.and_eq_true] at hc
    intro v hv
    rcases List.mem_cons.1 hv with e | e
    · rw [e]; exact cellAV_one (S := []) (γ := fun _ _ _ => undef) hc.1 (VRel_of_IRel _ _ h1)
    · exact IRels_one l us' h2 hc.2 v e

theorem flatMap_set {l : List AV} {sz : Nat} (h : ∀ x ∈ l, (cellsOf x).length = sz) (i : Nat) (hi : i < l.length) (y : AV) :
    (l.set i y).flatMap cellsOf = (l.flatMap cellsOf).take (i * sz) ++ cellsOf y ++ (l.flatMap cellsOf).drop (i * sz + sz) := by
  have e : l.set i y = l.take i ++ y :: l.drop (i + 1) := by rw [List.set_eq_take_append_cons_drop, if_pos hi]
  rw [e, List.flatMap_append, List.flatMap_cons, flatMap_take h, flatMap_drop h, List.append_assoc, Nat.add_mul, Nat.one_mul]

theorem splice_take {α : Type} (c us : List α) (p L : Nat) (h : p + us.length ≤ L) (hL : L ≤ c.length) :
    (c.take p ++ us ++ c.drop (p + us.length)).take L = (c.take L).take p ++ us ++ (c.take L).drop (p + us.length) := by
  apply List.ext_getElem?
  intro i
  simp only [List.getElem?_take, List.getElem?_append, List.length_append, List.length_take, List.getElem?_drop]
  have e1 : min p c.length = p := by omega
  have e2 : min p (min L c.length) = p := by omega
  rw [e1, e2]
  by_cases h1 : i < p
  · simp only [if_pos (show i < p + us.length by omega), if_pos h1, if_pos (show i < L by omega)]
  · by_cases h2 : i < p + us.length
    · simp only [if_pos h2, if_neg h1, if_pos (show i < L by omega)]
    · by_cases h3 : i < L
      · simp only [if_neg h2, if_pos h3, if_pos (show p + us.length + (i - (p + us.length)) < L by omega)]
      · simp only [if_neg h2, if_neg h3, if_neg (show ¬ p + us.length + (i - (p + us.length)) < L by omega)]

theorem take_take_le {α : Type} (l : List α) {i j : Nat} (h : i ≤ j) : (l.take j).take i = l.take i := by rw [List.take_take, Nat.min_eq_left h]

theorem store_good {P : Program} {C : Ctx} {S : Subs} {γ : Gh} {imm : Nat → Prop} {w : World} (h : Inv C S γ imm w) (t : TypeId) {a x : AV} {ua u : Value} (ha : VRel S γ imm w a ua) (hx : VRel S γ imm w x u) :
    GoodU P C S γ imm w (aStore P t a x) (Instr.storeAt t ua u) := by
  intro y S2 hr
  unfold aStore at hr
  split at hr
  · simp [RW.run] at hr
  · rename_i n hn
    split at hr
    · rename_i hlen
      obtain ⟨us, hus, hcu⟩ := cellsS_rel hx
      have hul := VRels_length hus
      split at hr
      · rename_i r p ver off
        rw [RW.run_bind] at hr
        obtain ⟨⟨ys, S1⟩, h1, h2⟩ := Option.bind_eq_some_iff.1 hr
        obtain ⟨γ1, imm1, hi1, he1, hm1, hk1, hys, hone⟩ := settle_good r p (cellsS x) us off S γ imm h hus ys S1 h1
        simp only [RW.run] at h2
        split at h2
        · rename_i cells hl
          split at h2
          · rename_i hle
            simp only [RW.run] at h2
            split at h2
            · rename_i hlt
              simp only [Option.some.injEq, Prod.mk.injEq] at h2
              obtain ⟨_, rfl⟩ := h2
              have hl1 : live S1 r p ver = some (.box false cells) := hl
              obtain ⟨k1, k2⟩ := he1 r p ver ha.1
              obtain ⟨o, ho, hsh, hg⟩ := k2 _ hl1
              obtain ⟨b, hgb, rfl⟩ := ha.2 o ho
              obtain ⟨b', cs, e, hg', hh, hv, h1', _⟩ := hi1.obj r p ver _ hl1
              rw [hg, hgb] at hg'
              obtain rfl : b = b' := by simpa using hg'
              have hb : bl (γ1 r p ver) = some b := by rw [hg, hgb]; rfl
              have hcl := VRels_length hv
              have hcu' := hcu hone
              have hsize : u.cells.size = n := by rw [← Array.length_toList, hcu', hul, hlen]
              have hst := run_storeVar (P := P) hn (o := off) hh hsize (by simpa [hcl] using hle) (by rw [hcu']; exact hone)
              simp only [hcu'] at hst
              refine ⟨_, by simp [Instr.storeAt, Instr.sureAddr, hst]; rfl, ?_⟩
              refine To.after he1 hm1 hk1 (To.write (o' := .box false (cells.take off ++ ys ++ cells.drop (off + n))) hi1 hlt hl1 rfl rfl hb _ (fun hext hk => ?_) trivial)
              refine ⟨b, cs.take off ++ us ++ cs.drop (off + n), e, by rw [hg, hgb], ?_, ?_, ?_, fun x => by cases x⟩
              · rw [setRow_heap w b cs.toArray _ e _ hh]
                simp
              · refine VRels_append (VRels_append ?_ (VRels_mono hext (fun _ x => x) hk _ _ hys)) ?_
                · exact VRels_mono hext (fun _ x => x) hk _ _ (VRels_take hv off)
                · exact VRels_mono hext (fun _ x => x) hk _ _ (VRels_drop hv (off + n))
              · intro v hv'
                rcases List.mem_append.1 hv' with e1 | e1
                · rcases List.mem_append.1 e1 with e1 | e1
                  · exact h1' v (List.mem_of_mem_take e1)
                  · exact hone v e1
                · exact h1' v (List.mem_of_mem_drop e1)
            · cases h2
          · simp [RW.run] at h2
        · simp [RW.run] at h2
      · rename_i r p ver i off
        rw [RW.run_bind] at hr
        obtain ⟨⟨ys, S1⟩, h1, h2⟩ := Option.bind_eq_some_iff.1 hr
        obtain ⟨γ1, imm1, hi1, he1, hm1, hk1, hys⟩ := mapRW_good (C := C) (w := w) (f := pub 4) (fun S γ imm h x u hx => pub_good 4 S γ imm h x u hx) (cellsS x) us S γ imm h hus ys S1 h1
        simp only [RW.run] at h2
        split at h2
        · rename_i nl sz e el hl
          split at h2
          · rename_i hcond
            obtain ⟨hle, hall, hpos⟩ := hcond
            simp only [RW.run] at h2
            split at h2
            · rename_i hlt
              simp only [Option.some.injEq, Prod.mk.injEq] at h2
              obtain ⟨_, rfl⟩ := h2
              have hl1 : live S1 r p ver = some (.arr nl false sz e el) := hl
              obtain ⟨k1, k2⟩ := he1 r p ver ha.1
              obtain ⟨o, ho, hsh, hg⟩ := k2 _ hl1
              obtain ⟨sz', n', b, cap, hs', hin, hgb, rfl⟩ := ha.2 o ho
              rw [hs'] at hsh
              simp only [shp, Prod.mk.injEq, true_and] at hsh
              obtain ⟨rfl, rfl⟩ := hsh
              obtain ⟨xs, c1, c2, c3, c4, c5, _⟩ := hi1.obj r p ver _ hl1
              rw [hg, hgb] at c1 c5
              have hb : bl (γ1 r p ver) = some b := by rw [hg, hgb]; rfl
              have hone := IRels_one ys us hys hall
              have hyl := IRels_length hys
              have hcu' := hcu hone
              have hsize : u.cells.size = n := by rw [← Array.length_toList, hcu', hul, hlen]
              obtain ⟨cap', cur, e1, hh, hnc, hcm, hcs, htake⟩ : ∃ cap' cur, cap = cap' ∧ w.heap[b]? = some (.cells cur e (0, 0)) ∧ el.length ≤ cap' ∧ cap' ≤ maxLen ∧ cur.size = cap' * sz' ∧ cur.toList.take (el.length * sz') = xs := by
                rcases c1.2 with ⟨e1, _⟩ | ⟨g, cap', cur, e1, _, h1, h2, h3, h4, h5⟩
                · cases e1
                · injection e1 with e1 e2 e3
                  injection e1 with e1
                  injection e1 with e1
                  subst e1
                  exact ⟨cap', cur, e3, h1, h2, h3, h4, h5⟩
              subst e1
              have hm : el.getD i .dead = el[i] := by simp [List.getD_eq_getElem?_getD, hin]
              have hci := c3 el[i] (List.getElem_mem _)
              have hisz : (i + 1) * sz' ≤ el.length * sz' := Nat.mul_le_mul_right _ hin
              have hcapsz : el.length * sz' ≤ cap * sz' := Nat.mul_le_mul_right _ hnc
              rw [Nat.add_mul, Nat.one_mul] at hisz
              have hst := run_storeVar (P := P) hn (o := i * sz' + off) hh hsize (by omega) (by rw [hcu']; exact hone)
              simp only [hcu'] at hst
              refine ⟨_, by simp [Instr.storeAt, Instr.sureAddr, hst]; rfl, ?_⟩
              have hcells : cellsOf (setEl el[i] off ys) = (cellsOf el[i]).take off ++ ys ++ (cellsOf el[i]).drop (off + n) := by
                have hyn : ys.length = n := by omega
                cases hold : el[i] with
                | agg l => simp [setEl, cellsOf, hyn]
                | _ =>
                  rw [hold] at hci
                  simp only [cellsOf, List.length_singleton] at hci
                  obtain rfl : off = 0 := by omega
                  obtain ⟨y0, rfl⟩ : ∃ y0, ys = [y0] := by
                    match ys, hyn with
                    | [y0], _ => exact ⟨y0, rfl⟩
                    | [], h => simp at h; omega
                    | _ :: _ :: _, h => simp at h; omega
                  simp only [List.all_cons, List.all_nil, Bool.and_true] at hall
                  obtain rfl : n = 1 := by simpa using hyn.symm
                  cases y0 <;> simp [setEl, cellsOf, cellAV] at hall ⊢
              have hcl : (cellsOf (setEl el[i] off ys)).length = sz' := by
                rw [hcells]; simp; omega
              refine To.after he1 hm1 hk1 (To.write (o' := .arr nl false sz' e (el.set i (setEl (el.getD i .dead) off ys))) hi1 hlt hl1 (by simp [shp]) rfl hb _ (fun hext hk => ?_) trivial)
              rw [hm]
              have hxl := ownsRow_lens c1
              refine ⟨xs.take (i * sz' + off) ++ us ++ xs.drop (i * sz' + off + n), ?_, ?_, ?_, ?_, ?_, fun x => by cases x⟩
              · rw [hg, hgb, List.length_set]
                refine ⟨by simp; omega, .inr ⟨b, cap, _, rfl, Nat.zero_le _, setRow_heap w b cur _ e _ hh, hnc, hcm, ?_, ?_⟩⟩
                · simp; omega
                · rw [← htake]
                  simp only [List.toList_toArray]
                  have hun : us.length = n := by omega
                  have := splice_take cur.toList us (i * sz' + off) (el.length * sz') (by omega) (by simp; omega)
                  rw [hun] at this
                  simp only [List.append_assoc] at this ⊢
                  exact this
              · rw [flatMap_set c3 i hin, hcells]
                have e1 := IRels_mono (fun _ x => x) hk _ _ c2
                have e2 := IRels_mono (fun _ x => x) hk _ _ hys
                have hseg : (cellsOf el[i]).take off = ((el.flatMap cellsOf).drop (i * sz')).take off := by
                  rw [← flatMap_drop c3, List.drop_eq_getElem_cons hin, List.flatMap_cons, List.take_append_of_le_length (by omega)]
                have hseg2 : (cellsOf el[i]).drop (off + n) ++ (el.flatMap cellsOf).drop (i * sz' + sz') = (el.flatMap cellsOf).drop (i * sz' + off + n) := by
                  have : (el.flatMap cellsOf).drop (i * sz') = cellsOf el[i] ++ (el.flatMap cellsOf).drop (i * sz' + sz') := by
                    rw [← flatMap_drop c3, List.drop_eq_getElem_cons hin, List.flatMap_cons, flatMap_drop c3, Nat.add_mul, Nat.one_mul]
                  have e3 : (el.flatMap cellsOf).drop (i * sz' + off + n) = ((el.flatMap cellsOf).drop (i * sz')).drop (off + n) := by rw [List.drop_drop, Nat.add_assoc]
                  rw [e3, this, List.drop_append_of_le_length (by omega)]
                have hre : (el.flatMap cellsOf).take (i * sz') ++ ((cellsOf el[i]).take off ++ ys ++ (cellsOf el[i]).drop (off + n)) ++ (el.flatMap cellsOf).drop (i * sz' + sz')
                    = (el.flatMap cellsOf).take (i * sz' + off) ++ ys ++ (el.flatMap cellsOf).drop (i * sz' + off + n) := by
                  rw [← hseg2, hseg, List.take_add]
                  simp only [List.append_assoc]
                rw [hre]
                exact IRels_append (IRels_append (IRels_take e1 _) e2) (IRels_drop e1 _)
              · intro z hz
                rcases List.mem_or_eq_of_mem_set hz with e1 | e1
                · exact c3 z e1
                · rw [e1]; exact hcl
              · intro v hv'
                rcases List.mem_append.1 hv' with e1 | e1
                · rcases List.mem_append.1 e1 with e1 | e1
                  · exact c4 v (List.mem_of_mem_take e1)
                  · exact hone v e1
                · exact c4 v (List.mem_of_mem_drop e1)
              · rw [hg, hgb]; exact c5
            · cases h2
          · simp [RW.run] at h2
        · simp [RW.run] at h2
      · simp [RW.run] at hr
    · simp [RW.run] at hr
end Go.Proofs.YtmekfllddifglaaDoor.AM

/- The abstract machine, part h: new variables, structs and arrays built, slices made. Conditions: none. -/
set_option linter.unusedVariables false
set_option linter.unusedSimpArgs false
namespace Go.Proofs.YtmekfllddifglaaDoor.AM
open Go

/-! ### New variables -/
def newBox (d : Nat) (ys : List AV) : RW AV := .get d fun s => .put d (s.put [] ((s.ent []).1 + 1, some (.box false ys))) (.ret (.loc d [] ((s.ent []).1 + 1) 0))

theorem VRels_consts {S : Subs} {γ : Gh} {imm : Nat → Prop} {w : World} (z : List Value) : VRels S γ imm w (z.map .v) z := by
  induction z with
  | nil => rfl
  | cons x z ih => exact ⟨x, z, rfl, rfl, ih⟩
theorem IRels_consts {imm : Nat → Prop} {w : World} (z : List Value) : IRels imm w (z.map .v) z := by
  induction z with
  | nil => rfl
  | cons x z ih => exact ⟨x, z, rfl, rfl, ih⟩

theorem newBox_good {C : Ctx} {S : Subs} {γ : Gh} {imm : Nat → Prop} {w : World} (h : Inv C S γ imm w) (d : Nat) {ys : List AV} {us : List Value} (hv : VRels S γ imm w ys us) (h1 : ∀ u ∈ us, u.oneCell' = true) (e : TypeId)
    {x : AV} {S' : Subs} (hr : (newBox d ys).run S = some (x, S')) :
    To C S γ imm w S' (w.alloc (.cells us.toArray e)) (fun γ' imm' => VRel S' γ' imm' (w.alloc (.cells us.toArray e)) x (.pointer (some ⟨w.heap.size, 0, none⟩))) := by
  simp only [newBox, RW.run] at hr
  split at hr
  · rename_i hlt
    simp only [Option.some.injEq, Prod.mk.injEq] at hr
    obtain ⟨rfl, rfl⟩ := hr
    refine To.alloc (p := []) (o' := .box false ys) (g := .pointer (some ⟨w.heap.size, 0, none⟩)) h hlt (.cells us.toArray e) rfl (fun γ' hext hg hk => ?_) fun γ' hext hg => ?_
    · exact ⟨w.heap.size, us, e, rfl, heap_alloc_new w _, VRels_mono hext (fun _ x => x) hk _ _ hv, h1, fun x => by cases x⟩
    · refine ⟨?_, fun o ho => ⟨w.heap.size, hg, rfl⟩⟩
      exact Nat.le_of_eq (ctr_setEnt_same (e := ((ctr S d [] + 1, some (.box false ys)) : Ent)) hlt).symm
  · cases hr

def aAlloc (P : Program) (d : Nat) (t : TypeId) : RW AV := match zcells P t with
  | some z => if z.all (·.oneCell') then newBox d (z.map .v) else .fail
  | none => .fail
theorem alloc_good {P : Program} {C : Ctx} {S : Subs} {γ : Gh} {imm : Nat → Prop} {w : World} (h : Inv C S γ imm w) (d : Nat) (t : TypeId) : GoodV P C S γ imm w (aAlloc P d t) (Instr.alloc t true (.tuple #[])) := by
  intro x S' hr
  unfold aAlloc at hr
  split at hr
  · rename_i z hz
    split at hr
    · rename_i hall
      simp only [zcells, Option.map_eq_some_iff, Option.bind_eq_some_iff] at hz
      obtain ⟨z0, ⟨i, hi, hz0⟩, rfl⟩ := hz
      have h1 : ∀ u ∈ z0.cells.toList, u.oneCell' = true := fun u hu => List.all_eq_true.1 hall u hu
      have := newBox_good h d (VRels_consts z0.cells.toList) h1 t hr
      simp only [Array.toArray_toList] at this
      exact ⟨_, _, by simp [Instr.alloc, zeroValue, typeInfo, hi, hz0, newVar, newRow], this⟩
    · simp [RW.run] at hr
  · simp [RW.run] at hr

def aBox (d : Nat) (x : AV) : RW AV := (settle d [] 0 (cellsS x)).bind fun ys => newBox d ys
theorem box_good {P : Program} {C : Ctx} {S : Subs} {γ : Gh} {imm : Nat → Prop} {w : World} (h : Inv C S γ imm w) (d : Nat) (t : TypeId) {x : AV} {u : Value} (hx : VRel S γ imm w x u) : GoodV P C S γ imm w (aBox d x) (Instr.box t u) := by
  intro y S' hr
  rw [aBox, RW.run_bind] at hr
  obtain ⟨⟨ys, S1⟩, h1, h2⟩ := Option.bind_eq_some_iff.1 hr
  obtain ⟨us, hus, hcu⟩ := cellsS_rel hx
  obtain ⟨γ1, imm1, hi1, he1, hm1, hk1, hys, hone⟩ := settle_good d [] (cellsS x) us 0 S γ imm h hus ys S1 h1
  have hcu' := hcu hone
  have := newBox_good hi1 d hys hone t h2
  refine ⟨_, _, ?_, To.after he1 hm1 hk1 this⟩
  have e : u.cells = us.toArray := by rw [← hcu', Array.toArray_toList]
  simp [Instr.box, newVar, newRow, e]

/-! ### Structs and arrays built -/
theorem foldl_splice : ∀ (vs : List Value) (off k : Nat) (cs : Array Value), off + k + vs.length ≤ cs.size →
    ((vs.zipIdx k).foldl (fun cs (x : Value × Nat) => cs.setIfInBounds (off + x.2) x.1) cs).toList = cs.toList.take (off + k) ++ vs ++ cs.toList.drop (off + k + vs.length)
  | [], off, k, cs, h => by simp
  | v :: vs, off, k, cs, h => by
    simp only [List.zipIdx_cons, List.foldl_cons]
    rw [foldl_splice vs off (k + 1) _ (by simp at h ⊢; omega)]
    simp only [Array.toList_setIfInBounds, List.length_cons]
    have hk : off + k < cs.toList.length := by simp at h ⊢; omega
    rw [List.take_set, List.drop_set, if_pos (by omega)]
    have e : (cs.toList.take (off + (k + 1))).set (off + k) v = cs.toList.take (off + k) ++ [v] := by
      rw [show off + (k + 1) = off + k + 1 by omega, List.take_succ_eq_append_getElem hk, List.set_append_right _ _ (by simp; omega)]
      have hmin : min (off + k) cs.size = off + k := by simp at hk; omega
      simp [hmin]
    rw [e]
    simp only [List.append_assoc, List.singleton_append, show off + (k + 1) + vs.length = off + k + (vs.length + 1) by omega]

theorem fill_step (place : Nat → Option (Nat × Nat)) (cells : Array Value) (i : Nat) (v : Value) (rest : List (Nat × Value)) {off size : Nat} (hp : place i = some (off, size)) (hs : v.cells.size = size) (hle : off + size ≤ cells.size) :
    Instr.fill place cells ((i, v) :: rest) = Instr.fill place (cells.toList.take off ++ v.cells.toList ++ cells.toList.drop (off + size)).toArray rest := by
  simp only [Instr.fill, hp]
  rw [if_neg (by simp [hs]; omega)]
  congr 1
  apply Array.ext'
  have := foldl_splice v.cells.toList off 0 cells (by simp; omega)
  simp only [Nat.add_zero, Array.length_toList, hs] at this
  rw [← this, ← Array.foldl_toList, Array.toList_zipIdx]

/-- Parts laid into cells. -/
def fillA (place : Nat → Option (Nat × Nat)) : List AV → List (Nat × AV) → Option (List AV)
  | cells, [] => some cells
  | cells, (i, x) :: rest => match place i with
    | none => none
    | some (off, size) => if (cellsS x).length = size ∧ off + size ≤ cells.length then fillA place (cells.take off ++ cellsS x ++ cells.drop (off + size)) rest else none

/-- Values told by their abstract ones, that lie in one cell if they are no structs. -/
def PartsRel (S : Subs) (γ : Gh) (imm : Nat → Prop) (w : World) : List (Nat × AV) → List (Nat × Value) → Prop
  | [], qs => qs = []
  | (i, x) :: ps, qs => ∃ u qs', qs = (i, u) :: qs' ∧ VRels S γ imm w (cellsS x) u.cells.toList ∧ PartsRel S γ imm w ps qs'

theorem fill_ok {S : Subs} {γ : Gh} {imm : Nat → Prop} {w : World} (place : Nat → Option (Nat × Nat)) : ∀ (ps : List (Nat × AV)) (qs : List (Nat × Value)) (cells : List AV) (cs : Array Value) (r : List AV),
    PartsRel S γ imm w ps qs → VRels S γ imm w cells cs.toList → fillA place cells ps = some r → ∃ cs', Instr.fill place cs qs = some cs' ∧ VRels S γ imm w r cs'.toList
  | [], qs, cells, cs, r, hp, hc, hf => by
    simp only [PartsRel] at hp
    subst hp
    simp only [fillA, Option.some.injEq] at hf
    subst hf
    exact ⟨cs, rfl, hc⟩
  | (i, x) :: ps, qs, cells, cs, r, hp, hc, hf => by
    obtain ⟨u, qs', rfl, h1, h2⟩ := hp
    simp only [fillA] at hf
    split at hf
    · cases hf
    · rename_i off size hpl
      split at hf
      · rename_i hcond
        obtain ⟨e1, e2⟩ := hcond
        have hl1 := VRels_length h1
        have hl2 := VRels_length hc
        have hsz : u.cells.size = size := by rw [← Array.length_toList, hl1, e1]
        rw [fill_step place cs i u qs' hpl hsz (by rw [← Array.length_toList, hl2]; exact e2)]
        refine fill_ok place ps qs' _ _ r h2 ?_ hf
        exact VRels_append (VRels_append (VRels_take hc off) h1) (VRels_drop hc (off + size))
      · cases hf

/-- A value that is live, or can't change. -/
def live1 : AV → RW AV
  | .own r q ver lo hi => .get r fun s => match s.live q ver with
    | some (.arr nl fz sz e el) => .ret (.own r q ver lo hi)
    | _ => .fail
  | .loc r q ver off => .get r fun s => match s.live q ver with
    | some _ => .ret (.loc r q ver off)
    | none => .fail
  | .mp r q ver => .get r fun s => match s.live q ver with
    | some (.map _ _) => .ret (.mp r q ver)
    | _ => .fail
  | .agg l => .ret (.agg l)
  | x => if cellAV x then .ret x else .fail

theorem live1_good {C : Ctx} {S : Subs} {γ : Gh} {imm : Nat → Prop} {w : World} (h : Inv C S γ imm w) {x : AV} {u : Value} (hx : VRel S γ imm w x u) :
    GoodW C S γ imm w (live1 x) (fun y S' γ' imm' => VRel S' γ' imm' w y u ∧ VRels S' γ' imm' w (cellsS y) u.cells.toList) := by
  have hone : ∀ z, VRel S γ imm w z u → u.oneCell' = true → cellsS z = [z] → VRels S γ imm w (cellsS z) u.cells.toList := by
    intro z hz h1 e
    rw [e, cells_of_one h1]
    exact ⟨u, [], rfl, hz, rfl⟩
  have hc : ∀ z, VRel S γ imm w z u → cellsS z = [z] → GoodW C S γ imm w (if cellAV z then .ret z else .fail) (fun y S' γ' imm' => VRel S' γ' imm' w y u ∧ VRels S' γ' imm' w (cellsS y) u.cells.toList) := by
    intro z hz e
    split
    · rename_i hcz; exact GoodW.ret h ⟨hz, hone z hz (cellAV_one hcz hz) e⟩
    · exact GoodW.fail
  cases x with
  | own r q ver lo hi =>
    refine GoodW.get ?_
    split
    · rename_i hl
      exact GoodW.ret h ⟨hx, hone _ hx (own_one (S := S) hl hx) rfl⟩
    · exact GoodW.fail
  | loc r q ver off =>
    refine GoodW.get ?_
    split
    · rename_i o hl
      obtain ⟨b, _, rfl⟩ := hx.2 o hl
      exact GoodW.ret h ⟨hx, hone _ hx rfl rfl⟩
    · exact GoodW.fail
  | mp r q ver =>
    refine GoodW.get ?_
    split
    · rename_i t en hl
      obtain ⟨b, es, clock, hg, _⟩ := h.obj r q ver _ hl
      exact GoodW.ret h ⟨hx, hone _ hx (by rw [hx.2 _ hl, hg]; rfl) rfl⟩
    · exact GoodW.fail
  | agg l =>
    obtain ⟨us, rfl, hv⟩ := hx
    exact GoodW.ret h ⟨⟨us, rfl, hv⟩, by simpa [cellsS, Value.cells] using hv⟩
  | _ => exact hc _ hx rfl

def live1s : List (Nat × AV) → RW (List (Nat × AV))
  | [] => .ret []
  | (i, x) :: l => (live1 x).bind fun y => (live1s l).bind fun ys => .ret ((i, y) :: ys)

theorem PartsRel_mono {S S' : Subs} {γ γ' : Gh} {imm imm' : Nat → Prop} {w w' : World} (he : Ext S γ S' γ') (hi : ∀ b, imm b → imm' b) (hk : Keeps imm w w') : ∀ (ps : List (Nat × AV)) (qs : List (Nat × Value)), PartsRel S γ imm w ps qs → PartsRel S' γ' imm' w' ps qs
  | [], qs, h => h
  | (i, x) :: ps, qs, h => by obtain ⟨u, qs', rfl, h1, h2⟩ := h; exact ⟨u, qs', rfl, VRels_mono he hi hk _ _ h1, PartsRel_mono he hi hk ps qs' h2⟩

theorem live1s_good {C : Ctx} {w : World} : ∀ (ps : List (Nat × AV)) (qs : List (Nat × Value)) (S : Subs) (γ : Gh) (imm : Nat → Prop), Inv C S γ imm w →
    ps.map (·.1) = qs.map (·.1) → VRels S γ imm w (ps.map (·.2)) (qs.map (·.2)) → GoodW C S γ imm w (live1s ps) (fun y S' γ' imm' => PartsRel S' γ' imm' w y qs)
  | [], qs, S, γ, imm, h, h1, h2 => by
    have : qs = [] := by simpa using h1.symm
    subst this
    exact GoodW.ret h rfl
  | (i, x) :: ps, qs, S, γ, imm, h, h1, h2 => by
    cases qs with
    | nil => simp at h1
    | cons q qs =>
      obtain ⟨j, u⟩ := q
      simp only [List.map_cons, List.cons.injEq] at h1
      obtain ⟨rfl, h1⟩ := h1
      obtain ⟨u', us', e, h3, h4⟩ := h2
      simp only [List.map_cons, List.cons.injEq] at e
      obtain ⟨rfl, rfl⟩ := e
      refine GoodW.bind (live1_good h h3) fun y S1 γ1 imm1 hi1 he1 hm1 hy => ?_
      refine GoodW.bind (live1s_good ps qs S1 γ1 imm1 hi1 h1 (VRels_mono he1 hm1 (Keeps.refl _ _) _ _ h4)) fun ys S2 γ2 imm2 hi2 he2 hm2 hys => ?_
      exact GoodW.ret hi2 ⟨u, qs, rfl, VRels_mono he2 hm2 (Keeps.refl _ _) _ _ hy.2, hys⟩

def placesT (P : Program) (t : TypeId) : Option (List Value × (Nat → Option (Nat × Nat))) :=
  match P.info? t, P.underlying t with
  | some it, some (.array _ e) => match it.zero, P.info? e with
    | some z, some ie => some (z.cells.toList, fun i => some (i * ie.size, ie.size))
    | _, _ => none
  | some it, some (.struct fields) => match it.zero, fields.toList.mapM (fun f => (P.info? f.type).map fun i => (f.offset, i.size)) with
    | some z, some places => some (z.cells.toList, (places[·]?))
    | _, _ => none
  | _, _ => none
theorem built_of {P : Program} {t : TypeId} {z : List Value} {pl : Nat → Option (Nat × Nat)} (h : placesT P t = some (z, pl)) (qs : List (Nat × Value)) : P.built t qs = Instr.fill pl z.toArray qs := by
  unfold placesT at h
  unfold Program.built
  split at h
  · rename_i it n e h1 h2
    split at h
    · rename_i z' ie h3 h4
      simp only [Option.some.injEq, Prod.mk.injEq] at h
      obtain ⟨rfl, rfl⟩ := h
      simp [h1, h2, h3, h4]
    · cases h
  · rename_i it fs h1 h2
    split at h
    · rename_i z' places h3 h4
      simp only [Option.some.injEq, Prod.mk.injEq] at h
      obtain ⟨rfl, rfl⟩ := h
      simp [h1, h2, h3, h4]
    · cases h
  · cases h

def aBuild (P : Program) (t : TypeId) (ps : List (Nat × AV)) : RW AV := match placesT P t with
  | none => .fail
  | some (z, pl) => (live1s ps).bind fun ps' => match fillA pl (z.map .v) ps' with
    | some r => .ret (.agg r)
    | none => .fail
theorem build_good {P : Program} {C : Ctx} {S : Subs} {γ : Gh} {imm : Nat → Prop} {w : World} (h : Inv C S γ imm w) (t : TypeId) {ps : List (Nat × AV)} {qs : Array (Nat × Value)}
    (h1 : ps.map (·.1) = qs.toList.map (·.1)) (h2 : VRels S γ imm w (ps.map (·.2)) (qs.toList.map (·.2))) : GoodV P C S γ imm w (aBuild P t ps) (Instr.build t qs) := by
  intro y S' hr
  unfold aBuild at hr
  split at hr
  · simp [RW.run] at hr
  · rename_i z pl hz
    rw [RW.run_bind] at hr
    obtain ⟨⟨ps', S1⟩, k1, k2⟩ := Option.bind_eq_some_iff.1 hr
    obtain ⟨γ1, imm1, hi1, he1, hm1, hk1, hps⟩ := live1s_good ps qs.toList S γ imm h h1 h2 ps' S1 k1
    split at k2
    · rename_i r hf
      simp only [RW.run, Option.some.injEq, Prod.mk.injEq] at k2
      obtain ⟨rfl, rfl⟩ := k2
      obtain ⟨cs', e1, e2⟩ := fill_ok pl ps' qs.toList (z.map .v) z.toArray r hps (by simpa using VRels_consts z) hf
      refine ⟨.agg cs', w, run_build w t qs cs' (by rw [built_of hz]; exact e1), γ1, imm1, hi1, he1, hm1, hk1, cs'.toList, by simp, e2⟩
    · simp [RW.run] at k2
end Go.Proofs.YtmekfllddifglaaDoor.AM
