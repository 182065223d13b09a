/- The relax seat: Mza, Mzb, Mzc, Mzd, Mze, Na. Conditions: none. -/
import Derived.Test.YtmekfllddifglaaDoorP06
import Derived.ControlIn
import Derived.RangeFuncLeaves
set_option linter.unusedVariables false
set_option linter.unusedSimpArgs false
/- The abstract machine, part za: a function's results; a store with room. Conditions: none. -/
set_option linter.unusedVariables false
set_option linter.unusedSimpArgs false
namespace Go.Proofs.YtmekfllddifglaaDoor.AM
open Go

def aRes1 (P : Program) (sl : List AV) : ResultVar → RW AV
  | .tmp t => .ret (sl.getD t .dead)
  | .cell a t => aLoad P t (sl.getD a .dead)
def tupA : List AV → AV
  | [y] => y
  | ys => .tup ys
/-- A store with room for more. -/
def pad (S : Subs) (n : Nat) : Subs := S ++ List.replicate (n - S.length) []
theorem sub_pad (S : Subs) (n r : Nat) : sub (pad S n) r = sub S r := by
  unfold sub pad
  by_cases h : r < S.length
  · simp [List.getD_eq_getElem?_getD, List.getElem?_append_left h]
  · have h' : S.length ≤ r := by omega
    simp only [List.getD_eq_getElem?_getD, List.getElem?_append_right h']
    rw [List.getElem?_eq_none h']
    by_cases h2 : r - S.length < n - S.length
    · simp [List.getElem?_replicate, h2]
    · simp [List.getElem?_replicate, h2]
theorem live_pad (S : Subs) (n : Nat) : live (pad S n) = live S := by
  funext r p v
  simp only [live, sub_pad]
theorem ctr_pad (S : Subs) (n : Nat) : ctr (pad S n) = ctr S := by
  funext r p
  simp only [ctr, sub_pad]
theorem Ext.pad {S : Subs} {γ : Gh} {n : Nat} : Ext S γ (pad S n) γ := by
  intro r p ver h
  rw [ctr_pad, live_pad]
  exact ⟨h, fun o ho => ⟨o, ho, rfl, rfl⟩⟩
theorem Inv.pad {C : Ctx} {S : Subs} {γ : Gh} {imm : Nat → Prop} {w : World} (h : Inv C S γ imm w) (n : Nat) : Inv C (pad S n) γ imm w := by
  refine ⟨h.tape, h.os, h.output, h.size, h.keep, h.keepI, h.imm0, h.immlt, h.immE, ?_, ?_, ?_⟩
  · intro r p v o ho
    rw [live_pad] at ho
    exact ORel_mono Ext.pad (fun _ x => x) (Keeps.refl _ _) (fun _ _ => rfl) (h.obj r p v o ho)
  · intro r p v o b ho
    rw [live_pad] at ho
    exact h.own r p v o b ho
  · intro r p v o r' p' v' o' b ho ho'
    rw [live_pad] at ho ho'
    exact h.inj r p v o r' p' v' o' b ho ho'

def resS (tmps : Array Value) : ResultVar → Sem Value
  | .tmp t => pure (tmps.getD t undef)
  | .cell b t => do loadVar t (← asAddr (tmps.getD b undef))
theorem results_eq (fn : Func) (tmps : Array Value) : results fn tmps = (do
    let vs ← fn.results.mapM (resS tmps)
    pure (if h : vs.size = 1 then vs[0] else .tuple vs)) := by
  unfold results
  congr 1
theorem res_good {P : Program} {C : Ctx} {a : Act} {w : World} : ∀ (rs : List ResultVar) (sl : List AV) (S : Subs) (γ : Gh) (imm : Nat → Prop), Inv C S γ imm w → (∀ i, VRel S γ imm w (sl.getD i .dead) (a.tmps.getD i undef)) →
    ∀ xs S', (mapRW (aRes1 P sl) rs).run S = some (xs, S') → S' = S ∧ ∃ vs, (rs.mapM (resS a.tmps)).run P w = .ok vs w ∧ VRels S γ imm w xs vs
  | [], sl, S, γ, imm, h, hv, xs, S', hr => by
    simp only [mapRW, RW.run, Option.some.injEq, Prod.mk.injEq] at hr
    obtain ⟨rfl, rfl⟩ := hr
    exact ⟨rfl, [], by simp, rfl⟩
  | r :: rs, sl, S, γ, imm, h, hv, xs, S', hr => by
    simp only [mapRW] at hr
    rw [RW.run_bind] at hr
    obtain ⟨⟨x, S1⟩, h1, h2⟩ := Option.bind_eq_some_iff.1 hr
    rw [RW.run_bind] at h2
    obtain ⟨⟨ys, S2⟩, h3, h4⟩ := Option.bind_eq_some_iff.1 h2
    simp only [RW.run, Option.some.injEq, Prod.mk.injEq] at h4
    obtain ⟨rfl, rfl⟩ := h4
    cases r with
    | tmp t =>
      simp only [aRes1, RW.run, Option.some.injEq, Prod.mk.injEq] at h1
      obtain ⟨rfl, rfl⟩ := h1
      obtain ⟨rfl, vs, hvs, hrel⟩ := res_good rs sl S γ imm h hv ys _ h3
      exact ⟨rfl, a.tmps.getD t undef :: vs, by simp [resS, hvs], _, _, rfl, hv t, hrel⟩
    | cell b t =>
      simp only [aRes1, aLoad] at h1
      rw [RW.run_bind] at h1
      obtain ⟨⟨l, S3⟩, k1, k2⟩ := Option.bind_eq_some_iff.1 h1
      obtain ⟨rfl, bb, oo, hu, hc⟩ := rdP_ok h (hv b) k1
      obtain ⟨hp, rfl⟩ := RW.run_ofO k2
      obtain ⟨v, hv1, hy⟩ := run_loadVar hp hc
      obtain ⟨rfl, vs, hvs, hrel⟩ := res_good rs sl _ γ imm h hv ys _ h3
      refine ⟨rfl, v :: vs, ?_, _, _, rfl, hy, hrel⟩
      simp [resS, hvs, hu, asAddr, hv1]

theorem tupA_okV {S : Subs} {γ : Gh} {imm : Nat → Prop} {w : World} {ys : List AV} {vs : List Value} (h : VRels S γ imm w ys vs) : VRel S γ imm w (tupA ys) (if hs : vs.toArray.size = 1 then vs.toArray[0] else .tuple vs.toArray) := by
  have hl := VRels_length h
  unfold tupA
  split
  · obtain ⟨u, us', rfl, h1, h2⟩ := h
    obtain rfl : us' = [] := h2
    simpa using h1
  · rename_i hne
    have : ¬ vs.toArray.size = 1 := by
      simp only [List.size_toArray, hl]
      intro e
      match ys, e with
      | [y], _ => exact hne y rfl
    rw [dif_neg this]
    exact ⟨vs, rfl, h⟩
end Go.Proofs.YtmekfllddifglaaDoor.AM

/- The abstract machine, part zb: marks taken at a function's end; functions that run in their caller's store; rounds. Conditions: none. -/
set_option linter.unusedVariables false
set_option linter.unusedSimpArgs false
namespace Go.Proofs.YtmekfllddifglaaDoor.AM
open Go

/-! ### A mark is taken -/
theorem ORel_block {S : Subs} {γ : Gh} {imm : Nat → Prop} {w : World} {o : Ob} {g : Value} (h : ORel S γ imm w o g) {b : Nat} (hb : bl g = some b) : ∀ d, w.heap[b]? ≠ some (.deferred d) := by
  intro d hd
  cases o with
  | box fz cells =>
    obtain ⟨b', cs, e, rfl, hh, _⟩ := h
    simp only [bl, Option.some.injEq] at hb; subst hb; rw [hh] at hd; cases hd
  | arr nl fz sz e el =>
    obtain ⟨xs, ho, _⟩ := h
    obtain ⟨c, e, z, hc⟩ := ownsRow_cells ho b hb
    rw [hc] at hd; cases hd
  | map t en =>
    obtain ⟨b', es, clock, rfl, hh, _⟩ := h
    simp only [bl, Option.some.injEq] at hb; subst hb; rw [hh] at hd; cases hd
  | loop s j sl c =>
    obtain ⟨l, b', rfl, hh, _⟩ := h
    simp only [bl, Option.some.injEq] at hb; subst hb; rw [hh] at hd; cases hd

theorem Inv.shed {C : Ctx} {S : Subs} {γ : Gh} {imm : Nat → Prop} {w : World} (h : Inv C S γ imm w) {D : Nat} (hD : imm D) (hge : C.w0.heap.size ≤ D) {d : Option (List Deferred)} (hd : w.heap[D]? = some (.deferred d)) (o : Obj) :
    Inv C S γ (fun b => imm b ∧ b ≠ D) (w.putObj D o) ∧ KeepsC imm w (fun b => imm b ∧ b ≠ D) (w.putObj D o) := by
  have hne : ∀ b, b ≠ D → (w.putObj D o).heap[b]? = w.heap[b]? := fun b hb => World.putObj_heap_other hb
  have h0 : ∀ b, C.imm0 b → b ≠ D := by
    rintro b hb rfl
    have := h.keepI b hb
    rw [hd, Array.getElem?_eq_none hge] at this
    cases this
  have hk : KeepsC imm w (fun b => imm b ∧ b ≠ D) (w.putObj D o) := by
    intro b c e z hb hc
    have : b ≠ D := by rintro rfl; rw [hd] at hc; cases hc
    exact ⟨⟨hb, this⟩, hne b this⟩
  refine ⟨⟨h.tape, h.os, h.output, by simpa using h.size, fun b hb hE => (hne b (by omega)).trans (h.keep b hb hE), fun b hb => (hne b (h0 b hb)).trans (h.keepI b hb), fun b hb => ⟨h.imm0 b hb, h0 b hb⟩, fun b hb => by simpa using h.immlt b hb.1, fun b hb => h.immE b hb.1, ?_, ?_, h.inj⟩, hk⟩
  · intro r p v ob ho
    have hO := h.obj r p v ob ho
    exact ORel_monoC (Ext.refl _ _) hk (fun b hb => hne b (by rintro rfl; exact ORel_block hO hb _ hd)) hO
  · intro r p v ob b ho hb
    have := h.own r p v ob b ho hb
    exact ⟨by simpa using this.1, this.2.1, fun hf hi => this.2.2 hf hi.1⟩

theorem Rel.shed {C : Ctx} {γ : Gh} {imm : Nat → Prop} {st : St} {a : Act} {w : World} (h : Rel C γ imm st a w) {D : Nat} (hD : imm D) (hge : C.w0.heap.size ≤ D) {d : Option (List Deferred)} (hd : w.heap[D]? = some (.deferred d)) (o : Obj) :
    Rel C γ (fun b => imm b ∧ b ≠ D) st a (w.putObj D o) := by
  obtain ⟨h1, h2⟩ := h.inv.shed hD hge hd o
  exact ⟨h1, h.len, fun i => VRel_monoC (Ext.refl _ _) h2 _ _ (h.val i)⟩

/-- All marks are taken, one behind the other. -/
theorem shed_all {P : Program} {C : Ctx} {γ : Gh} {st : St} {a : Act} {fn : Func} {tmps : Array Value} {R : Ending → World → Prop} : ∀ (Ds : List Nat) (imm : Nat → Prop) (w : World), Rel C γ imm st a w → Ds.Nodup → (∀ D ∈ Ds, C.w0.heap.size ≤ D ∧ imm D ∧ w.heap[D]? = some (.deferred (some []))) →
    ∃ imm' w', Rel C γ imm' st a w' ∧ (LeavesInM (Wd none) 0 P fn tmps R [] .returning w' → LeavesInM (Wd none) 0 P fn tmps R (Ds.map markOf) .returning w)
  | [], imm, w, h, _, _ => ⟨imm, w, h, id⟩
  | D :: Ds, imm, w, h, hn, hm => by
    obtain ⟨h1, h2, h3⟩ := hm D (by simp)
    simp only [List.nodup_cons] at hn
    obtain ⟨imm', w', g1, g2⟩ := shed_all Ds _ _ (h.shed h2 h1 h3 (.deferred none)) hn.2 (fun D' hD' => by
      obtain ⟨k1, k2, k3⟩ := hm D' (by simp [hD'])
      have : D' ≠ D := by rintro rfl; exact hn.1 hD'
      exact ⟨k1, ⟨k2, this⟩, by rw [World.putObj_heap_other this]; exact k3⟩)
    refine ⟨imm', w', g1, fun hl => ?_⟩
    exact ⟨by simp, .inl ⟨D, _, rfl, run_takeDeferred h3, g2 hl⟩⟩

/-! ### A function that runs in its caller's store -/
structure Inl where
  off : Nat
  sus : Nat → Susp
def shiftC (off : Nat) (cy : Carry) : Carry := fun d o ρ => cy (d + off) o ρ
theorem shiftC_ok {P : Program} {G : Gl} {cy : Carry} (h : CarryOk P G cy) (off : Nat) : CarryOk P G (shiftC off cy) := fun C S γ imm w hi hG d o ρ η hρ x S' hr => h C S γ imm w hi hG (d + off) o ρ η hρ x S' hr
theorem shiftC_loc {cy : Carry} (h : CarryLoc cy) (off : Nat) : CarryLoc (shiftC off cy) := fun d o ρ ρ' hρ => h (d + off) o ρ ρ' hρ
theorem shiftC_cls {cy : Carry} (h : CarryCls cy) (off : Nat) : CarryCls (shiftC off cy) := fun d o ρ S => h (d + off) o ρ S
def susH (sus : Nat → Susp) : Hints := ⟨sus, fun _ st => some st, fun _ _ => none⟩
def frameA (fn : Func) (args : List AV) : List AV := args ++ List.replicate (fn.ntmps - args.length) .dead
noncomputable def aInl (P : Program) (G : Gl) (cy : Carry) (i : Inl) (fn : Func) (c : Code) (args : List AV) : RW AV := .all fun S =>
  (acode G (shiftC i.off cy) (susH i.sus) 0 c ⟨frameA fn args, S⟩).bind fun y => match y.1 with
    | .exit _ => none
    | .normal => ((mapRW (aRes1 P y.2.slots) fn.results.toList).run y.2.subs).map fun z => (tupA z.1, z.2)
    | .ret => ((mapRW (aRes1 P y.2.slots) fn.results.toList).run y.2.subs).map fun z => (tupA z.1, z.2)

/-- A frame as it is entered. -/
theorem frame_rel {C : Ctx} {S : Subs} {γ : Gh} {imm : Nat → Prop} {w : World} (hi : Inv C S γ imm w) {fn : Func} {args : List AV} {vals : List Value} (hv : VRels S γ imm w args vals) :
    Rel C γ imm ⟨frameA fn args, S⟩ { tmps := vals.toArray ++ Array.replicate (fn.ntmps - vals.toArray.size) undef, defers := [] } w := by
  have hlen := VRels_length hv
  refine ⟨hi, by simp [hlen, frameA], fun i => ?_⟩
  by_cases hlt : i < args.length
  · have h1 : (frameA fn args).getD i .dead = args[i] := by
      simp [frameA, List.getD_eq_getElem?_getD, List.getElem?_append_left hlt, hlt]
    have h2 : (vals.toArray ++ Array.replicate (fn.ntmps - vals.toArray.size) undef).getD i undef = vals[i]'(by omega) := by
      have : i < vals.length := by omega
      simp [Array.getD_eq_getD_getElem?, Array.getElem?_append, this]
    simp only [h1, h2]
    exact VRels_get hv i hlt (by omega)
  · have h1 : (frameA fn args).getD i .dead = .dead := by
      have hge : args.length ≤ i := by omega
      simp only [frameA, List.getD_eq_getElem?_getD, List.getElem?_append_right hge, List.getElem?_replicate]
      split <;> rfl
    simp only [h1]
    trivial

theorem results_run {P : Program} {fn : Func} {tmps : Array Value} {vs : List Value} {w : World} (h : (fn.results.toList.mapM (resS tmps)).run P w = .ok vs w) : (results fn tmps).run P w = .ok (if hs : vs.toArray.size = 1 then vs.toArray[0] else .tuple vs.toArray) w := by
  rw [results_eq, Array.mapM_eq_mapM_toList]
  simp [h]

/-- The surroundings, seen anew: whatever may be written may be written, what cannot change now cannot. -/
def CtxAll (C : Ctx) (imm : Nat → Prop) (w : World) : Ctx := ⟨w, fun b => C.E b ∨ C.w0.heap.size ≤ b, imm⟩
theorem Inv.into {C : Ctx} {S : Subs} {γ : Gh} {imm : Nat → Prop} {w : World} (h : Inv C S γ imm w) : Inv (CtxAll C imm w) S γ imm w :=
  ⟨rfl, rfl, rfl, Nat.le_refl _, fun _ _ _ => rfl, fun _ _ => rfl, fun _ x => x, h.immlt, fun _ x => .inl x, h.obj, fun r p v o b ho hb => ⟨(h.own r p v o b ho hb).1, .inl (h.own r p v o b ho hb).2.1, (h.own r p v o b ho hb).2.2⟩, h.inj⟩
theorem Inv.outof {C : Ctx} {S S' : Subs} {γ γ' : Gh} {imm imm' : Nat → Prop} {w w' : World} (h : Inv C S γ imm w) (k : Inv (CtxAll C imm w) S' γ' imm' w') : Inv C S' γ' imm' w' := by
  have hs : C.w0.heap.size ≤ w.heap.size := h.size
  have hs' : w.heap.size ≤ w'.heap.size := k.size
  refine ⟨k.tape.trans h.tape, k.os.trans h.os, k.output.trans h.output, Nat.le_trans hs hs', fun b hb hE => ?_, fun b hb => (k.keepI b (h.imm0 b hb)).trans (h.keepI b hb), fun b hb => k.imm0 b (h.imm0 b hb), k.immlt, fun b hb => ?_, k.obj, fun r p v o b ho hb => ?_, k.inj⟩
  · have : w'.heap[b]? = w.heap[b]? := k.keep b (Nat.lt_of_lt_of_le hb hs) (fun e => by
      rcases e with e | e
      · exact hE e
      · omega)
    exact this.trans (h.keep b hb hE)
  · rcases k.immE b hb with e | e | e
    · exact h.immE b e
    · exact .inr e
    · exact .inr (.inr (Nat.le_trans hs e))
  · obtain ⟨k1, k2, k3⟩ := k.own r p v o b ho hb
    refine ⟨k1, ?_, k3⟩
    rcases k2 with e | e
    · exact e
    · exact .inr (Nat.le_trans hs e)
theorem Inv.outTo {C : Ctx} {S S' : Subs} {γ γ' : Gh} {imm imm' : Nat → Prop} {w w' : World} {R : Gh → (Nat → Prop) → Prop} (h : Inv C S γ imm w) (k : Inv (CtxAll C imm w) S' γ' imm' w') (he : Ext S γ S' γ') (hR : R γ' imm') : To C S γ imm w S' w' R :=
  ⟨γ', imm', h.outof k, he, k.imm0, ⟨k.keepI⟩, hR⟩

theorem aInl_good {P : Program} (hm : P.follows .mixedOrders = true) {G : Gl} {cy : Carry} (hcy : CarryOk P G cy) (hloc : CarryLoc cy) (hcls : CarryCls cy) {i : Inl} {f : FuncId} {fn : Func} {c : Code} (hf : P.funcs[f]? = some fn) (hb : fn.body = some c) (hok : okCode i.sus c = true) (hrf : ranges 0 c = [])
    {C : Ctx} {S : Subs} {γ : Gh} {imm : Nat → Prop} {w : World} (hi0 : Inv C S γ imm w) (hG : GOk G imm w) {args : List AV} {vals : List Value} (hv : VRels S γ imm w args vals) {x : AV} {S' : Subs} (hr : (aInl P G cy i fn c args).run S = some (x, S')) :
    Calls P f vals.toArray w fun e w' => ∃ u, e = .returned u ∧ To C S γ imm w S' w' (fun γ' imm' => VRel S' γ' imm' w' x u) := by
  have hr := (lenO_some hr).1
  have hi := hi0.into
  have hC : COk (CtxAll C imm w) G := ⟨hG⟩
  obtain ⟨⟨y, st'⟩, h1, h2⟩ := Option.bind_eq_some_iff.1 hr
  have hx : RelX (CtxAll C imm w) ⟨S, γ, [], [], true⟩ ⟨frameA fn args, S⟩ { tmps := vals.toArray ++ Array.replicate (fn.ntmps - vals.toArray.size) undef, defers := [] } w :=
    ⟨γ, imm, frame_rel hi hv, by simp, Marks.nil, Ext.refl _ _, fun _ => rfl⟩
  have body : c.wpIn (Wd none) 0 P (bodyPost P fn fun e w' => ∃ u, e = .returned u ∧ To C S γ imm w S' w' (fun γ' imm' => VRel S' γ' imm' w' x u)) { tmps := vals.toArray ++ Array.replicate (fn.ntmps - vals.toArray.size) undef, defers := [] } w := by
    refine acode_wp hm (shiftC_ok hcy i.off) (shiftC_loc hloc i.off) (shiftC_cls hcls i.off) hC (H := susH i.sus) (ds := ⟨S, γ, [], [], true⟩) (fun b st st' a w e hr => ?_) c 0 hok (fun x hx => by rw [hrf] at hx; cases hx) _ y st' _ _ _ h1 hx fun a' w' hr' => ?_
    · simp only [susH, Option.some.injEq] at e; subst e; exact hr
    · obtain ⟨γ', imm', g1, _, _, g4, g5⟩ := hr'
      have fin : ((mapRW (aRes1 P st'.slots) fn.results.toList).run st'.subs).map (fun z => (tupA z.1, z.2)) = some (x, S') → a'.defers = [] ∧ ∃ v, (results fn a'.tmps).run P w' = .ok v w' ∧ ∃ u, (Ending.returned v) = .returned u ∧ To C S γ imm w S' w' (fun γ' imm' => VRel S' γ' imm' w' x u) := by
        intro hr
        obtain ⟨⟨xs, S2⟩, hr2, e⟩ := Option.map_eq_some_iff.1 hr
        simp only [Prod.mk.injEq] at e
        obtain ⟨rfl, rfl⟩ := e
        obtain ⟨rfl, vs, hvs, hrel⟩ := res_good fn.results.toList st'.slots st'.subs γ' imm' g1.inv g1.val xs _ hr2
        exact ⟨g5 rfl, _, results_run hvs, _, rfl, hi0.outTo g1.inv g4 (tupA_okV hrel)⟩
      cases y with
      | exit id => cases h2
      | normal => exact fin h2
      | ret => exact fin h2
  exact calls_of_wp hf hb (wpIn_wide.1 body)
end Go.Proofs.YtmekfllddifglaaDoor.AM

/- The abstract machine, part zc: a round of a range over a function. Conditions: none. -/
set_option linter.unusedVariables false
set_option linter.unusedSimpArgs false
namespace Go.Proofs.YtmekfllddifglaaDoor.AM
open Go

def jumpOf : AX → Option Code
  | .normal => none
  | .ret => some .ret
  | .exit id => some (.exit id)
def putPs (ps : Array Tmp) (args : List AV) (sl : List AV) : List AV := (ps.toList.zip args).foldl (fun l x => l.set x.1 x.2) sl
open Classical in
/-- The record of a loop is turned. -/
noncomputable def turnL (r : Nat) (p : List Nat) (ver : Nat) (s : LoopState) (c0 : LoopC) (s' : LoopState) (j' : Option Code) (S : Subs) : Option Subs := match live S r p ver with
  | some (.loop s1 none sl c) => if s1 = s ∧ c = c0 ∧ r < S.length then some (setEnt S r p (ver, some (.loop s' j' sl c0))) else none
  | _ => none
def onNormal {β : Type} (x : AX) (k : Option β) : Option β := match x with
  | .normal => k
  | _ => none
open Classical in
noncomputable def aYield (G : Gl) (cy : Carry) (c0 : LoopC) (r : Nat) (p : List Nat) (ver : Nat) (args : List AV) : RW AV := .all fun S =>
  match live S r p ver with
  | some (.loop .ready none sl c) => if c = c0 ∧ args.length = c0.ps.size then
      (acode G cy (susH c0.sus) 0 c0.asg ⟨putPs c0.ps args sl, S⟩).bind fun z => onNormal z.1 ((turnL r p ver .ready c0 .busy none z.2.subs).bind fun S2 =>
        (acode G cy (susH c0.sus) 0 c0.body ⟨z.2.slots, S2⟩).bind fun y => (turnL r p ver .busy c0 (if (jumpOf y.1).isNone then .ready else .done) (jumpOf y.1) y.2.subs).map fun S' => (.v (.bool (jumpOf y.1).isNone), S'))
      else none
  | _ => none
structure LoopC.Ok (c : LoopC) : Prop where
  asg : okCode c.sus c.asg = true
  body : okCode c.sus c.body = true
  rasg : ranges 0 c.asg = []
  rbody : ranges 0 c.body = []

theorem putPs_rel {S : Subs} {γ : Gh} {imm : Nat → Prop} {w : World} : ∀ (ps : List Tmp) (args : List AV) (vals : List Value) (sl : List AV) (tmps : Array Value), VRels S γ imm w args vals → sl.length ≤ tmps.size → (∀ i, VRel S γ imm w (sl.getD i .dead) (tmps.getD i undef)) →
    ((ps.zip args).foldl (fun l x => l.set x.1 x.2) sl).length ≤ ((ps.zip vals).foldl (fun t x => t.setIfInBounds x.1 x.2) tmps).size ∧ ∀ i, VRel S γ imm w (((ps.zip args).foldl (fun l x => l.set x.1 x.2) sl).getD i .dead) (((ps.zip vals).foldl (fun t x => t.setIfInBounds x.1 x.2) tmps).getD i undef)
  | [], args, vals, sl, tmps, h, hl, hv => ⟨hl, hv⟩
  | p :: ps, [], vals, sl, tmps, h, hl, hv => by
    obtain rfl : vals = [] := h
    exact ⟨hl, hv⟩
  | p :: ps, x :: args, vals, sl, tmps, h, hl, hv => by
    obtain ⟨u, us, rfl, h1, h2⟩ := h
    simp only [List.zip_cons_cons, List.foldl_cons]
    refine putPs_rel ps args us _ _ h2 (by simpa using hl) fun i => ?_
    simp only [List.getD_eq_getElem?_getD, List.getElem?_set, Array.getD_eq_getD_getElem?, Array.getElem?_setIfInBounds]
    by_cases hid : p = i
    · subst hid
      by_cases hlt : p < sl.length
      · simp only [if_true, hlt, show p < tmps.size from Nat.lt_of_lt_of_le hlt hl, Option.getD_some]
        exact h1
      · simp only [if_true, hlt, if_false, Option.getD_none]
        trivial
    · simp only [hid, if_false]
      have := hv i
      simpa [List.getD_eq_getElem?_getD, Array.getD_eq_getD_getElem?] using this

theorem turnL_some {r : Nat} {p : List Nat} {ver : Nat} {s : LoopState} {c0 : LoopC} {s' : LoopState} {j' : Option Code} {S S' : Subs} (h : turnL r p ver s c0 s' j' S = some S') :
    ∃ sl, live S r p ver = some (.loop s none sl c0) ∧ r < S.length ∧ S' = setEnt S r p (ver, some (.loop s' j' sl c0)) := by
  unfold turnL at h
  split at h
  · rename_i s1 sl c hl
    split at h
    · rename_i hc
      obtain ⟨rfl, rfl, hr⟩ := hc
      simp only [Option.some.injEq] at h
      exact ⟨sl, hl, hr, h.symm⟩
    · cases h
  · cases h

/-- The record is turned, in the store and in the world. -/
theorem turn_to {C : Ctx} {S : Subs} {γ : Gh} {imm : Nat → Prop} {w : World} (h : Inv C S γ imm w) {r : Nat} {p : List Nat} {ver : Nat} {s : LoopState} {c0 : LoopC} {s' : LoopState} {j' : Option Code} {S' : Subs} (ht : turnL r p ver s c0 s' j' S = some S')
    {l : Nat} {ts : Array Value} (hg : γ r p ver = .func (.yield l) #[] ts) :
    ∃ b : Loop, w.heap[l]? = some (.loop b) ∧ b.state = s ∧ b.pending = none ∧ b.tmps = ts ∧ To C S γ imm w S' (w.putObj l (.loop { b with state := s', pending := j' })) (fun γ' imm' => γ' = γ ∧ imm' = imm) := by
  obtain ⟨sl, hl, hr, rfl⟩ := turnL_some ht
  obtain ⟨l', b, hg', hh, h1, h2, h3, h4, h5, h6, h7⟩ := h.obj r p ver _ hl
  rw [hg] at hg'
  simp only [Value.func.injEq, Fn.yield.injEq] at hg'
  obtain ⟨rfl, _, rfl⟩ := hg'
  refine ⟨b, hh, h1, h2, rfl, To.turn (o' := .loop s' j' sl c0) h hr hl rfl rfl (b := l) (by rw [hg]; rfl) _ (fun he hk => ?_) ⟨rfl, rfl⟩⟩
  refine ⟨l, { b with state := s', pending := j' }, hg, World.putObj_heap_same (Array.getElem?_eq_some_iff.1 hh).1, rfl, rfl, h3, h4, h5, h6, fun i => VRel_mono he (fun _ x => x) hk _ _ (h7 i)⟩

theorem Ext.same_g {S S' : Subs} {γ γ' : Gh} (he : Ext S γ S' γ') {r : Nat} {p : List Nat} {ver : Nat} {o o' : Ob} (h : live S r p ver = some o) (h' : live S' r p ver = some o') : γ' r p ver = γ r p ver := by
  obtain ⟨_, k⟩ := he r p ver (by have := ctr_of_live h; omega)
  obtain ⟨_, _, _, e⟩ := k o' h'
  exact e

theorem aYield_good {P : Program} (hm : P.follows .mixedOrders = true) {G : Gl} {cy : Carry} (hcy : CarryOk P G cy) (hloc : CarryLoc cy) (hcls : CarryCls cy) {c0 : LoopC} (hc0 : c0.Ok)
    {C : Ctx} {S : Subs} {γ : Gh} {imm : Nat → Prop} {w : World} (hi0 : Inv C S γ imm w) (hG : GOk G imm w) {r : Nat} {p : List Nat} {ver : Nat} {u : Value} (hx : VRel S γ imm w (.yld r p ver) u) {args : List AV} {vals : List Value} (hv : VRels S γ imm w args vals) {x : AV} {S' : Subs} (hr : (aYield G cy c0 r p ver args).run S = some (x, S')) :
    ∃ l f tmps asg body, u = .func (.yield l) #[] #[] ∧ (Instr.yield l vals.toArray).run P w = .ok (.round l f tmps asg body) w ∧ RoundIn Fence.wide 0 P l f tmps asg body w fun e w' => ∃ u, e = .returned u ∧ To C S γ imm w S' w' (fun γ' imm' => VRel S' γ' imm' w' x u) := by
  have hr := (lenO_some hr).1
  dsimp only at hr
  have hi := hi0.into
  have hC : COk (CtxAll C imm w) G := ⟨hG⟩
  have hlen := VRels_length hv
  split at hr
  · rename_i sl c hl
    split at hr
    · rename_i hc
      obtain ⟨rfl, hal⟩ := hc
      obtain ⟨⟨e1, st1⟩, h1, h2⟩ := Option.bind_eq_some_iff.1 hr
      cases e1 with
      | exit id => cases h2
      | ret => cases h2
      | normal =>
        simp only [onNormal] at h2
        obtain ⟨S2, ht2, h3⟩ := Option.bind_eq_some_iff.1 h2
        obtain ⟨⟨e3, st3⟩, h4, h5⟩ := Option.bind_eq_some_iff.1 h3
        obtain ⟨S4, ht4, h6⟩ := Option.map_eq_some_iff.1 h5
        simp only [Prod.mk.injEq] at h6
        obtain ⟨rfl, rfl⟩ := h6
        obtain ⟨l, b, hg, hh, hs, hj, hps, hasg, hbody, hsl, hval⟩ := hi0.obj r p ver _ hl
        obtain ⟨l', ts, hg', rfl⟩ := hx.2 _ hl
        have e := hg'.symm.trans hg
        simp only [Value.func.injEq, Fn.yield.injEq] at e
        obtain ⟨rfl, _, rfl⟩ := e
        refine ⟨l', b.fn, _, b.assign, b.body, rfl, run_yield hh (by rw [hps]; simp [hlen, hal]), ?_⟩
        obtain ⟨q1, q2⟩ := putPs_rel c.ps.toList args vals sl b.tmps hv hsl hval
        have hzip : (b.params.zip vals.toArray).foldl (fun tmps (x : Tmp × Value) => tmps.setIfInBounds x.1 x.2) b.tmps = (c.ps.toList.zip vals).foldl (fun t x => t.setIfInBounds x.1 x.2) b.tmps := by
          rw [hps, ← Array.foldl_toList, Array.toList_zip]
        refine roundIn_of_wpIn trivial ?_
        rw [hasg, hbody, show (fun (tmps : Array Value) (x : Nat × Value) => match x with | (t, a) => tmps.setIfInBounds t a) = (fun (tmps : Array Value) (x : Tmp × Value) => tmps.setIfInBounds x.1 x.2) from rfl, hzip]
        have hx0 : RelX (CtxAll C imm w) ⟨S, γ, [], [], false⟩ ⟨putPs c.ps args sl, S⟩ { tmps := (c.ps.toList.zip vals).foldl (fun t x => t.setIfInBounds x.1 x.2) b.tmps, defers := [] } w :=
          ⟨γ, imm, ⟨hi, q1, q2⟩, by simp, Marks.nil, Ext.refl _ _, fun e => by cases e⟩
        refine acode_wp (r := some l') (n := 0) hm hcy hloc hcls hC (H := susH c.sus) (fun b st st' a w e hr => by simp only [susH, Option.some.injEq] at e; subst e; exact hr) c.asg 0 hc0.asg (fun x hx => by rw [hc0.rasg] at hx; cases hx) _ .normal st1 _ _ _ h1 hx0 fun a1 w1 hr1 => ?_
        obtain ⟨γ1, imm1, g1, g2, g3, g4, g5⟩ := hr1
        obtain ⟨sl1, hl1, hrl, _⟩ := turnL_some ht2
        have hg1 : γ1 r p ver = .func (.yield l') #[] b.tmps := (g4.same_g hl hl1).trans hg
        obtain ⟨b1, k1, k2, k3, k4, γ1', imm1', k5, k6, k7, k8, rfl, rfl⟩ := turn_to g1.inv ht2 hg1
        refine ⟨_, run_beginRound k1 k2, ?_⟩
        have hb1 : ({ b1 with state := LoopState.busy } : Loop) = { b1 with state := .busy, pending := none } := by
          cases b1; simp only at k3; subst k3; rfl
        rw [hb1]
        have hx2 : RelX (CtxAll C imm w) ⟨S, γ, [], [], false⟩ ⟨st1.slots, S2⟩ a1 (w1.putObj l' (.loop { b1 with state := .busy, pending := none })) :=
          ⟨γ1', imm1', ⟨k5, g1.len, fun i => VRel_mono k6 k7 k8 _ _ (g1.val i)⟩, by simp, g3.mono k7 k8, g4.trans k6, fun e => by cases e⟩
        refine acode_wp (r := some l') (n := 0) hm hcy hloc hcls hC (H := susH c.sus) (fun b st st' a w e hr => by simp only [susH, Option.some.injEq] at e; subst e; exact hr) c.body 0 hc0.body (fun x hx => by rw [hc0.rbody] at hx; cases hx) _ e3 st3 _ _ _ h4 hx2 fun a3 w3 hr3 => ?_
        obtain ⟨γ3, imm3, g1', g2', g3', g4', g5'⟩ := hr3
        obtain ⟨sl3, hl3, _, _⟩ := turnL_some ht4
        have hg3 : γ3 r p ver = .func (.yield l') #[] b.tmps := (g4'.same_g hl hl3).trans hg
        obtain ⟨b3, m1, m2, m3, m4, γ3', imm3', m5, m6, m7, m8, rfl, rfl⟩ := turn_to g1'.inv ht4 hg3
        have fin : ∀ jump, jump = jumpOf e3 → ∃ v w', (Instr.endRound l' jump).run P w3 = .ok v w' ∧ ∃ u, (Ending.returned v) = .returned u ∧ To C S γ imm w S4 w' (fun γ' imm' => VRel S4 γ' imm' w' (.v (.bool (jumpOf e3).isNone)) u) := by
          rintro jump rfl
          exact ⟨_, _, run_endRound _ m1, _, rfl, hi0.outTo m5 (g4'.trans m6) rfl⟩
        cases e3 with
        | normal => exact fin _ rfl
        | ret => exact fin _ rfl
        | exit id => exact fin _ rfl
    · cases hr
  · cases hr
end Go.Proofs.YtmekfllddifglaaDoor.AM

/- The abstract machine, part zd: carries with functions run in their caller's store, and with rounds. Conditions: none. -/
set_option linter.unusedVariables false
set_option linter.unusedSimpArgs false
namespace Go.Proofs.YtmekfllddifglaaDoor.AM
open Go

abbrev InlT := FuncId → Option (Inl × Func × Code)
/-- What is told of them is so. -/
def InlOk (P : Program) (inl : InlT) : Prop := ∀ g i fn c, inl g = some (i, fn, c) → enters P g = true ∧ P.funcs[g]? = some fn ∧ fn.body = some c ∧ okCode i.sus c = true ∧ ranges 0 c = []
noncomputable def carryI (P : Program) (G : Gl) (T : Tbl) (inl : InlT) : Carry := fun d o ρ => match o.op with
  | .call c => (match c.callee with
    | .value f => (match ρ f with
      | .clo g first caps => (match inl g with
        | some (i, fn, cd) => aInl P G (carry P T) i fn cd (first ++ (c.args.toList.map ρ ++ caps))
        | none => carry P T d o ρ)
      | _ => carry P T d o ρ)
    | _ => carry P T d o ρ)
  | _ => carry P T d o ρ

theorem clo_call {P : Program} {S : Subs} {γ : Gh} {imm : Nat → Prop} {w : World} {o : Oper} {c : Call} (hc : o.op = .call c) {f : Operand} (hf : c.callee = .value f) {ρ : Operand → AV} {η : Operand → Value} (hρ : ∀ x, VRel S γ imm w (ρ x) (η x)) {g : FuncId} {first caps : List AV} (hg : ρ f = .clo g first caps) (he : enters P g = true) :
    ∃ vals : List Value, VRels S γ imm w (first ++ (c.args.toList.map ρ ++ caps)) vals ∧ (execOp η o).run P w = .ok (.enter g vals.toArray) w := by
  have hv := hρ f
  rw [hg] at hv
  obtain ⟨us, vs, hu, h1, h2⟩ := hv
  have hargs : VRels S γ imm w (c.args.toList.map ρ) (c.args.toList.map η) := VRels_map hρ _
  refine ⟨us ++ (c.args.toList.map η ++ vs), VRels_append h1 (VRels_append hargs h2), ?_⟩
  have harr : us.toArray ++ Array.map η c.args ++ vs.toArray = (us ++ (c.args.toList.map η ++ vs)).toArray := by
    apply Array.toList_inj.1
    simp
  simp [execOp, hc, resolve, hf, hu, Deferred.ofValue, invoke, run_enter he, harr]

theorem carryI_ok {P : Program} (hm : P.follows .mixedOrders = true) {G : Gl} {T : Tbl} (hT : TblOk P G T) {inl : InlT} (hI : InlOk P inl) : CarryOk P G (carryI P G T inl) := by
  intro C S γ imm w h hG d o ρ η hρ x S' hr
  unfold carryI at hr
  split at hr
  · rename_i c hc
    split at hr
    · rename_i f hf
      split at hr
      · rename_i g first caps hg
        split at hr
        · rename_i i fn cd hi
          obtain ⟨h1, h2, h3, h4, h5⟩ := hI g i fn cd hi
          refine ⟨fun c' e => (by rw [hc] at e; cases e), .inr (.inl ?_)⟩
          obtain ⟨vals, k1, k2⟩ := clo_call hc hf hρ hg h1
          exact ⟨g, _, w, k2, aInl_good hm (carry_ok hT) carry_loc carry_cls h2 h3 h4 h5 h hG k1 hr⟩
        · exact carry_ok hT C S γ imm w h hG d o ρ η hρ x S' hr
      · exact carry_ok hT C S γ imm w h hG d o ρ η hρ x S' hr
    · exact carry_ok hT C S γ imm w h hG d o ρ η hρ x S' hr
  · exact carry_ok hT C S γ imm w h hG d o ρ η hρ x S' hr
theorem carryI_loc {P : Program} {G : Gl} {T : Tbl} {inl : InlT} : CarryLoc (carryI P G T inl) := by
  intro d o ρ ρ' h
  have hp := carry_loc (P := P) (T := T) d o ρ ρ' h
  unfold carryI
  cases ho : o.op with
  | call c =>
    rw [ho] at h
    simp only []
    cases hc : c.callee with
    | value f =>
      simp only []
      have hf := h f (by simp [Op.operands, Call.operands, hc])
      have hargs : c.args.toList.map ρ = c.args.toList.map ρ' := List.map_congr_left fun x hx => h x (by simp [Op.operands, Call.operands]; exact .inr (by simpa using hx))
      rw [hf, hargs, hp]
    | _ => exact hp
  | _ => exact hp
theorem carryI_cls {P : Program} {G : Gl} {T : Tbl} {inl : InlT} : CarryCls (carryI P G T inl) := by
  intro d o ρ S
  have hp := carry_cls (P := P) (T := T) d o ρ S
  unfold carryI
  cases ho : o.op with
  | call c =>
    rw [ho] at hp
    simp only []
    cases hc : c.callee with
    | value f =>
      simp [opCls, hc]
    | _ => exact hp
  | _ => rw [ho] at hp; exact hp

/-- Within the function that is ranged over: a call of yield is a round. -/
noncomputable def carryY (P : Program) (G : Gl) (T : Tbl) (inl : InlT) (c0 : LoopC) (off : Nat) : Carry := fun d o ρ => match o.op with
  | .call c => (match c.callee with
    | .value f => (match ρ f with
      | .yld r p ver => aYield G (carryI P G T inl) c0 r p ver (c.args.toList.map ρ)
      | _ => carry P T (d + off) o ρ)
    | _ => carry P T (d + off) o ρ)
  | _ => carry P T (d + off) o ρ
theorem carryY_ok {P : Program} (hm : P.follows .mixedOrders = true) {G : Gl} {T : Tbl} (hT : TblOk P G T) {inl : InlT} (hI : InlOk P inl) {c0 : LoopC} (hc0 : c0.Ok) {off : Nat} : CarryOk P G (carryY P G T inl c0 off) := by
  intro C S γ imm w h hG d o ρ η hρ x S' hr
  unfold carryY at hr
  split at hr
  · rename_i c hc
    split at hr
    · rename_i f hf
      split at hr
      · rename_i r p ver hg
        refine ⟨fun c' e => (by rw [hc] at e; cases e), .inr (.inr ?_)⟩
        have hv := hρ f
        rw [hg] at hv
        obtain ⟨l, f', tmps, asg, body, hu, h1, h2⟩ := aYield_good hm (carryI_ok hm hT hI) carryI_loc carryI_cls hc0 h hG hv (VRels_map hρ c.args.toList) hr
        refine ⟨l, f', tmps, asg, body, ?_, h2⟩
        have harr : Array.map η c.args = (c.args.toList.map η).toArray := by
          apply Array.toList_inj.1
          simp
        simp [execOp, hc, resolve, hf, hu, Deferred.ofValue, invoke, harr, h1]
      · exact carry_ok hT C S γ imm w h hG (d + off) o ρ η hρ x S' hr
    · exact carry_ok hT C S γ imm w h hG (d + off) o ρ η hρ x S' hr
  · exact carry_ok hT C S γ imm w h hG (d + off) o ρ η hρ x S' hr
theorem carryY_loc {P : Program} {G : Gl} {T : Tbl} {inl : InlT} {c0 : LoopC} {off : Nat} : CarryLoc (carryY P G T inl c0 off) := by
  intro d o ρ ρ' h
  have hp := carry_loc (P := P) (T := T) (d + off) o ρ ρ' h
  unfold carryY
  cases ho : o.op with
  | call c =>
    rw [ho] at h
    simp only []
    cases hc : c.callee with
    | value f =>
      simp only []
      have hf := h f (by simp [Op.operands, Call.operands, hc])
      have hargs : c.args.toList.map ρ = c.args.toList.map ρ' := List.map_congr_left fun x hx => h x (by simp [Op.operands, Call.operands]; exact .inr (by simpa using hx))
      rw [hf, hargs, hp]
    | _ => exact hp
  | _ => exact hp
theorem carryY_cls {P : Program} {G : Gl} {T : Tbl} {inl : InlT} {c0 : LoopC} {off : Nat} : CarryCls (carryY P G T inl c0 off) := by
  intro d o ρ S
  have hp := carry_cls (P := P) (T := T) (d + off) o ρ S
  unfold carryY
  cases ho : o.op with
  | call c =>
    rw [ho] at hp
    simp only []
    cases hc : c.callee with
    | value f =>
      simp [opCls, hc]
    | _ => exact hp
  | _ => rw [ho] at hp; exact hp
end Go.Proofs.YtmekfllddifglaaDoor.AM

/- The abstract machine, part ze: a range over a function. Conditions: none. -/
set_option linter.unusedVariables false
set_option linter.unusedSimpArgs false
namespace Go.Proofs.YtmekfllddifglaaDoor.AM
open Go

/-- What is told of a range over a function: the place of its record, where the places of the function that is ranged over begin, and that function. -/
structure RgI where
  rj : Nat
  off : Nat
  g : FuncId
  fn : Func
  code : Code
  sus : Nat → Susp
  nm : Nat → St → Option St
  c0 : LoopC
def jumpAX : Option Code → Option AX
  | none => some .normal
  | some .ret => some .ret
  | some (.exit id) => some (.exit id)
  | _ => none
def endR (rj : Nat) (S : Subs) : Option (AX × St) := match live S rj [] 1 with
  | some (.loop s j sl c) => if s = .busy then none else if rj < S.length then (jumpAX j).map fun y => (y, ⟨sl, setEnt S rj [] (1, none)⟩) else none
  | _ => none
def leftR (x : AX) (k : Option (AX × St)) : Option (AX × St) := match x with
  | .exit _ => none
  | .normal => k
  | .ret => k
noncomputable def aRange (P : Program) (G : Gl) (T : Tbl) (inl : InlT) (R : RgI) (x : AV) (st : St) : Option (AX × St) := match x with
  | .clo g first caps => if g = R.g ∧ R.rj < st.subs.length ∧ ctr st.subs R.rj [] = 0 then
      (acode G (carryY P G T inl R.c0 R.off) ⟨R.sus, R.nm, fun _ _ => none⟩ 0 R.code ⟨frameA R.fn (first ++ (.yld R.rj [] 1 :: caps)), setEnt st.subs R.rj [] (1, some (.loop .ready none st.slots R.c0))⟩).bind fun y => leftR y.1 (endR R.rj y.2.subs)
    else none
  | _ => none
/-- The heads of its loops keep what is known. -/
def NmOk (nm : Nat → St → Option St) (rj : Nat) : Prop := ∀ b st st', nm b st = some st' → ∀ (C : Ctx) (ds : Kp) a w, ds.gk.map (·.1) = [(rj, [], 1)] → (∀ r p, ctr ds.S0 r p = 0) → RelX C ds st a w → RelX C ds st' a w
structure RgI.Ok (P : Program) (R : RgI) : Prop where
  ent : enters P R.g = true
  fn : P.funcs[R.g]? = some R.fn
  body : R.fn.body = some R.code
  res : R.fn.results = #[]
  code : okCode R.sus R.code = true
  ranges : ranges 0 R.code = []
  nm : NmOk R.nm R.rj
  c0 : R.c0.Ok

theorem Inv.kill {C : Ctx} {S : Subs} {γ : Gh} {imm : Nat → Prop} {w : World} (h : Inv C S γ imm w) {r : Nat} {p : List Nat} {ver : Nat} {o : Ob} (hr : r < S.length) (hl : live S r p ver = some o) (hf : fzOf o = false) {b : Nat} (hb : bl (γ r p ver) = some b) (new : Obj) :
    Inv C (setEnt S r p (ver, none)) γ imm (w.putObj b new) ∧ Ext S γ (setEnt S r p (ver, none)) γ ∧ Keeps imm w (w.putObj b new) := by
  have hv : ctr S r p ≤ ver := by have := ctr_of_live hl; omega
  have hown := h.own _ _ _ _ b hl hb
  have hsame : ∀ k, k ≠ b → (w.putObj b new).heap[k]? = w.heap[k]? := fun k hk => World.putObj_heap_other hk
  have hll : ∀ r' p' ver' o', live (setEnt S r p (ver, none)) r' p' ver' = some o' → live S r' p' ver' = some o' ∧ ¬ (r = r' ∧ p = p') := by
    intro r' p' ver' o' ho
    by_cases hn : r = r' ∧ p = p'
    · obtain ⟨rfl, rfl⟩ := hn
      rw [live_setEnt_same hr] at ho
      split at ho <;> cases ho
    · rw [live_setEnt_other hr hn] at ho; exact ⟨ho, hn⟩
  refine ⟨Inv.step (fun k => k = b) h (Ext.del hr hv) rfl rfl rfl (by simp) (fun k e => by subst e; exact ⟨hown.2.1, hown.2.2 hf⟩) (fun k _ hk => hsame k hk) (fun _ x => x) (fun _ x => .inl x) ?_ ?_, Ext.del hr hv, ⟨fun k hk => hsame k fun e => hown.2.2 hf (e ▸ hk)⟩⟩
  · intro r' p' ver' o' ho
    obtain ⟨h1, hn⟩ := hll _ _ _ _ ho
    refine .inl ⟨h1, rfl, fun k hk => ⟨?_, fun hf' => (h.own _ _ _ _ k h1 hk).2.2 hf'⟩⟩
    rintro rfl
    have := h.inj _ _ _ _ _ _ _ _ k hl h1 hb hk
    exact hn ⟨this.1, this.2.1⟩
  · intro r1 p1 v1 o1 r2 p2 v2 o2 k h1 h2 b1 b2
    exact h.inj _ _ _ _ _ _ _ _ k (hll _ _ _ _ h1).1 (hll _ _ _ _ h2).1 b1 b2

/-- A block that cannot change any more is laid. -/
theorem Inv.lay {C : Ctx} {S : Subs} {γ : Gh} {imm : Nat → Prop} {w : World} (h : Inv C S γ imm w) (o : Obj) :
    Inv C S γ (fun b => imm b ∨ b = w.heap.size) (w.alloc o) ∧ Keeps imm w (w.alloc o) := by
  have hlt : ∀ b, b < w.heap.size → (w.alloc o).heap[b]? = w.heap[b]? := fun b hb => RowKit.Below.heap_alloc w o b hb
  refine ⟨Inv.step (fun _ => False) h (Ext.refl _ _) rfl rfl rfl (by simp) (fun _ x => x.elim) (fun b hb _ => hlt b hb) (fun _ x => .inl x) (fun b hb => ?_) ?_ h.inj, ⟨fun b hb => hlt b (h.immlt b hb)⟩⟩
  · rcases hb with hb | rfl
    · exact .inl hb
    · exact .inr ⟨by simp, .inr h.size⟩
  · intro r p v ob ho
    refine .inl ⟨ho, rfl, fun b hb => ⟨id, fun hf hi => ?_⟩⟩
    have := h.own r p v ob b ho hb
    rcases hi with hi | rfl
    · exact this.2.2 hf hi
    · omega

theorem aRange_wp {P : Program} (hm : P.follows .mixedOrders = true) {G : Gl} {T : Tbl} (hT : TblOk P G T) {inl : InlT} (hI : InlOk P inl) {R : RgI} (hR : R.Ok P) {C : Ctx} (hC : COk C G) {ds : Kp} (hgk : ds.gk = []) (hnd : ds.nd = false) (h0 : ∀ r p, ctr ds.S0 r p = 0)
    {g : Operand} {st st' : St} {y : AX} {a : Act} {w : World} {n : Nat} {Q : Exit → Act → World → Prop} (hr : aRange P G T inl R (opd G st.slots g) st = some (y, st')) (hx : RelX C ds st a w) (hQ : ∀ a' w', RelX C ds st' a' w' → Q y.to a' w') :
    (Code.rangeFunc g R.c0.ps R.c0.asg R.c0.body).wpIn (Wd none) n P Q a w := by
  obtain ⟨γ, imm, hrel, _, hmk, hE, _⟩ := hx
  have hop := opd_ok hrel (hC.at hrel.inv) g
  unfold aRange at hr
  split at hr
  · rename_i g' first caps hg
    split at hr
    · rename_i hc
      obtain ⟨rfl, hrj, hct⟩ := hc
      rw [hg] at hop
      obtain ⟨us, vs, hu, hus, hvs⟩ := hop
      obtain ⟨⟨e1, st1⟩, h1, h2⟩ := Option.bind_eq_some_iff.1 hr
      refine wpIn_rangeFunc fun fnid _ => ?_
      obtain ⟨D, hD⟩ : ∃ D, D = w.heap.size := ⟨_, rfl⟩
      obtain ⟨rec, hrec⟩ : ∃ rec : Loop, rec = { state := .ready, pending := none, fn := fnid, tmps := a.tmps, params := R.c0.ps, assign := R.c0.asg, body := R.c0.body, defers := w.heap.size } := ⟨_, rfl⟩
      obtain ⟨hi1, hk1⟩ := hrel.inv.lay (.deferred (some []))
      have hsz : (w.alloc (.deferred (some []))).heap.size = w.heap.size + 1 := by simp
      obtain ⟨γ1, imm1, i1, i2, i3, i4, i5, rfl⟩ := To.alloc (p := []) (r := R.rj) (o' := .loop .ready none st.slots R.c0) (g := .func (.yield (w.heap.size + 1)) #[] a.tmps) hi1 hrj (.loop rec) (by rw [hsz]; rfl)
        (fun γ' hext hgg hk => ⟨w.heap.size + 1, rec, by rw [hrec], by rw [← hsz]; exact World.alloc_heap_new _ _, by rw [hrec], by rw [hrec], by rw [hrec], by rw [hrec], by rw [hrec], by rw [hrec]; exact hrel.len, fun i => by
          rw [show rec.tmps = a.tmps by rw [hrec]]
          exact VRel_mono hext (fun _ x => x) hk _ _ (VRel_mono (Ext.refl _ _) (fun _ x => .inl x) hk1 _ _ (hrel.val i))⟩)
        (R := fun γ' imm' => γ' R.rj [] 1 = .func (.yield (w.heap.size + 1)) #[] a.tmps ∧ imm' = fun b => imm b ∨ b = w.heap.size) (fun γ' hext hgg => ⟨by rw [hct] at hgg; exact hgg, rfl⟩)
      rw [hct] at i1 i2
      simp only [Nat.zero_add] at i1 i2
      obtain ⟨W1, hW1⟩ : ∃ W1, (w.alloc (.deferred (some []))).alloc (.loop rec) = W1 := ⟨_, rfl⟩
      rw [hW1] at i1 i4
      have hkk : Keeps imm w W1 := Keeps.trans (fun _ x => .inl x) hk1 i4
      have hs1 : (setEnt st.subs R.rj [] (1, some (.loop .ready none st.slots R.c0))).length = st.subs.length := by simp
      have hl1 : live (setEnt st.subs R.rj [] (1, some (.loop .ready none st.slots R.c0))) R.rj [] 1 = some (.loop .ready none st.slots R.c0) := by rw [live_setEnt_same hrj]; simp
      have hyld : VRel (setEnt st.subs R.rj [] (1, some (.loop .ready none st.slots R.c0))) γ1 (fun b => imm b ∨ b = w.heap.size) W1 (.yld R.rj [] 1) (.func (.yield (w.heap.size + 1)) #[] #[]) :=
        ⟨by rw [ctr_of_live hl1]; exact Nat.le_refl _, fun o ho => ⟨_, _, i5, rfl⟩⟩
      have hargs : VRels (setEnt st.subs R.rj [] (1, some (.loop .ready none st.slots R.c0))) γ1 (fun b => imm b ∨ b = w.heap.size) W1 (first ++ (.yld R.rj [] 1 :: caps)) (us ++ (.func (.yield (w.heap.size + 1)) #[] #[] :: vs)) :=
        VRels_append (VRels_mono i2 (fun _ x => .inl x) hkk _ _ hus) ⟨_, _, rfl, hyld, VRels_mono i2 (fun _ x => .inl x) hkk _ _ hvs⟩
      have hmarks : Marks C.w0.heap.size (fun b => imm b ∨ b = w.heap.size) W1 (markOf w.heap.size :: (a.defers ++ ds.ms)) := by
        obtain ⟨Ds, e, hn, hh⟩ := hmk
        have hold : ∀ D' ∈ Ds, D' < w.heap.size := fun D' hD' => hrel.inv.immlt D' (hh D' hD').2.1
        refine ⟨w.heap.size :: Ds, by rw [e]; rfl, List.nodup_cons.2 ⟨fun hm => Nat.lt_irrefl _ (hold _ hm), hn⟩, fun D' hD' => ?_⟩
        rcases List.mem_cons.1 hD' with rfl | hD'
        · refine ⟨hrel.inv.size, .inr rfl, ?_⟩
          rw [i4.same _ (.inr rfl)]
          exact World.alloc_heap_new w _
        · exact ⟨(hh D' hD').1, .inl (hh D' hD').2.1, by rw [hkk.same D' (hh D' hD').2.1]; exact (hh D' hD').2.2⟩
      refine ⟨w.heap.size + 1, [markOf w.heap.size], W1, { target := .fn (.func R.g) vs.toArray, args := us.toArray ++ #[.func (.yield (w.heap.size + 1)) #[] #[]] }, W1, R.g, (us ++ (.func (.yield (w.heap.size + 1)) #[] #[] :: vs)).toArray, W1, ?_, ?_, fun _ _ => trivial, ?_, fun h => by simp [Wd] at h, ?_⟩
      · rw [← hW1, hrec]; exact run_enterLoop_outer _ _ _ _ _
      · simp [resolve, hu, Deferred.ofValue]; rfl
      · have harr : us.toArray ++ #[Value.func (.yield (w.heap.size + 1)) #[] #[]] ++ vs.toArray = (us ++ (.func (.yield (w.heap.size + 1)) #[] #[] :: vs)).toArray := by
          apply Array.toList_inj.1
          simp
        simp only [invoke, harr, run_enter hR.ent]
      · refine callsIn_of_wp hR.fn hR.body trivial ?_
        have hx0 : RelX C ⟨ds.S0, ds.γ0, [((R.rj, [], 1), .func (.yield (w.heap.size + 1)) #[] a.tmps)], markOf w.heap.size :: (a.defers ++ ds.ms), true⟩ ⟨frameA R.fn (first ++ (.yld R.rj [] 1 :: caps)), setEnt st.subs R.rj [] (1, some (.loop .ready none st.slots R.c0))⟩
            { tmps := (us ++ (.func (.yield (w.heap.size + 1)) #[] #[] :: vs)).toArray ++ Array.replicate (R.fn.ntmps - (us ++ (Value.func (.yield (w.heap.size + 1)) #[] #[] :: vs)).toArray.size) undef, defers := [] } W1 := by
          refine ⟨γ1, _, frame_rel i1 hargs, fun q hq => ?_, by simpa using hmarks, hE.trans i2, fun _ => rfl⟩
          simp only [List.mem_singleton] at hq
          subst hq
          exact ⟨by rw [ctr_of_live hl1]; exact Nat.le_refl _, fun _ _ => i5⟩
        refine acode_wp hm (carryY_ok hm hT hI hR.c0) carryY_loc carryY_cls hC (H := ⟨R.sus, R.nm, fun _ _ => none⟩) (ds := ⟨ds.S0, ds.γ0, [((R.rj, [], 1), .func (.yield (w.heap.size + 1)) #[] a.tmps)], markOf w.heap.size :: (a.defers ++ ds.ms), true⟩)
          (fun b st st' a w e hr => hR.nm b st st' e C _ a w rfl h0 hr) R.code 0 hR.code (fun x hx => by rw [hR.ranges] at hx; cases hx) _ e1 st1 _ _ _ h1 hx0 fun a3 w3 hr3 => ?_
        obtain ⟨γ3, imm3, g1, g2, g3, g4, g5⟩ := hr3
        have fin : endR R.rj st1.subs = some (y, st') → a3.defers = [] ∧ ∃ v, (results R.fn a3.tmps).run P w3 = .ok v w3 ∧ rangePost (Wd none) n P (w.heap.size + 1) Q { a with defers := [markOf w.heap.size] ++ a.defers } (.returned v) w3 := by
          intro he
          refine ⟨g5 rfl, .tuple #[], by have := results_run (P := P) (fn := R.fn) (tmps := a3.tmps) (vs := []) (w := w3) (by simp [hR.res]); simpa using this, ?_⟩
          unfold endR at he
          split at he
          · rename_i s j sl c hl
            split at he
            · cases he
            · rename_i hsb
              split at he
              · rename_i hrl
                obtain ⟨y', hy', he'⟩ := Option.map_eq_some_iff.1 he
                simp only [Prod.mk.injEq] at he'
                obtain ⟨rfl, rfl⟩ := he'
                have hgam := (g2 ((R.rj, [], 1), .func (.yield (w.heap.size + 1)) #[] a.tmps) (by simp)).2 _ hl
                simp only at hgam
                obtain ⟨l', b, hg', hh, hs, hj, _, _, _, hlen, hval⟩ := g1.inv.obj _ _ _ _ hl
                rw [hgam] at hg'
                simp only [Value.func.injEq, Fn.yield.injEq] at hg'
                obtain ⟨rfl, _, htm⟩ := hg'
                obtain ⟨m1, m2, m3⟩ := g1.inv.kill hrl hl rfl (b := w.heap.size + 1) (by rw [hgam]; rfl) (.loop { b with state := .exhausted })
                have hend := run_endLoop (P := P) hh (by rw [hs]; exact hsb)
                generalize hW4 : w3.putObj (w.heap.size + 1) (.loop { b with state := .exhausted }) = W4 at m1 m3 hend
                refine ⟨b.pending, W4, hend, ?_⟩
                have hnew : RelX C ds ⟨sl, setEnt st1.subs R.rj [] (1, none)⟩ { a with defers := [markOf w.heap.size] ++ a.defers } W4 := by
                  refine ⟨γ3, imm3, ⟨m1, by rw [htm]; exact hlen, fun i => by have := VRel_mono m2 (fun _ x => x) m3 _ _ (hval i); rw [← htm] at this; exact this⟩, by rw [hgk]; simp, ?_, g4.trans m2, fun e => by rw [hnd] at e; cases e⟩
                  have := g3.mono (fun _ x => x) m3
                  rw [g5 rfl] at this
                  simpa using this
                have hq := hQ _ _ hnew
                rw [hj]
                revert hy'
                cases j with
                | none => intro hy'; simp only [jumpAX, Option.some.injEq] at hy'; subst hy'; exact hq
                | some cd =>
                  cases cd <;> intro hy' <;> simp only [jumpAX, Option.some.injEq, reduceCtorEq] at hy'
                  · subst hy'; exact wpIn_exit hq
                  · subst hy'; exact wpIn_ret hq
              · cases he
          · cases he
        cases e1 with
        | exit id => cases h2
        | normal => exact fin h2
        | ret => exact fin h2
    · cases hr
  · cases hr
end Go.Proofs.YtmekfllddifglaaDoor.AM

/- The abstract machine, part Na: a function from its code. Conditions: none. -/
set_option linter.unusedVariables false
set_option linter.unusedSimpArgs false
namespace Go.Proofs.YtmekfllddifglaaDoor.AM
open Go

def aResults (P : Program) (rs : List ResultVar) (sl : List AV) : RW AV :=
  (mapRW (aRes1 P sl) rs).bind fun xs => (mapRW (pub 60) xs).bind fun ys => .ret (tupA ys)

noncomputable def aFn (P : Program) (G : Gl) (cy : Carry) (H : Hints) (ex : Nat) (fn : Func) (c : Code) : FnA := fun args S =>
  (acode G cy H 0 c ⟨frameA fn args, pad S (fn.ntmps + ex)⟩).bind fun y => match y.1 with
    | .exit _ => none
    | .normal => ((aResults P fn.results.toList y.2.slots).run y.2.subs).map fun z => (z.1, z.2.take S.length)
    | .ret => ((aResults P fn.results.toList y.2.slots).run y.2.subs).map fun z => (z.1, z.2.take S.length)

theorem tupA_ok {imm : Nat → Prop} {w : World} {ys : List AV} {vs : List Value} (h : IRels imm w ys vs) : IRel imm w (tupA ys) (if hs : vs.toArray.size = 1 then vs.toArray[0] else .tuple vs.toArray) := by
  have hl := IRels_length h
  unfold tupA
  split
  · obtain ⟨u, us', rfl, h1, h2⟩ := h
    obtain rfl : us' = [] := h2
    simpa using h1
  · rename_i hne
    have : ¬ vs.toArray.size = 1 := by
      simp only [List.size_toArray, hl]
      intro e
      match ys, e with
      | [y], _ => exact hne y rfl
    rw [dif_neg this]
    exact ⟨vs, rfl, h⟩

theorem results_good {P : Program} {C : Ctx} {fn : Func} {γ : Gh} {imm : Nat → Prop} {st : St} {a : Act} {w : World} (h : Rel C γ imm st a w) {x : AV} {S' : Subs} (hr : (aResults P fn.results.toList st.slots).run st.subs = some (x, S')) :
    ∃ v, (results fn a.tmps).run P w = .ok v w ∧ To C st.subs γ imm w S' w (fun _ imm' => IRel imm' w x v) := by
  unfold aResults at hr
  rw [RW.run_bind] at hr
  obtain ⟨⟨xs, S1⟩, h1, h2⟩ := Option.bind_eq_some_iff.1 hr
  obtain ⟨rfl, vs, hvs, hrel⟩ := res_good fn.results.toList st.slots st.subs γ imm h.inv h.val xs S1 h1
  simp only at h2
  rw [RW.run_bind] at h2
  obtain ⟨⟨ys, S2⟩, h3, h4⟩ := Option.bind_eq_some_iff.1 h2
  simp only [RW.run, Option.some.injEq, Prod.mk.injEq] at h4
  obtain ⟨rfl, rfl⟩ := h4
  have hg := mapRW_good (C := C) (w := w) (f := pub 60) (fun S γ imm h x u hx => pub_good 60 S γ imm h x u hx) xs vs _ γ imm h.inv hrel ys _ h3
  obtain ⟨γ', imm', k1, k2, k3, k4, k5⟩ := hg
  refine ⟨_, ?_, γ', imm', k1, k2, k3, k4, tupA_ok k5⟩
  rw [results_eq, Array.mapM_eq_mapM_toList]
  simp [hvs]

/-- **A function from its code.** -/
theorem aFn_ok {P : Program} (hm : P.follows .mixedOrders = true) {G : Gl} {T : Tbl} (hT : TblOk P G T) {inl : InlT} (hI : InlOk P inl) {H : Hints} {ex : Nat} {f : FuncId} {fn : Func} {c : Code} (hf : P.funcs[f]? = some fn) (hb : fn.body = some c) (hok : okCode H.sus c = true)
    (hrf : ∀ x ∈ ranges 0 c, ∃ R : RgI, R.Ok P ∧ x.2.2.1 = R.c0.ps ∧ x.2.2.2.1 = R.c0.asg ∧ x.2.2.2.2 = R.c0.body ∧ ∀ st, H.rf x.1 st = aRange P G T inl R (opd G st.slots x.2.1) st)
    (hnm : ∀ b st st', H.nm b st = some st' → ∀ (C : Ctx) (ds : Kp) a w, ds.gk = [] → (∀ r p, ctr ds.S0 r p = 0) → RelX C ds st a w → RelX C ds st' a w) : FnOk P G f (aFn P G (carryI P G T inl) H ex fn c) := by
  intro args S res S' hr h0 C γ vals hC hi hv
  unfold aFn at hr
  obtain ⟨⟨y, st'⟩, h1, h2⟩ := Option.bind_eq_some_iff.1 hr
  have hx : RelX C ⟨S, γ, [], [], false⟩ ⟨frameA fn args, pad S (fn.ntmps + ex)⟩ { tmps := vals.toArray ++ Array.replicate (fn.ntmps - vals.toArray.size) undef, defers := [] } C.w0 :=
    ⟨γ, C.imm0, frame_rel (hi.pad _) (VRels_mono Ext.pad (fun _ x => x) (Keeps.refl _ _) _ _ hv), by simp, Marks.nil, Ext.pad, fun e => by cases e⟩
  have body : c.wpIn (Wd none) 0 P (bodyPostM (Wd none) 0 P fn fun e w' => ∃ u S2, e = .returned u ∧ S' = S2.take S.length ∧ To C S γ C.imm0 C.w0 S2 w' (fun _ imm' => IRel imm' w' res u)) { tmps := vals.toArray ++ Array.replicate (fn.ntmps - vals.toArray.size) undef, defers := [] } C.w0 := by
    refine acode_wp hm (carryI_ok hm hT hI) carryI_loc carryI_cls hC (H := H) (ds := ⟨S, γ, [], [], false⟩) (fun b st st' a w e hr => hnm b st st' e C _ a w rfl h0 hr) c 0 hok (fun x hx st y st' a w Q hr hrel hQ => ?_) _ y st' _ _ _ h1 hx fun a' w' hr' => ?_
    · obtain ⟨R, r1, r2, r3, r4, r5⟩ := hrf x hx
      rw [r2, r3, r4]
      rw [r5] at hr
      exact aRange_wp hm hT hI r1 hC rfl rfl h0 hr hrel hQ
    · obtain ⟨γ', imm', g1, _, g3, g4, g5⟩ := hr'
      obtain ⟨Ds, e, hn, hmk⟩ := g3
      simp only [List.append_nil] at e
      obtain ⟨imm1, w1, k1, k2⟩ := shed_all (P := P) (fn := fn) (tmps := a'.tmps) (R := fun e w' => ∃ u S2, e = .returned u ∧ S' = S2.take S.length ∧ To C S γ C.imm0 C.w0 S2 w' (fun _ imm' => IRel imm' w' res u)) Ds imm' w' g1 hn hmk
      have fin : ((aResults P fn.results.toList st'.slots).run st'.subs).map (fun z => (z.1, z.2.take S.length)) = some (res, S') → LeavesInM (Wd none) 0 P fn a'.tmps (fun e w' => ∃ u S2, e = .returned u ∧ S' = S2.take S.length ∧ To C S γ C.imm0 C.w0 S2 w' (fun _ imm' => IRel imm' w' res u)) a'.defers .returning w' := by
        intro hr
        obtain ⟨⟨x, S2⟩, hr2, e2⟩ := Option.map_eq_some_iff.1 hr
        simp only [Prod.mk.injEq] at e2
        obtain ⟨rfl, rfl⟩ := e2
        obtain ⟨v, hv1, γ2, imm2, q1, q2, q3, q4, q5⟩ := results_good k1 hr2
        rw [e]
        exact k2 ⟨v, hv1, v, S2, rfl, rfl, γ2, imm2, q1, g4.trans q2, fun b hb => q1.imm0 b hb, ⟨q1.keepI⟩, q5⟩
      cases y with
      | exit id => cases h2
      | normal => exact fin h2
      | ret => exact fin h2
  exact callsIn_wide.1 (callsIn_of_wp_marks hf hb trivial body)
end Go.Proofs.YtmekfllddifglaaDoor.AM
