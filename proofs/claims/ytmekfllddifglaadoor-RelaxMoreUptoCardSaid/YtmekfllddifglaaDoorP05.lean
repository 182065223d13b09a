/- The relax seat: Mr, Ms, Mt, Mu. Conditions: none. -/
import Derived.Test.YtmekfllddifglaaDoorP04
import Derived.OrdersIn
import Derived.LoopNIn
import Derived.Scope
set_option linter.unusedVariables false
set_option linter.unusedSimpArgs false
/- The abstract machine, part r: the frame, one operation in it, operations in the text's order. Conditions: none. -/
set_option linter.unusedVariables false
set_option linter.unusedSimpArgs false
namespace Go.Proofs.YtmekfllddifglaaDoor.AM
open Go

/-- All functions, any depth; within a round of a range over a function, or not. -/
def Wd (r : Option Nat) : Fence := { fn := fun _ => True, depth := none, alive := false, round := r }
theorem Wd_none : Wd none = Fence.wide := rfl
theorem callsIn_Wd {r : Option Nat} {n : Nat} {P : Program} {f : FuncId} {args : Array Value} {w : World} {R : Ending → World → Prop} (h : Calls P f args w R) : CallsIn (Wd r) n P f args w R := by
  refine ⟨trivial, fun cs _ => ?_⟩
  obtain ⟨e, w', fr, hR, hc, hf, hl⟩ := h cs
  refine ⟨e, w', fr, hR, ?_, hf, hl⟩
  have h2 := (comesIn_wide (P := P) (m := lone (Frame.enter P f args .normal) cs w) (m' := lone fr cs w') (e := e)).2 hc
  exact h2

/-- The package-level variables that are known. -/
abbrev Gl := Nat → Option (List AV)
def GOk (G : Gl) (imm : Nat → Prop) (w : World) : Prop := ∀ g cells, G g = some cells → CellsAt imm w cells g 0

/-- A frame: its slots, and what they own. -/
structure St where
  slots : List AV
  subs : Subs

def opd (G : Gl) (sl : List AV) : Operand → AV
  | .tmp t => sl.getD t .dead
  | .const v => ofV v
  | .global g => match G g with
    | some cells => .ref cells
    | none => .dead
  | .func f => .clo f [] []

structure Rel (C : Ctx) (γ : Gh) (imm : Nat → Prop) (st : St) (a : Act) (w : World) : Prop where
  inv : Inv C st.subs γ imm w
  len : st.slots.length ≤ a.tmps.size
  val : ∀ i, VRel st.subs γ imm w (st.slots.getD i .dead) (a.tmps.getD i undef)

theorem opd_ok {C : Ctx} {γ : Gh} {imm : Nat → Prop} {st : St} {a : Act} {w : World} {G : Gl} (h : Rel C γ imm st a w) (hG : GOk G imm w) (x : Operand) : VRel st.subs γ imm w (opd G st.slots x) (a.eval x) := by
  cases x with
  | tmp t => exact h.val t
  | const v => exact ofV_ok v
  | global g =>
    simp only [opd, Act.eval]
    split
    · rename_i cells hc
      exact ⟨g, 0, rfl, hG g cells hc⟩
    · trivial
  | func f => exact ⟨[], [], rfl, rfl, rfl⟩

def setD (sl : List AV) (d : Option Nat) (x : AV) : List AV := match d with
  | some d => sl.set d x
  | none => sl

theorem Rel.put {C : Ctx} {γ γ' : Gh} {imm imm' : Nat → Prop} {st : St} {a : Act} {w w' : World} (h : Rel C γ imm st a w) {S' : Subs} (hi : Inv C S' γ' imm' w') (he : Ext st.subs γ S' γ') (hm : ∀ b, imm b → imm' b) (hk : Keeps imm w w')
    (d : Option Nat) {x : AV} {u : Value} (hx : VRel S' γ' imm' w' x u) : Rel C γ' imm' ⟨setD st.slots d x, S'⟩ (a.put d u) w' := by
  cases d with
  | none => exact ⟨hi, h.len, fun i => VRel_mono he hm hk _ _ (h.val i)⟩
  | some d =>
    refine ⟨hi, by simpa [setD, Act.put] using h.len, fun i => ?_⟩
    simp only [setD, Act.put, List.getD_eq_getElem?_getD, List.getElem?_set, Array.getD_eq_getD_getElem?, Array.getElem?_setIfInBounds]
    by_cases hid : d = i
    · subst hid
      by_cases hlt : d < st.slots.length
      · have := h.len
        simp only [if_true, hlt, show d < a.tmps.size by omega, Option.getD_some]
        exact hx
      · simp only [if_true, hlt, if_false, Option.getD_none]
        trivial
    · simp only [hid, if_false]
      have := VRel_mono he hm hk _ _ (h.val i)
      simpa [List.getD_eq_getElem?_getD, Array.getD_eq_getD_getElem?] using this

/-- What is kept beside a frame: its places as they were when it was entered, and what others hold. -/
structure Kp where
  S0 : Subs
  γ0 : Gh
  gk : List ((Nat × List Nat × Nat) × Value)
  ms : List Deferred
  nd : Bool
/-- What is known of an object that lives on. -/
def GK (S : Subs) (γ : Gh) (q : (Nat × List Nat × Nat) × Value) : Prop := q.1.2.2 ≤ ctr S q.1.1 q.1.2.1 ∧ ∀ o, live S q.1.1 q.1.2.1 q.1.2.2 = some o → γ q.1.1 q.1.2.1 q.1.2.2 = q.2
theorem GK.mono {S S' : Subs} {γ γ' : Gh} (he : Ext S γ S' γ') {q : (Nat × List Nat × Nat) × Value} (h : GK S γ q) : GK S' γ' q := by
  obtain ⟨h1, h2⟩ := h
  obtain ⟨k1, k2⟩ := he _ _ _ h1
  refine ⟨k1, fun o' ho' => ?_⟩
  obtain ⟨o, ho, _, hg⟩ := k2 o' ho'
  rw [hg]; exact h2 o ho
def markOf (D : Nat) : Deferred := { target := .collected D, args := #[] }
/-- Nothing is deferred but the marks of ranges over functions, with nothing collected. -/
def Marks (N : Nat) (imm : Nat → Prop) (w : World) (l : List Deferred) : Prop := ∃ Ds : List Nat, l = Ds.map markOf ∧ Ds.Nodup ∧ ∀ D ∈ Ds, N ≤ D ∧ imm D ∧ w.heap[D]? = some (.deferred (some []))
theorem Marks.mono {N : Nat} {imm imm' : Nat → Prop} {w w' : World} {l : List Deferred} (h : Marks N imm w l) (hm : ∀ b, imm b → imm' b) (hk : Keeps imm w w') : Marks N imm' w' l := by
  obtain ⟨Ds, e, hn, h⟩ := h
  exact ⟨Ds, e, hn, fun D hD => ⟨(h D hD).1, hm D (h D hD).2.1, by rw [hk.same D (h D hD).2.1, (h D hD).2.2]⟩⟩
theorem Marks.nil {N : Nat} {imm : Nat → Prop} {w : World} : Marks N imm w [] := ⟨[], rfl, List.nodup_nil, fun _ h => by cases h⟩
def RelX (C : Ctx) (ds : Kp) (st : St) (a : Act) (w : World) : Prop := ∃ γ imm, Rel C γ imm st a w ∧ (∀ q ∈ ds.gk, GK st.subs γ q) ∧ Marks C.w0.heap.size imm w (a.defers ++ ds.ms) ∧ Ext ds.S0 ds.γ0 st.subs γ ∧ (ds.nd = true → a.defers = [])

/-- How an operation is carried out abstractly: as programs over the store. -/
abbrev Carry := Nat → Oper → (Operand → AV) → RW AV

/-- ... and soundly: either it comes to a value, or it calls a function that does. -/
def CarryOk (P : Program) (G : Gl) (cy : Carry) : Prop :=
  ∀ (C : Ctx) (S : Subs) (γ : Gh) (imm : Nat → Prop) (w : World), Inv C S γ imm w → GOk G imm w → ∀ (d : Nat) (o : Oper) (ρ : Operand → AV) (η : Operand → Value), (∀ x, VRel S γ imm w (ρ x) (η x)) →
    ∀ x S', (cy d o ρ).run S = some (x, S') → (∀ c, o.op ≠ .defer c) ∧
      ((∃ u w', Outs P (execOp η o) w u w' ∧ To C S γ imm w S' w' (fun γ' imm' => VRel S' γ' imm' w' x u)) ∨
       (∃ f args w1, (execOp η o).run P w = .ok (.enter f args) w1 ∧ Calls P f args w1 fun e w' => ∃ u, e = .returned u ∧ To C S γ imm w S' w' (fun γ' imm' => VRel S' γ' imm' w' x u)) ∨
       (∃ l f tmps asg body, (execOp η o).run P w = .ok (.round l f tmps asg body) w ∧ RoundIn Fence.wide 0 P l f tmps asg body w fun e w' => ∃ u, e = .returned u ∧ To C S γ imm w S' w' (fun γ' imm' => VRel S' γ' imm' w' x u)))
theorem roundIn_Wd {r : Option Nat} {n : Nat} {P : Program} {l : Nat} {f : FuncId} {tmps : Array Value} {asg body : Code} {w : World} {R : Ending → World → Prop} (h : RoundIn Fence.wide 0 P l f tmps asg body w R) : RoundIn (Wd r) n P l f tmps asg body w R :=
  ⟨trivial, fun c cs _ => h.2 c cs (room_wide _)⟩

def stepO (G : Gl) (cy : Carry) (o : Oper) (st : St) : Option St :=
  ((cy (o.dst.getD 0) o (opd G st.slots)).run st.subs).map fun y => ⟨setD st.slots o.dst y.1, y.2⟩

theorem GOk.mono {G : Gl} {imm imm' : Nat → Prop} {w w' : World} (h : GOk G imm w) (hm : ∀ b, imm b → imm' b) (hk : Keeps imm w w') : GOk G imm' w' := fun g cells hc => CellsAt_mono hm hk _ _ _ (h g cells hc)

/-- The surroundings hold the known variables. -/
structure COk (C : Ctx) (G : Gl) : Prop where
  glob : GOk G C.imm0 C.w0
theorem COk.at {C : Ctx} {G : Gl} (h : COk C G) {S : Subs} {γ : Gh} {imm : Nat → Prop} {w : World} (hi : Inv C S γ imm w) : GOk G imm w :=
  h.glob.mono hi.imm0 ⟨hi.keepI⟩

theorem stepO_wp {P : Program} {G : Gl} {cy : Carry} (hcy : CarryOk P G cy) {C : Ctx} (hC : COk C G) {ds : Kp} {o : Oper} {st st' : St} (hs : stepO G cy o st = some st') {a : Act} {w : World} (h : RelX C ds st a w)
    {r : Option Nat} {n : Nat} {K : Act → World → Prop} {Q : Exit → Act → World → Prop} (hK : ∀ a' w', RelX C ds st' a' w' → K a' w') : o.wpIn (Wd r) n P a w K Q := by
  obtain ⟨γ, imm, hr, hh, hd, hE, hN⟩ := h
  unfold stepO at hs
  obtain ⟨⟨x, S'⟩, h1, rfl⟩ := Option.map_eq_some_iff.1 hs
  obtain ⟨hnd, hout⟩ := hcy C st.subs γ imm w hr.inv (hC.at hr.inv) _ o _ a.eval (fun x => opd_ok hr (hC.at hr.inv) x) x S' h1
  refine ⟨fun _ _ => trivial, ?_⟩
  rw [Oper.semAt_eq _ _ _ hnd]
  have fin : ∀ u w', To C st.subs γ imm w S' w' (fun γ' imm' => VRel S' γ' imm' w' x u) → K (a.put o.dst u) w' := by
    rintro u w' ⟨γ', imm', g1, g2, g3, g4, g5⟩
    refine hK _ _ ⟨γ', imm', Rel.put hr g1 g2 g3 g4 o.dst g5, fun p hp => (hh p hp).mono g2, ?_, hE.trans g2, ?_⟩
    · have : (a.put o.dst u).defers = a.defers := by cases o.dst <;> rfl
      rw [this]
      exact hd.mono g3 g4
    · have : (a.put o.dst u).defers = a.defers := by cases o.dst <;> rfl
      rw [this]
      exact hN
  rcases hout with ⟨u, w', ho, ht⟩ | ⟨f, args, w1, ho, hc⟩ | ⟨l, f, tmps, asg, body, ho, hc⟩
  · rcases ho with ho | ⟨ho, rfl⟩
    · rw [ho]; exact fin u w' ht
    · rw [ho]; exact fin undef w' ht
  · rw [ho]
    refine ⟨fun hs => by simp [Wd] at hs, (callsIn_Wd hc).mono ?_⟩
    rintro e w' ⟨u, rfl, ht⟩
    exact fin u w' ht
  · rw [ho]
    refine ⟨fun hs => by simp [Wd] at hs, (roundIn_Wd hc).mono ?_⟩
    rintro e w' ⟨u, rfl, ht⟩
    exact fin u w' ht

/-! ### Guards, and operations in order -/
def wantA (ops : Array Oper) (sl : List AV) (o : Oper) : Option Bool := match o.guard with
  | none => some true
  | some (j, want) => match (ops[j]?).bind (·.dst) with
    | some t => if t < sl.length then (match sl.getD t .dead with
      | .v (.bool b) => some (b == want)
      | .v (.tuple _) => some false
      | _ => none) else none
    | none => none
theorem want_ok {C : Ctx} {γ : Gh} {imm : Nat → Prop} {st : St} {a : Act} {w : World} (h : Rel C γ imm st a w) {ops : Array Oper} {o : Oper} {b : Bool} (hw : wantA ops st.slots o = some b) : Region.wanted o (yielded ops a.tmps) = b := by
  unfold wantA at hw
  unfold Region.wanted
  split at hw
  · rename_i hg
    simp only [Option.some.injEq] at hw
    subst hw
    simp [hg]
  · rename_i j want hg
    split at hw
    · rename_i t ht
      split at hw
      · rename_i hlt
        split at hw
        · rename_i b' hb
          simp only [Option.some.injEq] at hw
          subst hw
          have hv := h.val t
          rw [hb] at hv
          have hv' : a.tmps.getD t undef = .bool b' := hv
          have hlt' : t < a.tmps.size := Nat.lt_of_lt_of_le hlt h.len
          have hget : a.tmps[t]? = some (.bool b') := by
            rw [Array.getD_eq_getD_getElem?, Array.getElem?_eq_getElem hlt'] at hv'
            rw [Array.getElem?_eq_getElem hlt']
            simpa using hv'
          simp [hg, yielded, ht, hget]
        · rename_i x hb
          simp only [Option.some.injEq] at hw
          subst hw
          have hv := h.val t
          rw [hb] at hv
          have hv' : a.tmps.getD t undef = .tuple x := hv
          have hlt' : t < a.tmps.size := Nat.lt_of_lt_of_le hlt h.len
          have hget : a.tmps[t]? = some (.tuple x) := by
            rw [Array.getD_eq_getD_getElem?, Array.getElem?_eq_getElem hlt'] at hv'
            rw [Array.getElem?_eq_getElem hlt']
            simpa using hv'
          simp [hg, yielded, ht, hget]
        · cases hw
      · cases hw
    · cases hw

/-- An operation under its guard: passed over, its slot says nothing. -/
def stepG' (G : Gl) (cy : Carry) (ops : Array Oper) (o : Oper) (st : St) : Option St :=
  (wantA ops st.slots o).bind fun b => if b then stepO G cy o st else some ⟨setD st.slots o.dst (.v undef), st.subs⟩

def aops (G : Gl) (cy : Carry) (ops : Array Oper) : List Oper → St → Option St
  | [], st => some st
  | o :: rest, st => (stepG' G cy ops o st).bind (aops G cy ops rest)

theorem stepG_wp {P : Program} {G : Gl} {cy : Carry} (hcy : CarryOk P G cy) {C : Ctx} (hC : COk C G) {ds : Kp} {ops : Array Oper} {o : Oper} {st st' : St} (hs : stepG' G cy ops o st = some st') {a : Act} {w : World} (h : RelX C ds st a w)
    {r : Option Nat} {n : Nat} {K : Act → World → Prop} {Q : Exit → Act → World → Prop} (hK : ∀ a' w', RelX C ds st' a' w' → K a' w') :
    if Region.wanted o (yielded ops a.tmps) then o.wpIn (Wd r) n P a w K Q else (∀ f, o.about P w a.eval = some f → (Wd r).fn f) ∧ K (a.put o.dst undef) w := by
  obtain ⟨γ, imm, hr, hh, hd, hE, hN⟩ := h
  unfold stepG' at hs
  obtain ⟨b, hb, hs⟩ := Option.bind_eq_some_iff.1 hs
  have hw := want_ok hr hb
  rw [hw]
  cases b with
  | true => exact stepO_wp hcy hC hs ⟨γ, imm, hr, hh, hd, hE, hN⟩ hK
  | false =>
    simp only [Bool.false_eq_true, if_false, Option.some.injEq] at hs
    subst hs
    refine ⟨fun _ _ => trivial, hK _ _ ⟨γ, imm, Rel.put hr hr.inv (Ext.refl _ _) (fun _ x => x) (Keeps.refl _ _) o.dst (show VRel st.subs γ imm w (.v undef) undef from rfl), hh, ?_, hE, ?_⟩⟩
    · have : (a.put o.dst undef).defers = a.defers := by cases o.dst <;> rfl
      rw [this]
      exact hd
    · have : (a.put o.dst undef).defers = a.defers := by cases o.dst <;> rfl
      rw [this]
      exact hN

theorem aops_wp {P : Program} {G : Gl} {cy : Carry} (hcy : CarryOk P G cy) {C : Ctx} (hC : COk C G) {ds : Kp} {ops : Array Oper} {r : Option Nat} {n : Nat} {Q : Exit → Act → World → Prop} : ∀ (l : List Oper) (k : Nat) (st st' : St) (a : Act) (w : World),
    (∀ j, l[j]? = ops[k + j]?) → k + l.length = ops.size → aops G cy ops l st = some st' → RelX C ds st a w → (∀ a' w', RelX C ds st' a' w' → Q .normal a' w') → wpOpsIn (Wd r) n P ops Q (List.range' k l.length) a w
  | [], k, st, st', a, w, hl, hk, hs, h, hQ => by
    simp only [aops, Option.some.injEq] at hs
    subst hs
    simp only [List.length_nil, List.range'_zero, wpOpsIn]
    exact hQ a w h
  | o :: l, k, st, st', a, w, hl, hk, hs, h, hQ => by
    simp only [aops] at hs
    obtain ⟨st1, h1, h2⟩ := Option.bind_eq_some_iff.1 hs
    have h0 : ops[k]? = some o := by simpa using (hl 0).symm
    simp only [List.length_cons, List.range'_succ, wpOpsIn, h0]
    exact stepG_wp hcy hC h1 h fun a' w' h' => aops_wp hcy hC l (k + 1) st1 st' a' w' (fun j => by have := hl (j + 1); simpa [Nat.add_assoc, Nat.add_comm 1 j] using this) (by simp at hk; omega) h2 h' hQ

theorem region_wp {P : Program} {G : Gl} {cy : Carry} (hcy : CarryOk P G cy) {C : Ctx} (hC : COk C G) {ds : Kp} {id : Nat} {ops : Array Oper} {r : Option Nat} {n : Nat} {Q : Exit → Act → World → Prop} {st st' : St} {a : Act} {w : World}
    (hs : aops G cy ops ops.toList st = some st') (h : RelX C ds st a w) (hQ : ∀ a' w', RelX C ds st' a' w' → Q .normal a' w') : (Code.region id ops false).wpIn (Wd r) n P Q a w := by
  refine wpIn_region ?_
  rw [List.range_eq_range', ← Array.length_toList]
  exact aops_wp hcy hC ops.toList 0 st st' a w (by simp) (by simp) hs h hQ

/-- A draw changes nothing that is told. -/
theorem RelX.drew {C : Ctx} {ds : Kp} {st : St} {a : Act} {w : World} (h : RelX C ds st a w) : RelX C ds st a w.drew := by
  obtain ⟨γ, imm, hr, hh, hd, hE, hN⟩ := h
  have hk : Keeps imm w w.drew := ⟨fun b hb => rfl⟩
  refine ⟨γ, imm, ⟨?_, hr.len, fun i => VRel_mono (Ext.refl _ _) (fun _ x => x) hk _ _ (hr.val i)⟩, hh, hd.mono (fun _ x => x) hk, hE, hN⟩
  exact Inv.step (fun _ => False) hr.inv (Ext.refl _ _) rfl rfl rfl (Nat.le_refl _) (fun _ x => x.elim) (fun _ _ _ => rfl) (fun _ x => x) (fun _ x => .inl x)
    (fun r p ver o ho => .inl ⟨ho, rfl, fun b hb => ⟨id, fun hf => (hr.inv.own _ _ _ _ b ho hb).2.2 hf⟩⟩) hr.inv.inj
end Go.Proofs.YtmekfllddifglaaDoor.AM

/- The abstract machine, part s: operations in any order that their edges leave. Conditions: none. -/
set_option linter.unusedVariables false
set_option linter.unusedSimpArgs false
namespace Go.Proofs.YtmekfllddifglaaDoor.AM
open Go

/-! ### What a program over the store looks at, and what it leaves alone -/
theorem sub_set (S : Subs) (r : Nat) (s : Sub) (h : r < S.length) (k : Nat) : sub (S.set r s) k = if r = k then s else sub S k := by
  unfold sub
  by_cases e : r = k
  · subst e; simp [List.getD_eq_getElem?_getD, h]
  · simp [List.getD_eq_getElem?_getD, List.getElem?_set_ne e, e]
theorem subs_ext {S T : Subs} (hl : S.length = T.length) (h : ∀ k, sub S k = sub T k) : S = T := by
  refine List.ext_getElem hl fun k h1 h2 => ?_
  have := h k
  unfold sub at this
  simpa [List.getD_eq_getElem?_getD, h1, h2] using this

abbrev FP := List Nat × List Nat
def FP.off (f g : FP) : Prop := (∀ r ∈ f.2, r ∉ g.1 ∧ r ∉ g.2) ∧ (∀ r ∈ g.2, r ∉ f.1 ∧ r ∉ f.2)
def FP.offB (f g : FP) : Bool := f.2.all (fun r => !g.1.contains r && !g.2.contains r) && g.2.all (fun r => !f.1.contains r && !f.2.contains r)
theorem FP.offB_ok {f g : FP} (h : f.offB g = true) : f.off g := by
  simpa [FP.offB, FP.off] using h
theorem FP.off_symm {f g : FP} (h : f.off g) : g.off f := ⟨h.2, h.1⟩

theorem RW.frame {α : Type} : ∀ (m : RW α) (S : Subs) (x : α) (S' : Subs), m.run S = some (x, S') → ∀ r, r ∉ (m.reach S).2 → sub S' r = sub S r
  | .ret a, S, x, S', h, r, hr => by simp only [RW.run, Option.some.injEq, Prod.mk.injEq] at h; rw [h.2]
  | .fail, S, x, S', h, r, hr => by simp [RW.run] at h
  | .get r' k, S, x, S', h, r, hr => RW.frame (k (sub S r')) S x S' h r hr
  | .put r' s k, S, x, S', h, r, hr => by
    simp only [RW.run] at h
    split at h
    · rename_i hlt
      simp only [RW.reach, List.mem_cons, not_or] at hr
      rw [RW.frame k _ x S' h r hr.2, sub_set S r' s hlt, if_neg (fun e => hr.1 e.symm)]
    · cases h
  | .all f, S, x, S', h, r, hr => by
    have hl := (lenO_some h).2
    simp only [RW.reach, List.mem_range, Nat.not_lt] at hr
    simp only [] at hl
    simp [sub, List.getD_eq_getElem?_getD, List.getElem?_eq_none hr, List.getElem?_eq_none (show S'.length ≤ r by omega)]
/-- The same in any store that is the same where it is looked at. -/
theorem RW.elsewhere {α : Type} : ∀ (m : RW α) (S T : Subs) (x : α) (S' : Subs), m.run S = some (x, S') → T.length = S.length → (∀ r, r ∈ (m.reach S).1 ∨ r ∈ (m.reach S).2 → sub T r = sub S r) →
    ∃ T', m.run T = some (x, T') ∧ m.reach T = m.reach S ∧ ∀ r, r ∈ (m.reach S).2 → sub T' r = sub S' r
  | .ret a, S, T, x, S', h, hl, hr => by
    simp only [RW.run, Option.some.injEq, Prod.mk.injEq] at h
    exact ⟨T, by rw [RW.run, h.1], rfl, fun r h => by simp [RW.reach] at h⟩
  | .fail, S, T, x, S', h, hl, hr => by simp [RW.run] at h
  | .get r' k, S, T, x, S', h, hl, hr => by
    have e : sub T r' = sub S r' := hr r' (.inl (by simp [RW.reach]))
    obtain ⟨T', h1, h2, h3⟩ := RW.elsewhere (k (sub S r')) S T x S' h hl fun r hr' => hr r (by rcases hr' with hr' | hr' <;> simp [RW.reach, hr'])
    exact ⟨T', by rw [RW.run, e]; exact h1, by simp only [RW.reach, e, h2], fun r hr => h3 r (by simpa [RW.reach] using hr)⟩
  | .put r' s k, S, T, x, S', h, hl, hr => by
    simp only [RW.run] at h
    split at h
    · rename_i hlt
      have hlt' : r' < T.length := by omega
      obtain ⟨T', h1, h2, h3⟩ := RW.elsewhere k (S.set r' s) (T.set r' s) x S' h (by simp [hl]) fun r hr' => by
        rw [sub_set S r' s hlt, sub_set T r' s hlt']
        split
        · rfl
        · exact hr r (by rcases hr' with hr' | hr' <;> simp [RW.reach, hr'])
      refine ⟨T', by rw [RW.run, if_pos hlt']; exact h1, by simp only [RW.reach, h2], fun r hr => ?_⟩
      simp only [RW.reach, List.mem_cons] at hr
      by_cases hr2 : r ∈ (k.reach (S.set r' s)).2
      · exact h3 r hr2
      · rcases hr with rfl | hr
        · rw [RW.frame k _ x S' h _ hr2, RW.frame k _ x T' h1 _ (by rw [h2]; exact hr2), sub_set S _ s hlt, sub_set T _ s hlt']; simp
        · exact (hr2 hr).elim
    · cases h
  | .all f, S, T, x, S', h, hl, hr => by
    have e : T = S := subs_ext hl fun k => by
      by_cases hk : k < S.length
      · exact hr k (.inl (by simp [RW.reach, hk]))
      · simp [sub, List.getD_eq_getElem?_getD, List.getElem?_eq_none (show S.length ≤ k by omega), List.getElem?_eq_none (show T.length ≤ k by omega)]
    subst e
    exact ⟨S', h, rfl, fun _ _ => rfl⟩
/-- Two of them, apart from each other: either way round. -/
theorem RW.swap {α β : Type} (m : RW α) (m' : RW β) (S S1 S2 : Subs) (x : α) (y : β) (h1 : m.run S = some (x, S1)) (h2 : m'.run S1 = some (y, S2)) (ho : FP.off (m.reach S) (m'.reach S1)) :
    ∃ T, m'.run S = some (y, T) ∧ m.run T = some (x, S2) ∧ m'.reach S = m'.reach S1 ∧ m.reach T = m.reach S := by
  have hl1 := RW.len_run _ _ _ _ h1
  have hl2 := RW.len_run _ _ _ _ h2
  have f1 := RW.frame _ _ _ _ h1
  have f2 := RW.frame _ _ _ _ h2
  obtain ⟨T, g1, g2, g3⟩ := RW.elsewhere m' S1 S y S2 h2 hl1.symm fun r hr => by
    rw [f1 r]
    intro hc
    rcases hr with hr | hr
    · exact (ho.1 r hc).1 hr
    · exact (ho.1 r hc).2 hr
  have hlT := RW.len_run _ _ _ _ g1
  have fT := RW.frame _ _ _ _ g1
  obtain ⟨T', k1, k2, k3⟩ := RW.elsewhere m S T x S1 h1 (by omega) fun r hr => by
    rw [fT r]
    rw [g2]
    intro hc
    rcases hr with hr | hr
    · exact (ho.2 r hc).1 hr
    · exact (ho.2 r hc).2 hr
  have hlT' := RW.len_run _ _ _ _ k1
  have fT' := RW.frame _ _ _ _ k1
  have : T' = S2 := by
    refine subs_ext (by omega) fun r => ?_
    by_cases ha : r ∈ (m.reach S).2
    · have hb := ho.1 r ha
      rw [k3 r ha, f2 r hb.2]
    · by_cases hb : r ∈ (m'.reach S1).2
      · rw [fT' r (by rw [k2]; exact ha), g3 r hb]
      · rw [fT' r (by rw [k2]; exact ha), fT r (by rw [g2]; exact hb), f2 r hb, f1 r ha]
  subst this
  exact ⟨T, g1, k1, g2, k2⟩

/-! ### Operations -/
/-- Of the operands of an operation alone it depends what is carried out. -/
def CarryLoc (cy : Carry) : Prop := ∀ d o (ρ ρ' : Operand → AV), (∀ x ∈ o.op.operands, ρ x = ρ' x) → cy d o ρ = cy d o ρ'

def fpG (G : Gl) (cy : Carry) (ops : Array Oper) (o : Oper) (st : St) : FP := match wantA ops st.slots o with
  | some true => (cy (o.dst.getD 0) o (opd G st.slots)).reach st.subs
  | _ => ([], [])

theorem opd_setD {G : Gl} {sl : List AV} {dst : Option Nat} {v : AV} {x : Operand} (h : ∀ d, dst = some d → x ≠ .tmp d) : opd G (setD sl dst v) x = opd G sl x := by
  cases dst with
  | none => rfl
  | some d =>
    cases x with
    | tmp t =>
      have : d ≠ t := fun e => h d rfl (by rw [e])
      simp [opd, setD, List.getD_eq_getElem?_getD, List.getElem?_set_ne this]
    | _ => rfl
theorem wantA_setD {ops : Array Oper} {o : Oper} {sl : List AV} {dst : Option Nat} {v : AV} (h : ∀ d, dst = some d → d ∉ o.looksAt ops) : wantA ops (setD sl dst v) o = wantA ops sl o := by
  cases dst with
  | none => rfl
  | some d =>
    unfold wantA
    cases hg : o.guard with
    | none => rfl
    | some g =>
      obtain ⟨j, want⟩ := g
      simp only
      cases ht : (ops[j]?).bind (·.dst) with
      | none => rfl
      | some t =>
        have : d ≠ t := fun e => h d rfl (by subst e; simp [Oper.looksAt, hg, ht])
        simp [setD, List.getD_eq_getElem?_getD, List.getElem?_set_ne this]
theorem operands_setD {G : Gl} {ops : Array Oper} {o : Oper} {sl : List AV} {dst : Option Nat} {v : AV} (h : ∀ d, dst = some d → d ∉ o.looksAt ops) : ∀ x ∈ o.op.operands, opd G (setD sl dst v) x = opd G sl x := fun x hx =>
  opd_setD fun d hd hxd => h d hd (by
    subst hxd
    exact List.mem_append_left _ (List.mem_filterMap.2 ⟨.tmp d, by simpa using hx, rfl⟩))
theorem setD_comm (sl : List AV) {d d' : Option Nat} (h : ∀ k, d = some k → d' ≠ some k) (v v' : AV) : setD (setD sl d v) d' v' = setD (setD sl d' v') d v := by
  cases d with
  | none => rfl
  | some d => cases d' with
    | none => rfl
    | some d' =>
      have : d ≠ d' := fun e => h d rfl (by rw [e])
      simp only [setD]
      exact List.set_comm _ _ this

theorem step_swap {G : Gl} {cy : Carry} (hl : CarryLoc cy) {ops : Array Oper} {o o' : Oper} {st s1 s2 : St} (h1 : stepG' G cy ops o st = some s1) (h2 : stepG' G cy ops o' s1 = some s2) (hap : o.apart ops o' = true)
    (ho : FP.off (fpG G cy ops o st) (fpG G cy ops o' s1)) :
    ∃ t, stepG' G cy ops o' st = some t ∧ stepG' G cy ops o t = some s2 ∧ fpG G cy ops o' st = fpG G cy ops o' s1 ∧ fpG G cy ops o t = fpG G cy ops o st := by
  obtain ⟨a1, a2, a3⟩ := Oper.apart_spec hap
  unfold stepG' at h1 h2
  obtain ⟨b, hb, h1⟩ := Option.bind_eq_some_iff.1 h1
  obtain ⟨b', hb', h2⟩ := Option.bind_eq_some_iff.1 h2
  have W : ∀ (sl : List AV) (v : AV), wantA ops (setD sl o.dst v) o' = wantA ops sl o' := fun sl v => wantA_setD a1
  have W' : ∀ (sl : List AV) (v : AV), wantA ops (setD sl o'.dst v) o = wantA ops sl o := fun sl v => wantA_setD a3
  have O : ∀ (sl : List AV) (v : AV), cy (o'.dst.getD 0) o' (opd G (setD sl o.dst v)) = cy (o'.dst.getD 0) o' (opd G sl) := fun sl v => hl _ _ _ _ (operands_setD a1)
  have O' : ∀ (sl : List AV) (v : AV), cy (o.dst.getD 0) o (opd G (setD sl o'.dst v)) = cy (o.dst.getD 0) o (opd G sl) := fun sl v => hl _ _ _ _ (operands_setD a3)
  have hcomm := setD_comm (d := o.dst) (d' := o'.dst) (sl := st.slots) a2
  cases b with
  | false =>
    simp only [Bool.false_eq_true, if_false, Option.some.injEq] at h1
    subst h1
    rw [W] at hb'
    have F' : fpG G cy ops o' ⟨setD st.slots o.dst (.v undef), st.subs⟩ = fpG G cy ops o' st := by simp only [fpG, W, O]
    cases b' with
    | false =>
      simp only [Bool.false_eq_true, if_false, Option.some.injEq] at h2
      subst h2
      refine ⟨⟨setD st.slots o'.dst (.v undef), st.subs⟩, by simp [stepG', hb'], by simp [stepG', W', hb, hcomm], F'.symm, by simp only [fpG, W', O']⟩
    | true =>
      simp only [if_true, stepO, O] at h2
      obtain ⟨⟨y, S2⟩, k2, rfl⟩ := Option.map_eq_some_iff.1 h2
      refine ⟨⟨setD st.slots o'.dst y, S2⟩, by simp [stepG', hb', stepO, k2], by simp [stepG', W', hb, hcomm], F'.symm, by simp only [fpG, W', hb]⟩
  | true =>
    simp only [if_true, stepO] at h1
    obtain ⟨⟨x, S1⟩, k1, rfl⟩ := Option.map_eq_some_iff.1 h1
    simp only [W] at hb'
    cases b' with
    | false =>
      simp only [Bool.false_eq_true, if_false, Option.some.injEq] at h2
      subst h2
      refine ⟨⟨setD st.slots o'.dst (.v undef), st.subs⟩, by simp [stepG', hb'], by simp [stepG', W', hb, stepO, O', k1, hcomm], by simp [fpG, W, hb'], by simp only [fpG, W', O']⟩
    | true =>
      simp only [if_true, stepO, O] at h2
      obtain ⟨⟨y, S2⟩, k2, rfl⟩ := Option.map_eq_some_iff.1 h2
      simp only [fpG, hb, W, hb', O] at ho
      obtain ⟨T, g1, g2, g3, g4⟩ := RW.swap _ _ _ _ _ _ _ k1 k2 ho
      refine ⟨⟨setD st.slots o'.dst y, T⟩, by simp [stepG', hb', stepO, g1], by simp [stepG', W', hb, stepO, O', g2, hcomm], by simp only [fpG, W, hb', O, g3], by simp only [fpG, W', hb, O', g4]⟩

/-! ### A list of operations, each with what it reaches -/
def stepF (G : Gl) (cy : Carry) (ops : Array Oper) (x : Nat × FP) (st : St) : Option St := match ops[x.1]? with
  | some o => if fpG G cy ops o st = x.2 then stepG' G cy ops o st else none
  | none => none
def runF (G : Gl) (cy : Carry) (ops : Array Oper) : List (Nat × FP) → St → Option St
  | [], st => some st
  | x :: l, st => (stepF G cy ops x st).bind (runF G cy ops l)
def Indep (ops : Array Oper) (x y : Nat × FP) : Prop := (∃ o o', ops[x.1]? = some o ∧ ops[y.1]? = some o' ∧ o.apart ops o' = true) ∧ FP.off x.2 y.2

theorem stepF_swap {G : Gl} {cy : Carry} (hl : CarryLoc cy) {ops : Array Oper} {x y : Nat × FP} {st s1 s2 : St} (h1 : stepF G cy ops x st = some s1) (h2 : stepF G cy ops y s1 = some s2) (hi : Indep ops x y) :
    ∃ t, stepF G cy ops y st = some t ∧ stepF G cy ops x t = some s2 := by
  obtain ⟨⟨o, o', ho, ho', hap⟩, hoff⟩ := hi
  simp only [stepF, ho, ho'] at h1 h2 ⊢
  split at h1
  · rename_i e1
    split at h2
    · rename_i e2
      obtain ⟨t, t1, t2, t3, t4⟩ := step_swap hl h1 h2 hap (by rw [e1, e2]; exact hoff)
      exact ⟨t, by rw [if_pos (by rw [t3, e2])]; exact t1, by rw [if_pos (by rw [t4, e1])]; exact t2⟩
    · cases h2
  · cases h1

theorem runF_front {G : Gl} {cy : Carry} (hl : CarryLoc cy) {ops : Array Oper} {y : Nat × FP} {l2 : List (Nat × FP)} : ∀ (l1 : List (Nat × FP)) (st st' : St), runF G cy ops (l1 ++ y :: l2) st = some st' → (∀ x ∈ l1, Indep ops x y) →
    ∃ t, stepF G cy ops y st = some t ∧ runF G cy ops (l1 ++ l2) t = some st'
  | [], st, st', h, _ => by
    simp only [List.nil_append, runF] at h
    exact Option.bind_eq_some_iff.1 h
  | x :: l1, st, st', h, hi => by
    simp only [List.cons_append, runF] at h
    obtain ⟨s1, h1, h2⟩ := Option.bind_eq_some_iff.1 h
    obtain ⟨t, t1, t2⟩ := runF_front hl l1 s1 st' h2 fun z hz => hi z (by simp [hz])
    obtain ⟨u, u1, u2⟩ := stepF_swap hl h1 t1 (hi x (by simp))
    exact ⟨u, u1, by simp only [List.cons_append, runF, u2, Option.bind_some, t2]⟩

/-! ### Any order -/
def Closed (ops : Array Oper) (listed : Array Bool) : Prop := ∀ j o, ops[j]? = some o → listed.getD j true = true → ∀ e ∈ o.after, Region.binds .any e = true → listed.getD e.on false = true
/-- i is taken before j is. -/
def Anc (ops : Array Oper) (i j : Nat) : Prop := ∀ listed, Closed ops listed → j ∈ Region.ready .any ops listed → listed.getD i false = true

theorem any_wp {P : Program} {G : Gl} {cy : Carry} (hcy : CarryOk P G cy) (hloc : CarryLoc cy) {C : Ctx} (hC : COk C G) {ds : Kp} {ops : Array Oper} (hback : ∀ j o, ops[j]? = some o → ∀ e ∈ o.after, Region.binds .any e = true → e.on < j)
    {r : Option Nat} {n : Nat} {Q : Exit → Act → World → Prop} {st' : St} (hQ : ∀ a' w', RelX C ds st' a' w' → Q .normal a' w') :
    ∀ (fuel : Nat) (L : List (Nat × FP)) (listed : Array Bool) (st : St) (a : Act) (w : World), L.length = fuel → listed.size = ops.size → (∀ i, i < ops.size → (listed.getD i true = false ↔ i ∈ L.map (·.1))) → (∀ i ∈ L.map (·.1), i < ops.size) →
      L.Pairwise (fun x y => x.1 < y.1 ∧ (Anc ops x.1 y.1 ∨ Indep ops x y)) → Closed ops listed → runF G cy ops L st = some st' → RelX C ds st a w → wpAnyIn (Wd r) n P .any ops Q fuel listed a w := by
  intro fuel
  induction fuel with
  | zero =>
    intro L listed st a w hlen hsz hun hlt hpw hcl hrun hrel
    have hL : L = [] := List.length_eq_zero_iff.1 hlen
    subst hL
    simp only [runF, Option.some.injEq] at hrun
    subst hrun
    refine ⟨?_, hQ a w hrel⟩
    refine List.eq_nil_iff_forall_not_mem.2 fun j hj => ?_
    obtain ⟨h0, o, ho, _⟩ := mem_ready.1 hj
    have hj' : j < ops.size := (Array.getElem?_eq_some_iff.1 ho).1
    simpa using (hun j hj').1 h0
  | succ fuel ih =>
    intro L listed st a w hlen hsz hun hlt hpw hcl hrun hrel
    refine ⟨fun hr => ?_, fun j hj => ?_⟩
    · exfalso
      cases L with
      | nil => simp at hlen
      | cons x l =>
        have hx := hlt x.1 (by simp)
        have hx0 := (hun x.1 hx).2 (by simp)
        have : x.1 ∈ Region.ready .any ops listed := mem_ready.2 ⟨hx0, ops[x.1], by simp [hx], fun e he hb => by
          have hlt' := hback x.1 _ (by simp [hx]) e he hb
          have hes : e.on < listed.size := by omega
          cases hv : listed.getD e.on true with
          | true => simpa [Array.getD, hes] using hv
          | false =>
            have := (hun e.on (by omega)).1 hv
            rw [List.map_cons, List.mem_cons] at this
            rcases this with e1 | e1
            · omega
            · obtain ⟨y, hy, hy'⟩ := List.mem_map.1 e1
              have := (List.pairwise_cons.1 hpw).1 y hy
              omega⟩
        rw [hr] at this
        cases this
    · obtain ⟨h0, o, ho, hpre⟩ := mem_ready.1 hj
      have hj' : j < ops.size := (Array.getElem?_eq_some_iff.1 ho).1
      obtain ⟨y, hy, rfl⟩ := List.mem_map.1 ((hun j hj').1 h0)
      obtain ⟨l1, l2, rfl⟩ := List.append_of_mem hy
      have hind : ∀ x ∈ l1, Indep ops x y := by
        intro x hx
        have hp := (List.pairwise_append.1 hpw).2.2 x hx y (by simp)
        rcases hp.2 with ha | hi
        · exfalso
          have h1 := ha listed hcl hj
          have hx' := hlt x.1 (List.mem_map_of_mem (List.mem_append_left _ hx))
          have h2 := (hun x.1 hx').2 (List.mem_map_of_mem (List.mem_append_left _ hx))
          have hxs : x.1 < listed.size := by omega
          simp [Array.getD, hxs] at h1 h2
          rw [h1] at h2
          cases h2
        · exact hi
      obtain ⟨t, t1, t2⟩ := runF_front hloc l1 st st' hrun hind
      simp only [stepF, ho] at t1
      split at t1
      · have hstep := stepG_wp (P := P) hcy hC t1 hrel (r := r) (n := n) (K := wpAnyIn (Wd r) n P .any ops Q fuel (listed.setIfInBounds y.1 true)) (Q := Q) fun a' w' h' => by
          have hpw' : (l1 ++ l2).Pairwise (fun x y => x.1 < y.1 ∧ (Anc ops x.1 y.1 ∨ Indep ops x y)) :=
            hpw.sublist (List.Sublist.append (List.Sublist.refl _) (List.sublist_cons_self _ _))
          have hne : ∀ i ∈ (l1 ++ l2).map (·.1), i ≠ y.1 := by
            intro i hi
            obtain ⟨z, hz, rfl⟩ := List.mem_map.1 hi
            rcases List.mem_append.1 hz with hz | hz
            · have := (List.pairwise_append.1 hpw).2.2 z hz y (by simp); omega
            · have := (List.pairwise_cons.1 (List.pairwise_append.1 hpw).2.1).1 z hz; omega
          refine ih (l1 ++ l2) _ t a' w' (by simp at hlen ⊢; omega) (by simp [hsz]) (fun i hi => ?_) (fun i hi => hlt i ?_) hpw' (fun i oi hoi hl e he hb => ?_) t2 h'
          · by_cases hiy : i = y.1
            · subst hiy
              have hys : y.1 < listed.size := by omega
              constructor
              · intro h; simp [Array.getD, hys] at h
              · intro h; exact (hne _ h rfl).elim
            · rw [getD_set_ne true (Ne.symm hiy), hun i hi]
              simp only [List.map_append, List.map_cons, List.mem_append, List.mem_cons]
              constructor
              · rintro (h | h | h)
                · exact .inl h
                · exact (hiy h).elim
                · exact .inr h
              · rintro (h | h)
                · exact .inl h
                · exact .inr (.inr h)
          · simp only [List.map_append, List.map_cons, List.mem_append, List.mem_cons] at hi ⊢
            rcases hi with h | h
            · exact .inl h
            · exact .inr (.inr h)
          · refine getD_set_true ?_
            by_cases hiy : i = y.1
            · subst hiy
              rw [ho] at hoi
              obtain rfl := Option.some.inj hoi
              exact hpre e he hb
            · rw [getD_set_ne true (Ne.symm hiy)] at hl
              exact hcl i oi hoi hl e he hb
        unfold wpOpIn
        simp only [ho]
        exact hstep
      · cases t1
end Go.Proofs.YtmekfllddifglaaDoor.AM

/- The abstract machine, part t: drawn regions, run in the text's order. Conditions: none. -/
set_option linter.unusedVariables false
set_option linter.unusedSimpArgs false
namespace Go.Proofs.YtmekfllddifglaaDoor.AM
open Go

/-- What an operation may do with the store: nothing, look, all. -/
def opCls : Op → Nat
  | .move _ | .pick _ _ _ | .makeInterface _ _ | .makeFunc _ _ _ | .field _ _ _ | .index _ _ _ | .extract _ _ | .typeAssert _ _ _ _ | .unOp _ _ _ => 0
  | .load _ _ | .nilCheck _ | .binOp _ _ _ _ _ | .fieldAddr _ _ _ | .indexAddr _ _ _ | .slice _ _ _ _ _ | .convert _ _ _ | .lookup _ _ _ _ => 1
  | .call c => match c.callee with
    | .builtin .len => 1
    | .builtin .max => 0
    | .builtin .min => 0
    | _ => 2
  | _ => 2
def CarryCls (cy : Carry) : Prop := ∀ d o ρ S, (opCls o.op = 0 → (cy d o ρ).reach S = ([], [])) ∧ (opCls o.op = 1 → ((cy d o ρ).reach S).2 = [])

abbrev Susp := List (Nat × List Nat)
def Susp.at (s : Susp) (j : Nat) : List Nat := (s.lookup j).getD []
def Susp.keeps (s : Susp) (i : Nat) : Bool := s.any fun x => x.2.contains i

def okPair (ops : Array Oper) (cl : List Nat) (sus : List Nat) (i j : Nat) : Bool := cl.contains i || (match ops[i]?, ops[j]? with
  | some oi, some oj => oi.apart ops oj && (opCls oi.op == 0 || opCls oj.op == 0 || (opCls oi.op == 1 && opCls oj.op == 1) || sus.contains i)
  | _, _ => false)
def mkCl (ops : Array Oper) : List (List Nat) := ops.toList.foldl (fun cl o => cl ++ [(o.after.toList.filter (Region.binds .any)).foldl (fun l e => if l.contains e.on then l else (e.on :: (cl.getD e.on [])).foldl (fun l i => if l.contains i then l else i :: l) l) []]) []
def okCl (ops : Array Oper) (cl : List (List Nat)) : Bool := (List.range ops.size).all fun j => match ops[j]? with
  | some o => o.after.toList.all (fun e => !Region.binds .any e || decide (e.on < j)) && (cl.getD j []).all (fun i => o.after.toList.any fun e => Region.binds .any e && (e.on == i || (cl.getD e.on []).contains i))
  | none => false
def okDraw' (ops : Array Oper) (sus : Susp) (cl : List (List Nat)) : Bool := okCl ops cl && (List.range ops.size).all fun j => (List.range j).all fun i => okPair ops (cl.getD j []) (sus.at j) i j
def okDraw (ops : Array Oper) (sus : Susp) : Bool := okDraw' ops sus (mkCl ops)

theorem okCl_back {ops : Array Oper} {cl : List (List Nat)} (h : okCl ops cl = true) : ∀ j o, ops[j]? = some o → ∀ e ∈ o.after, Region.binds .any e = true → e.on < j := by
  intro j o ho e he hb
  have hj : j < ops.size := (Array.getElem?_eq_some_iff.1 ho).1
  have := List.all_eq_true.1 h j (List.mem_range.2 hj)
  simp only [ho, Bool.and_eq_true] at this
  have := List.all_eq_true.1 this.1 e (by simpa using he)
  simpa [hb] using this
theorem okCl_step {ops : Array Oper} {cl : List (List Nat)} (h : okCl ops cl = true) {i j : Nat} {o : Oper} (ho : ops[j]? = some o) (hi : i ∈ cl.getD j []) : ∃ e ∈ o.after, Region.binds .any e = true ∧ (e.on = i ∨ i ∈ cl.getD e.on []) := by
  have hj : j < ops.size := (Array.getElem?_eq_some_iff.1 ho).1
  have := List.all_eq_true.1 h j (List.mem_range.2 hj)
  simp only [ho, Bool.and_eq_true] at this
  have := List.all_eq_true.1 this.2 i hi
  obtain ⟨e, he, hb⟩ := List.any_eq_true.1 this
  simp only [Bool.and_eq_true, Bool.or_eq_true, beq_iff_eq, List.contains_iff_mem] at hb
  exact ⟨e, by simpa using he, hb.1, hb.2⟩
theorem okCl_listed {ops : Array Oper} {cl : List (List Nat)} (h : okCl ops cl = true) (listed : Array Bool) (hc : Closed ops listed) (i : Nat) : ∀ j, j < ops.size → i ∈ cl.getD j [] → listed.getD j true = true → listed.getD i false = true := by
  intro j
  induction j using Nat.strongRecOn with
  | _ j ih =>
    intro hj hi hl
    obtain ⟨e, he, hb, hor⟩ := okCl_step h (o := ops[j]) (by simp [hj]) hi
    have hlt := okCl_back h j ops[j] (by simp [hj]) e he hb
    have hel := hc j ops[j] (by simp [hj]) hl e he hb
    rcases hor with rfl | hor
    · exact hel
    · refine ih e.on hlt (by omega) hor ?_
      by_cases hs : e.on < listed.size
      · simpa [Array.getD, hs] using hel
      · simp [Array.getD, hs]
theorem okCl_anc {ops : Array Oper} {cl : List (List Nat)} (h : okCl ops cl = true) {i j : Nat} (hi : i ∈ cl.getD j []) : Anc ops i j := by
  intro listed hc hr
  obtain ⟨h0, o, ho, hpre⟩ := mem_ready.1 hr
  obtain ⟨e, he, hb, hor⟩ := okCl_step h ho hi
  have hj : j < ops.size := (Array.getElem?_eq_some_iff.1 ho).1
  have hlt := okCl_back h j o ho e he hb
  have hel := hpre e he hb
  rcases hor with rfl | hor
  · exact hel
  · refine okCl_listed h listed hc i e.on (by omega) hor ?_
    by_cases hs : e.on < listed.size
    · simpa [Array.getD, hs] using hel
    · simp [Array.getD, hs]

/-- A drawn region: the operations in the text's order; what is not plainly apart is looked at. -/
def drawD (G : Gl) (cy : Carry) (ops : Array Oper) (sus : Susp) : List Oper → Nat → List (Nat × FP) → St → Option St
  | [], _, _, st => some st
  | o :: rest, j, tr, st =>
    if (sus.at j).isEmpty && !sus.keeps j then (stepG' G cy ops o st).bind (drawD G cy ops sus rest (j + 1) tr)
    else if (sus.at j).all (fun i => match tr.lookup i with
      | some f => f.offB (fpG G cy ops o st)
      | none => false) then (stepG' G cy ops o st).bind (drawD G cy ops sus rest (j + 1) ((j, fpG G cy ops o st) :: tr)) else none

def TrOk (L : List (Nat × FP)) (tr : List (Nat × FP)) : Prop := ∀ i f, tr.lookup i = some f → (i, f) ∈ L

theorem drawD_runF {G : Gl} {cy : Carry} (hcls : CarryCls cy) {ops : Array Oper} {sus : Susp} {cl : List (List Nat)} (hok : okDraw' ops sus cl = true) : ∀ (l : List Oper) (j : Nat) (tr : List (Nat × FP)) (L0 : List (Nat × FP)) (st st' : St),
    (∀ k, l[k]? = ops[j + k]?) → j + l.length = ops.size → drawD G cy ops sus l j tr st = some st' → L0.map (·.1) = List.range j → (∀ x ∈ L0, ∀ o, ops[x.1]? = some o → (opCls o.op = 0 → x.2 = ([], [])) ∧ (opCls o.op = 1 → x.2.2 = [])) → (∀ i f, tr.lookup i = some f → (i, f) ∈ L0) →
    (L0.Pairwise fun x y => x.1 < y.1 ∧ (Anc ops x.1 y.1 ∨ Indep ops x y)) →
    ∃ L, (L0 ++ L).map (·.1) = List.range ops.size ∧ runF G cy ops L st = some st' ∧ (L0 ++ L).Pairwise fun x y => x.1 < y.1 ∧ (Anc ops x.1 y.1 ∨ Indep ops x y)
  | [], j, tr, L0, st, st', hl, hj, h, hm, hc, ht, hp => by
    simp only [drawD, Option.some.injEq] at h
    subst h
    simp only [List.length_nil, Nat.add_zero] at hj
    subst hj
    exact ⟨[], by simpa using hm, rfl, by simpa using hp⟩
  | o :: l, j, tr, L0, st, st', hl, hj, h, hm, hc, ht, hp => by
    have ho : ops[j]? = some o := by simpa using (hl 0).symm
    have hlt : j < ops.size := (Array.getElem?_eq_some_iff.1 ho).1
    -- what is common to both
    have key : ∀ (tr' : List (Nat × FP)), ((stepG' G cy ops o st).bind (drawD G cy ops sus l (j + 1) tr')) = some st' → (∀ i f, tr'.lookup i = some f → (i, f) ∈ L0 ++ [(j, fpG G cy ops o st)]) →
        (∀ i ∈ sus.at j, ∃ f, (i, f) ∈ L0 ∧ f.off (fpG G cy ops o st)) →
        ∃ L, (L0 ++ L).map (·.1) = List.range ops.size ∧ runF G cy ops L st = some st' ∧ (L0 ++ L).Pairwise fun x y => x.1 < y.1 ∧ (Anc ops x.1 y.1 ∨ Indep ops x y) := by
      intro tr' hr htr hs
      obtain ⟨s1, h1, h2⟩ := Option.bind_eq_some_iff.1 hr
      have hcl : (opCls o.op = 0 → fpG G cy ops o st = ([], [])) ∧ (opCls o.op = 1 → (fpG G cy ops o st).2 = []) := by
        unfold fpG
        split
        · exact hcls _ _ _ _
        · exact ⟨fun _ => rfl, fun _ => rfl⟩
      have hpn : ∀ x ∈ L0, x.1 < j ∧ (Anc ops x.1 j ∨ Indep ops x (j, fpG G cy ops o st)) := by
        intro x hx
        have hxj : x.1 < j := by
          have : x.1 ∈ L0.map (·.1) := List.mem_map_of_mem hx
          rw [hm] at this
          exact List.mem_range.1 this
        refine ⟨hxj, ?_⟩
        simp only [okDraw', Bool.and_eq_true] at hok
        have h3 := List.all_eq_true.1 (List.all_eq_true.1 hok.2 j (List.mem_range.2 hlt)) x.1 (List.mem_range.2 hxj)
        simp only [okPair, ho, Bool.or_eq_true, List.contains_iff_mem] at h3
        rcases h3 with h3 | h3
        · exact .inl (okCl_anc hok.1 h3)
        · right
          have hxo : ops[x.1]? = some ops[x.1] := by simp [show x.1 < ops.size by omega]
          rw [hxo] at h3
          simp only [Bool.and_eq_true, Bool.or_eq_true, beq_iff_eq, List.contains_iff_mem] at h3
          refine ⟨⟨_, o, hxo, ho, h3.1⟩, ?_⟩
          have hcx := hc x hx _ hxo
          rcases h3.2 with ((h4 | h4) | h4) | h4
          · rw [hcx.1 h4]; simp [FP.off]
          · show FP.off x.2 (fpG G cy ops o st)
            rw [hcl.1 h4]; simp [FP.off]
          · show FP.off x.2 (fpG G cy ops o st)
            simp [FP.off, hcx.2 h4.1, hcl.2 h4.2]
          · obtain ⟨f, hf, hoff⟩ := hs x.1 h4
            have : f = x.2 := by
              have hnd : (L0.map (·.1)).Nodup := by rw [hm]; exact List.nodup_range
              have := hp
              by_cases e : (x.1, f) = x
              · rw [← e]
              · exfalso
                rcases List.pairwise_iff_getElem.1 hp with hp'
                obtain ⟨a, ha, hax⟩ := List.getElem_of_mem hx
                obtain ⟨b, hb, hbx⟩ := List.getElem_of_mem hf
                rcases Nat.lt_trichotomy a b with hab | hab | hab
                · have := (hp' a b ha hb hab).1; rw [hax, hbx] at this; simp at this
                · subst hab; rw [hax] at hbx; exact e hbx.symm
                · have := (hp' b a hb ha hab).1; rw [hax, hbx] at this; simp at this
            rw [← this]; exact hoff
      obtain ⟨L, g1, g2, g3⟩ := drawD_runF hcls hok l (j + 1) tr' (L0 ++ [(j, fpG G cy ops o st)]) s1 st' (fun k => by have := hl (k + 1); simpa [Nat.add_assoc, Nat.add_comm 1 k] using this) (by simp at hj; omega) h2
        (by rw [List.map_append, hm, List.range_succ]; rfl)
        (fun x hx o' ho' => by
          rcases List.mem_append.1 hx with hx | hx
          · exact hc x hx o' ho'
          · simp only [List.mem_singleton] at hx
            subst hx
            simp only [ho, Option.some.injEq] at ho'
            subst ho'
            exact hcl) htr
        (List.pairwise_append.2 ⟨hp, List.pairwise_singleton _ _, fun x hx y hy => by
          simp only [List.mem_singleton] at hy
          subst hy
          exact hpn x hx⟩)
      refine ⟨(j, fpG G cy ops o st) :: L, by simpa using g1, ?_, by simpa using g3⟩
      simp only [runF, stepF, ho, if_true, h1, Option.bind_some]
      exact g2
    simp only [drawD] at h
    split at h
    · rename_i hcond
      simp only [Bool.and_eq_true, List.isEmpty_iff] at hcond
      exact key tr h (fun i f hf => List.mem_append_left _ (ht i f hf)) (fun i hi => by rw [hcond.1] at hi; cases hi)
    · split at h
      · rename_i hall
        refine key _ h (fun i f hf => ?_) (fun i hi => ?_)
        · rw [List.lookup_cons] at hf
          split at hf
          · rename_i e
            simp only [Option.some.injEq] at hf
            subst hf
            simp only [beq_iff_eq] at e
            subst e
            exact List.mem_append_right _ (by simp)
          · exact List.mem_append_left _ (ht i f hf)
        · have := List.all_eq_true.1 hall i hi
          split at this
          · rename_i f hf
            exact ⟨f, ht i f hf, FP.offB_ok this⟩
          · cases this
      · cases h

theorem draw_wp {P : Program} (hm : P.follows .mixedOrders = true) {G : Gl} {cy : Carry} (hcy : CarryOk P G cy) (hloc : CarryLoc cy) (hcls : CarryCls cy) {C : Ctx} (hC : COk C G) {ds : Kp} {id : Nat} {ops : Array Oper} {sus : Susp} (hok : okDraw ops sus = true)
    {r : Option Nat} {n : Nat} {Q : Exit → Act → World → Prop} {st st' : St} {a : Act} {w : World} (hs : drawD G cy ops sus ops.toList 0 [] st = some st') (h : RelX C ds st a w) (hQ : ∀ a' w', RelX C ds st' a' w' → Q .normal a' w') :
    (Code.region id ops true).wpIn (Wd r) n P Q a w := by
  refine wpIn_region_any hm ?_
  obtain ⟨L, g1, g2, g3⟩ := drawD_runF hcls hok ops.toList 0 [] [] st st' (by simp) (by simp) hs rfl (by simp) (by simp) List.Pairwise.nil
  simp only [List.nil_append] at g1 g3
  have hlen : L.length = ops.size := by have := congrArg List.length g1; simpa using this
  refine any_wp hcy hloc hC (okCl_back (by simp only [okDraw, okDraw', Bool.and_eq_true] at hok; exact hok.1)) hQ ops.size L _ st a _ hlen (by simp) (fun i hi => ?_) (fun i hi => ?_) g3 (fun j o ho hl => ?_) g2 h.drew
  · rw [g1]; simp [Array.getD, hi]
  · rw [g1] at hi; exact List.mem_range.1 hi
  · have hj : j < ops.size := (Array.getElem?_eq_some_iff.1 ho).1
    simp [Array.getD, hj] at hl
end Go.Proofs.YtmekfllddifglaaDoor.AM

/- The abstract machine, part u: code. Conditions: none. -/
set_option linter.unusedVariables false
set_option linter.unusedSimpArgs false
namespace Go.Proofs.YtmekfllddifglaaDoor.AM
open Go

inductive AX where
  | normal
  | exit (id : Nat)
  | ret
def AX.to : AX → Exit
  | .normal => .normal
  | .exit id => .exit id
  | .ret => .ret

/-! ### A scope that no goto leaves or enters -/
section
variable {P : Program} {b : Frame} {a : Act} {k : List Item} {cs : List Frame} {w : World}
theorem stepR_scope {c : Code} : step P (lone (b.atR a (.code (.scope c) :: k)) cs w) = .next (lone (b.atR a (.code c :: .inScope c :: k)) cs w) :=
  step_lone_go (by simp [stepG, stepG.exec, Frame.atR])
theorem stepR_inScope {c : Code} : step P (lone (b.atR a (.inScope c :: k)) cs w) = .next (lone (b.atR a k) cs w) :=
  step_lone_go (by simp [stepG, stepG.exec, Frame.atR])
end
theorem wpIn_scope {F : Fence} {n : Nat} {P : Program} {Q : Exit → Act → World → Prop} {a : Act} {w : World} {c : Code} (h : c.wpIn F n P (Exit.noGoto Q) a w) : (Code.scope c).wpIn F n P Q a w := by
  intro b k cs hro hb hr
  have h0 : (lone (b.atR a (.code (.scope c) :: k)) cs w).fenced P F := fenced_calm hb hr rfl
  obtain ⟨e, a₁, w₁, hq, harr⟩ := h b (.inScope c :: k) cs hro hb hr
  cases e with
  | normal => exact ⟨.normal, a₁, w₁, hq, .head h0 stepR_scope (StepsIn.trans harr (.one (fenced_calm hb hr rfl) stepR_inScope))⟩
  | exit id =>
    have hx : exitTo id (.inScope c :: k) = exitTo id k := by simp [exitTo]
    exact ⟨.exit id, a₁, w₁, hq, fun k' hk => .head h0 stepR_scope (harr.1 k' (by rw [hx]; exact hk)),
      fun hr' hk => let ⟨k₁, h1, h2⟩ := harr.2 hr' (by rw [hx]; exact hk); ⟨k₁, h1, .head h0 stepR_scope h2⟩⟩
  | goto l => exact hq.elim
  | ret => exact ⟨_, a₁, w₁, hq, .of_steps (.one h0 stepR_scope) harr⟩
  | panic ch => exact ⟨_, a₁, w₁, hq, .of_steps (.one h0 stepR_scope) harr⟩
  | outgrown => exact ⟨_, a₁, w₁, hq, .of_steps (.one h0 stepR_scope) harr⟩

/-! ### Loops -/
def iter (nm : St → Option St) (body : St → Option (AX × St)) : Nat → St → Option (AX × St)
  | 0, _ => none
  | n + 1, st => (nm st).bind fun st => (body st).bind fun y => match y.1 with
    | .normal => iter nm body n y.2
    | .exit id => some (.exit id, y.2)
    | .ret => some (.ret, y.2)
theorem iter_succ {nm : St → Option St} {body : St → Option (AX × St)} : ∀ (n : Nat) (st : St) (y : AX × St), iter nm body n st = some y → iter nm body (n + 1) st = some y := by
  intro n
  induction n with
  | zero => intro st y h; cases h
  | succ n ih =>
    intro st y h
    unfold iter at h ⊢
    obtain ⟨s1, h1, h2⟩ := Option.bind_eq_some_iff.1 h
    obtain ⟨z, h3, h4⟩ := Option.bind_eq_some_iff.1 h2
    rw [h1, Option.bind_some, h3, Option.bind_some]
    split
    · rename_i e; rw [e] at h4; exact ih _ _ h4
    · rename_i e; rw [e] at h4; exact h4
    · rename_i e; rw [e] at h4; exact h4
theorem iter_le {nm : St → Option St} {body : St → Option (AX × St)} {n m : Nat} {st : St} {y : AX × St} (h : iter nm body n st = some y) (hm : n ≤ m) : iter nm body m st = some y := by
  induction hm with
  | refl => exact h
  | step _ ih => exact iter_succ _ _ _ ih
open Classical in
noncomputable def aloop (nm : St → Option St) (body : St → Option (AX × St)) (st : St) : Option (AX × St) :=
  if h : ∃ n, (iter nm body n st).isSome = true then iter nm body (Classical.choose h) st else none
theorem aloop_of_iter {nm : St → Option St} {body : St → Option (AX × St)} {n : Nat} {st : St} {y : AX × St} (h : iter nm body n st = some y) : aloop nm body st = some y := by
  have hx : ∃ n, (iter nm body n st).isSome = true := ⟨n, by rw [h]; rfl⟩
  unfold aloop
  rw [dif_pos hx]
  have hc := Classical.choose_spec hx
  obtain ⟨z, hz⟩ := Option.isSome_iff_exists.1 hc
  rw [hz]
  have h1 := iter_le h (Nat.le_max_left n (Classical.choose hx))
  have h2 := iter_le hz (Nat.le_max_right n (Classical.choose hx))
  rw [h1] at h2
  exact h2.symm
theorem iter_of_aloop {nm : St → Option St} {body : St → Option (AX × St)} {st : St} {y : AX × St} (h : aloop nm body st = some y) : ∃ n, iter nm body n st = some y := by
  unfold aloop at h
  split at h
  · exact ⟨_, h⟩
  · cases h
/-- One round. -/
theorem aloop_next {nm : St → Option St} {body : St → Option (AX × St)} {st s1 s2 : St} {y : AX × St} (hn : nm st = some s1) (hb : body s1 = some (.normal, s2)) (h : aloop nm body s2 = some y) : aloop nm body st = some y := by
  obtain ⟨n, hn'⟩ := iter_of_aloop h
  refine aloop_of_iter (n := n + 1) ?_
  simp only [iter, hn, Option.bind_some, hb, hn']
theorem aloop_exit {nm : St → Option St} {body : St → Option (AX × St)} {st s1 s2 : St} {id : Nat} (hn : nm st = some s1) (hb : body s1 = some (.exit id, s2)) : aloop nm body st = some (.exit id, s2) := by
  refine aloop_of_iter (n := 1) ?_
  simp only [iter, hn, Option.bind_some, hb]
theorem aloop_ret {nm : St → Option St} {body : St → Option (AX × St)} {st s1 s2 : St} (hn : nm st = some s1) (hb : body s1 = some (.ret, s2)) : aloop nm body st = some (.ret, s2) := by
  refine aloop_of_iter (n := 1) ?_
  simp only [iter, hn, Option.bind_some, hb]

/-! ### Code -/
/-- What is told of a function's code beside it: what has to be looked at in a drawn region; how the state at a loop's head is put into shape; how a range over a function goes. -/
structure Hints where
  sus : Nat → Susp
  nm : Nat → St → Option St
  rf : Nat → St → Option (AX × St)

noncomputable def acode (G : Gl) (cy : Carry) (H : Hints) (b : Nat) : Code → St → Option (AX × St)
  | .skip, st => some (.normal, st)
  | .label _, st => some (.normal, st)
  | .region id ops draw, st => if draw then (drawD G cy ops (H.sus id) ops.toList 0 [] st).map fun s => (.normal, s) else (aops G cy ops ops.toList st).map fun s => (.normal, s)
  | .seq x y, st => (acode G cy H b x st).bind fun z => match z.1 with
    | .normal => acode G cy H b y z.2
    | .exit id => some (.exit id, z.2)
    | .ret => some (.ret, z.2)
  | .cond c x y, st => match opd G st.slots c with
    | .v (.bool t) => if t then acode G cy H b x st else acode G cy H b y st
    | _ => none
  | .block id c, st => (acode G cy H id c st).bind fun z => match z.1 with
    | .exit i => if i = id then some (.normal, z.2) else some (.exit i, z.2)
    | .normal => some (.normal, z.2)
    | .ret => some (.ret, z.2)
  | .loop c, st => aloop (H.nm b) (acode G cy H b c) st
  | .rangeFunc _ _ _ _, st => H.rf b st
  | .exit id, st => some (.exit id, st)
  | .scope c, st => acode G cy H b c st
  | .ret, st => some (.ret, st)
  | .goto _, _ => none
  | .refuse _, _ => none

/-- The drawn regions of a code bear what is told of them. -/
def okCode (sus : Nat → Susp) : Code → Bool
  | .region id ops draw => !draw || okDraw ops (sus id)
  | .seq x y => okCode sus x && okCode sus y
  | .cond _ x y => okCode sus x && okCode sus y
  | .block _ c => okCode sus c
  | .loop c => okCode sus c
  | .scope c => okCode sus c
  | .rangeFunc _ _ _ _ => true
  | _ => true

/-- The ranges over functions within a code. -/
def ranges (b : Nat) : Code → List (Nat × Operand × Array Tmp × Code × Code)
  | .seq x y => ranges b x ++ ranges b y
  | .cond _ x y => ranges b x ++ ranges b y
  | .block id c => ranges id c
  | .loop c => ranges b c
  | .scope c => ranges b c
  | .rangeFunc f p x y => [(b, f, p, x, y)]
  | _ => []

theorem acode_wp {P : Program} (hm : P.follows .mixedOrders = true) {G : Gl} {cy : Carry} (hcy : CarryOk P G cy) (hloc : CarryLoc cy) (hcls : CarryCls cy) {H : Hints} {C : Ctx} (hC : COk C G) {ds : Kp} {r : Option Nat} {n : Nat}
    (hnm : ∀ b st st' a w, H.nm b st = some st' → RelX C ds st a w → RelX C ds st' a w) :
    ∀ (c : Code) (b : Nat), okCode H.sus c = true → (∀ x ∈ ranges b c, ∀ st y st' a w (Q : Exit → Act → World → Prop), H.rf x.1 st = some (y, st') → RelX C ds st a w → (∀ a' w', RelX C ds st' a' w' → Q y.to a' w') → (Code.rangeFunc x.2.1 x.2.2.1 x.2.2.2.1 x.2.2.2.2).wpIn (Wd r) n P Q a w) →
      ∀ (st : St) (y : AX) (st' : St) (a : Act) (w : World) (Q : Exit → Act → World → Prop), acode G cy H b c st = some (y, st') → RelX C ds st a w → (∀ a' w', RelX C ds st' a' w' → Q y.to a' w') → c.wpIn (Wd r) n P Q a w := by
  intro c
  induction c with
  | skip =>
    intro b hok hrf st y st' a w Q h hr hQ
    simp only [acode, Option.some.injEq, Prod.mk.injEq] at h
    obtain ⟨rfl, rfl⟩ := h
    exact wpIn_skip (hQ a w hr)
  | label l =>
    intro b hok hrf st y st' a w Q h hr hQ
    simp only [acode, Option.some.injEq, Prod.mk.injEq] at h
    obtain ⟨rfl, rfl⟩ := h
    exact wpIn_label (hQ a w hr)
  | region id ops draw =>
    intro b hok hrf st y st' a w Q h hr hQ
    cases draw with
    | true =>
      simp only [acode, if_true] at h
      obtain ⟨s, h1, h2⟩ := Option.map_eq_some_iff.1 h
      simp only [Prod.mk.injEq] at h2
      obtain ⟨rfl, rfl⟩ := h2
      exact draw_wp hm hcy hloc hcls hC (by simpa [okCode] using hok) h1 hr hQ
    | false =>
      simp only [acode, Bool.false_eq_true, if_false] at h
      obtain ⟨s, h1, h2⟩ := Option.map_eq_some_iff.1 h
      simp only [Prod.mk.injEq] at h2
      obtain ⟨rfl, rfl⟩ := h2
      exact region_wp hcy hC h1 hr hQ
  | seq x z ihx ihz =>
    intro b hok hrf st y st' a w Q h hr hQ
    simp only [okCode, Bool.and_eq_true] at hok
    simp only [acode] at h
    obtain ⟨⟨e, s1⟩, h1, h2⟩ := Option.bind_eq_some_iff.1 h
    refine wpIn_seq (ihx b hok.1 (fun q hq => hrf q (by simp only [ranges]; exact List.mem_append_left _ hq)) st e s1 a w _ h1 hr fun a' w' hr' => ?_)
    cases e with
    | normal => exact ihz b hok.2 (fun q hq => hrf q (by simp only [ranges]; exact List.mem_append_right _ hq)) s1 y st' a' w' Q h2 hr' hQ
    | exit id =>
      simp only [Option.some.injEq, Prod.mk.injEq] at h2
      obtain ⟨rfl, rfl⟩ := h2
      exact hQ a' w' hr'
    | ret =>
      simp only [Option.some.injEq, Prod.mk.injEq] at h2
      obtain ⟨rfl, rfl⟩ := h2
      exact hQ a' w' hr'
  | cond c x z ihx ihz =>
    intro b hok hrf st y st' a w Q h hr hQ
    simp only [okCode, Bool.and_eq_true] at hok
    simp only [acode] at h
    split at h
    · rename_i t ht
      have hv : a.eval c = .bool t := by
        obtain ⟨γ, imm, hr1, _⟩ := hr
        have := opd_ok hr1 (hC.at hr1.inv) c
        rw [ht] at this
        exact this
      cases t with
      | true => exact wpIn_cond_true hv (ihx b hok.1 (fun q hq => hrf q (by simp only [ranges]; exact List.mem_append_left _ hq)) st y st' a w Q h hr hQ)
      | false => exact wpIn_cond_false hv (ihz b hok.2 (fun q hq => hrf q (by simp only [ranges]; exact List.mem_append_right _ hq)) st y st' a w Q h hr hQ)
    · cases h
  | block id c ih =>
    intro b hok hrf st y st' a w Q h hr hQ
    simp only [acode] at h
    obtain ⟨⟨e, s1⟩, h1, h2⟩ := Option.bind_eq_some_iff.1 h
    refine wpIn_block (ih id (by simpa [okCode] using hok) (fun q hq => hrf q (by simpa [ranges] using hq)) st e s1 a w _ h1 hr fun a' w' hr' => ?_)
    cases e with
    | normal =>
      simp only [Option.some.injEq, Prod.mk.injEq] at h2
      obtain ⟨rfl, rfl⟩ := h2
      exact hQ a' w' hr'
    | exit i =>
      simp only at h2
      split at h2
      · rename_i e
        simp only [Option.some.injEq, Prod.mk.injEq] at h2
        obtain ⟨rfl, rfl⟩ := h2
        simp only [AX.to, Exit.inBlock, e, if_true]
        exact hQ a' w' hr'
      · rename_i e
        simp only [Option.some.injEq, Prod.mk.injEq] at h2
        obtain ⟨rfl, rfl⟩ := h2
        simp only [AX.to, Exit.inBlock, e, if_false]
        exact hQ a' w' hr'
    | ret =>
      simp only [Option.some.injEq, Prod.mk.injEq] at h2
      obtain ⟨rfl, rfl⟩ := h2
      exact hQ a' w' hr'
  | loop c ih =>
    intro b hok hrf st y st' a w Q h hr hQ
    obtain ⟨m, hm'⟩ := iter_of_aloop h
    refine wpIn_loop_rounds m ?_
    clear h
    induction m generalizing st a w with
    | zero => cases hm'
    | succ m ihm =>
      simp only [iter] at hm'
      obtain ⟨s1, h1, h2⟩ := Option.bind_eq_some_iff.1 hm'
      obtain ⟨⟨e, s2⟩, h3, h4⟩ := Option.bind_eq_some_iff.1 h2
      have hr1 := hnm b st s1 a w h1 hr
      rw [roundsIn_succ]
      refine ih b (by simpa [okCode] using hok) (fun q hq => hrf q (by simpa [ranges] using hq)) s1 e s2 a w _ h3 hr1 fun a' w' hr' => ?_
      cases e with
      | normal => exact ihm s2 a' w' hr' h4
      | exit id =>
        simp only [Option.some.injEq, Prod.mk.injEq] at h4
        obtain ⟨rfl, rfl⟩ := h4
        exact hQ a' w' hr'
      | ret =>
        simp only [Option.some.injEq, Prod.mk.injEq] at h4
        obtain ⟨rfl, rfl⟩ := h4
        exact hQ a' w' hr'
  | rangeFunc f ps asg body _ _ =>
    intro b hok hrf st y st' a w Q h hr hQ
    exact hrf (b, f, ps, asg, body) (by simp [ranges]) st y st' a w Q h hr hQ
  | exit id =>
    intro b hok hrf st y st' a w Q h hr hQ
    simp only [acode, Option.some.injEq, Prod.mk.injEq] at h
    obtain ⟨rfl, rfl⟩ := h
    exact wpIn_exit (hQ a w hr)
  | scope c ih =>
    intro b hok hrf st y st' a w Q h hr hQ
    refine wpIn_scope (ih b (by simpa [okCode] using hok) (fun q hq => hrf q (by simpa [ranges] using hq)) st y st' a w _ h hr fun a' w' hr' => ?_)
    have := hQ a' w' hr'
    cases y <;> exact this
  | goto l => intro b hok hrf st y st' a w Q h hr hQ; cases h
  | ret =>
    intro b hok hrf st y st' a w Q h hr hQ
    simp only [acode, Option.some.injEq, Prod.mk.injEq] at h
    obtain ⟨rfl, rfl⟩ := h
    exact wpIn_ret (hQ a w hr)
  | refuse s => intro b hok hrf st y st' a w Q h hr hQ; cases h
end Go.Proofs.YtmekfllddifglaaDoor.AM
