/- The relax seat: what the arguments are; RelaxEnds. Conditions: none. -/
import Derived.Test.YtmekfllddifglaaDoorP16
import Derived.Test.YtmekfllddifglaaDoorP18
import Derived.Test.YtmekfllddifglaaDoorCards
import Derived.ProofKit
import Derived.RowKit
import Derived.ChangeAlike

set_option linter.unusedVariables false
set_option linter.unusedSimpArgs false
set_option maxRecDepth 100000
namespace Go.Proofs.YtmekfllddifglaaDoor.AM
open Go Go.ChangeShapes Go.WideShapes Go.RowKit
section
variable {H : Type} {enc : TypeId × Value → H} {W : World}
def QIt (xs : List AV) (d : DataW H) : Prop := (∃ x : It, xs = x.cells ∧ (0 ≤ x.num ∧ x.num < 4294967296) ∧ x.name.size ≤ Rows.uptoBulk d ∧ x.nodes.length ≤ Rows.uptoBulk d) ∧ 2 ≤ Rows.uptoBulk d
theorem its_of : ∀ (l : List (List AV)) (ds : List (DataW H)), ds.length = l.length → (∀ i (hi : i < l.length) (hd : i < ds.length), QIt l[i] ds[i]) →
    ∃ its : List It, l.map AV.agg = items its ∧ its.length = ds.length ∧ ∀ x ∈ its, (0 ≤ x.num ∧ x.num < 4294967296) ∧ x.name.size ≤ Rows.uptoBulkAll ds ∧ x.nodes.length ≤ Rows.uptoBulkAll ds
  | [], ds, hl, _ => ⟨[], rfl, by simpa using hl.symm, by simp⟩
  | x :: l, [], hl, _ => by simp at hl
  | x :: l, d :: ds, hl, h => by
    obtain ⟨its, h1, h2, h3⟩ := its_of l ds (by simpa using hl) (fun i hi hd => h (i + 1) (by simpa using hi) (by simpa using hd))
    obtain ⟨⟨y, e, g1, g2, g3⟩, _⟩ := h 0 (by simp) (by simp)
    simp only [List.getElem_cons_zero] at e g2 g3
    subst e
    refine ⟨y :: its, by rw [List.map_cons, h1]; rfl, by simp [h2], fun z hz => ?_⟩
    simp only [Rows.uptoBulkAll]
    rcases List.mem_cons.1 hz with rfl | hz
    · exact ⟨g1, by omega, by omega⟩
    · have := h3 z hz
      exact ⟨this.1, by omega, by omega⟩
theorem syms_of : ∀ (l : List (List AV)), (∀ i (hi : i < l.length), ∃ s : Sy, l[i] = s.cells) → ∃ sy : List Sy, l.map AV.agg = syms sy ∧ sy.length = l.length
  | [], _ => ⟨[], rfl, rfl⟩
  | x :: l, h => by
    obtain ⟨sy, h1, h2⟩ := syms_of l (fun i hi => h (i + 1) (by simpa using hi))
    obtain ⟨y, e⟩ := h 0 (by simp)
    simp only [List.getElem_cons_zero] at e
    subst e
    exact ⟨y :: sy, by rw [List.map_cons, h1]; rfl, by simp [h2]⟩
theorem cells_of_slice {P : Program} {r : Reach} {b : Nat} {t e : TypeId} {v : Value} (ht : P.underlying t = some (.slice e)) (h : Value.okWide P W r b t v) : v.cells = #[v] := by
  cases v with
  | agg cs => simp [Value.okWide, ht, Cell.okWide, Cell.ok] at h
  | _ => rfl
/-- The items that come in. -/
theorem open_items {v : Value} {d : DataW H} {p : List MemPlace} {b : Nat} (hv : Value.okWide Tryd.prog W .any b 22 v) (h : DataW.Trod enc Tryd.prog W 0 (fun _ => true) true 22 v d p) (hd : Rows.uptoBulk d ≤ 1048576) :
    ∃ (nl : Bool) (l : List It), IRel (old W) W (.sl nl (items l)) v ∧ Small l ∧ ∀ x ∈ l, x.Ok := by
  obtain ⟨n, hn⟩ := h
  obtain ⟨u, nl, l, ds, e, _, hr, hb, hl, hq⟩ := read_slice (k := 15) Tryd.underlying22 cells42 (by omega) AV.agg (fun _ _ => rfl) QIt (fun n vs d ps hl h => read_item hl h) hn
  rw [cells_of_slice Tryd.underlying22 hv] at e
  cases e
  obtain ⟨its, h1, h2, h3⟩ := its_of l ds hl hq
  have h4 := bulk_two ds (fun i hi => (hq i (by omega) hi).2)
  rw [h1] at hr
  refine ⟨nl, its, hr, ⟨by omega, fun x hx => ?_⟩, fun x hx => ?_⟩
  · have := h3 x hx
    exact ⟨by omega, by omega⟩
  · have := h3 x hx
    exact ⟨this.1, by omega, by omega⟩
/-- The symbols. -/
theorem open_syms {v : Value} {d : DataW H} {p : List MemPlace} {b : Nat} (hv : Value.okWide Tryd.prog W .any b 23 v) (h : DataW.Trod enc Tryd.prog W 0 (fun _ => true) true 23 v d p) (hd : Rows.uptoBulk d ≤ 1048576) :
    ∃ (nl : Bool) (l : List Sy), IRel (old W) W (.sl nl (syms l)) v ∧ l.length < 1000000 := by
  obtain ⟨n, hn⟩ := h
  obtain ⟨u, nl, l, ds, e, _, hr, hb, hl, hq⟩ := read_slice (k := 3) Tryd.underlying23 cells72 (by omega) AV.agg (fun _ _ => rfl) (fun xs d => (∃ s : Sy, xs = s.cells) ∧ 2 ≤ Rows.uptoBulk d) (fun n vs d ps hl h => read_sym hl h) hn
  rw [cells_of_slice Tryd.underlying23 hv] at e
  cases e
  obtain ⟨sy, h1, h2⟩ := syms_of l (fun i hi => (hq i hi (by omega)).1)
  have h4 := bulk_two ds (fun i hi => (hq i (by omega) hi).2)
  rw [h1] at hr
  exact ⟨nl, sy, hr, by omega⟩
end
theorem ends_contract (H : Type) (enc : TypeId × Value → H) (W : World) (base : Nat) (args : Array Value) (ds gs : List (DataW H)) (before : List MemPlace)
    (hval : ∀ (j : Nat) t v, Tryd.f3.params[j]? = some t → args[j]? = some v → Value.okWide Tryd.prog W .any base t v)
    (hW : DataW.Whole enc Tryd.prog Tryd.f3.params.toList Rows.relaxEndsSpec.vars false W args.toList ds gs before) (hL : laidMetH Tryd.prog laidR W) (hk : Rows.uptoSmall H (ds ++ gs) = true) :
    Calls Tryd.prog 3 args W fun e W' => ∃ v, e = .returned v ∧ Rows.relaxEndsSpec.post enc Tryd.prog Tryd.f3 false true false false W args v W' := by
  have hW' := hW
  obtain ⟨p, q, hA0, hV0, rfl, hfz, hnd⟩ := hW
  have hA : DataW.TrodAll enc Tryd.prog W 0 (fun _ => true) true Tryd.f3.params.toList args.toList ds p := hA0
  have hV : DataW.TrodVars enc Tryd.prog W (fun _ => true) [] gs q := hV0
  have hA1 := hA
  rw [Tryd.params3] at hA hval
  obtain ⟨v0, vs0, d0, ds0, p0, q0, hargs, rfl, rfl, h0, r0⟩ := trodAll_cons hA
  obtain ⟨v1, vs1, d1, ds1, p1, q1, rfl, rfl, rfl, h1, r1⟩ := trodAll_cons r0
  obtain ⟨v2, vs2, d2, ds2, p2, q2, rfl, rfl, rfl, h2, r2⟩ := trodAll_cons r1
  obtain ⟨rfl, rfl, rfl⟩ := trodAll_nil r2
  obtain rfl : args = #[v0, v1, v2] := by cases args; simp_all
  obtain ⟨rfl, rfl⟩ : gs = [] ∧ q = [] := by
    cases gs with
    | nil => exact ⟨rfl, hV⟩
    | cons g r => exact absurd hV (by intro h; cases h)
  have hb := of_decide_eq_true hk
  simp only [List.append_nil, Rows.uptoBulkAll] at hb
  obtain ⟨ni, l, i0, hsm, hok⟩ := open_items (hval 0 22 v0 rfl rfl) h0 (by omega)
  obtain ⟨ns, sy, i1, hsy⟩ := open_syms (hval 1 23 v1 rfl rfl) h1 (by omega)
  obtain ⟨n, rfl, rfl, rfl, hwn⟩ := open_int Tryd.underlying24 (hval 2 24 v2 rfl rfl) h2
  have hwn' := hwn
  simp only [Lit.wf, Bool.and_eq_true, decide_eq_true_eq] at hwn'
  have e1 : IntKind.min .u32 = 0 := rfl
  have e2 : IntKind.max .u32 = 4294967295 := rfl
  rw [e1, e2] at hwn'
  have hbk := bulk_one d0
  have run : Calls Tryd.prog 3 #[v0, v1, .int .u32 n] W fun e W' => e = .returned (.bool true) ∧ Kept W W' :=
    call_of_run hL (n := 3) (avs := [.sl ni (items l), .sl ns (syms sy), .v (.int .u32 n)]) (vals := [v0, v1, .int .u32 n]) (fun S γ => ⟨_, _, rfl, i0, _, _, rfl, i1, _, _, rfl, rfl, rfl⟩) (ends_rn G0 N0 0 N0_ok N0_ok2 ni ns l sy n hsm hsy hok hwn'.1 (by omega))
  refine run.mono fun e W' ⟨he, hkp⟩ => ?_
  subst he
  refine ⟨_, rfl, _, _, _, [], p0 ++ (p1 ++ ([] ++ [])), [], hW', ?_, ?_, ?_, hkp.but _, fun h => by cases h⟩
  · exact trodAll_mk1 (shut_bool Tryd.underlying4 true)
  · exact hkp.again (by rw [Tryd.params3]; simp [sizeR]) hA1
  · rfl
theorem ends_reads (os : Os) {H : Type} (enc : TypeId × Value → H) : ∃ places, DataW.whole enc Tryd.prog ((laidWorld os).forCall (fun _ _ => 0) ⟨#[], #[.slice none 0 0, .slice none 0 0, .int .u32 0], []⟩).memory Tryd.f3.params.toList Rows.relaxEndsSpec.vars false #[Value.slice none 0 0, .slice none 0 0, .int .u32 0].toList 8 = some ([.nil, .nil, .lit (.int .u32 0)], [], places) :=
  ⟨[], by kernel_rfl⟩
set_option maxRecDepth 100000 in
theorem ends_lifted (os : Os) (started : os.Started) (H : Type) (enc : TypeId × Value → H) (F : Stop.Interp) :
    ReturnsInHanded {} Tryd.checked os 3 .any ((Rows.OpenSpec.upto Rows.relaxEndsSpec).preRow enc Tryd.prog Tryd.f3 Rows.relaxEndsUptoRow.domain false Rows.relaxEndsUptoRow.laid) (((Rows.OpenSpec.upto Rows.relaxEndsSpec).at F).post enc Tryd.prog Tryd.f3 false true false false) := by
  obtain ⟨places, hx⟩ := ends_reads os enc
  refine returnsInHanded_of_row (C := Tryd.checked) (s := Rows.OpenSpec.upto Rows.relaxEndsSpec) ownR started (by kernel_rfl) Tryd.func3
    (witness_row_at (enc := enc) (C := Tryd.checked) false (laidWorld os) #[.slice none 0 0, .slice none 0 0, .int .u32 0] rfl (by kernel_rfl) (by kernel_rfl) (by kernel_rfl)
      (OpenSpec.preRow_of_cond 8 hx (by kernel_rfl) (fun k hk => by cases hk; kernel_rfl) (by kernel_rfl) (laidWorld_met os _))) ?_
  intro W base args ds gs before hval hW _ hcond _ hL _ _
  exact ends_contract H enc W base args ds gs before hval hW hL (hcond _ rfl)
end Go.Proofs.YtmekfllddifglaaDoor.AM
namespace Go.Proofs.YtmekfllddifglaaDoor
open Go AM
theorem endsUpto : Rows.RelaxEndsUptoSaid :=
  OpenClaim.holds_of_cond 3 Tryd.f3 rfl rfl rfl rfl rfl rfl rfl ⟨rfl, rfl, rfl, rfl, rfl⟩ rfl rfl rfl rfl rfl (by kernel_rfl) Tryd.func3 (by kernel_rfl)
    (of_decide_eq_true (by kernel_rfl)) (by unfold Func.isWrapper; first | (rw [if_pos (by decide +kernel)]; kernel_rfl) | (rw [if_neg (by decide +kernel)]; exact ⟨rfl, rfl⟩))
    (fun os started H enc _ F => by rw [OpenClaim.pre_eq_preRow]; exact ends_lifted os started H enc F)
theorem ends_plain (f : FuncId) (fn : Func) (hf : Tryd.pinned.checked.prog.funcNamed "typecase/typecaselaw20.RelaxEnds" = some f) (hfn : Tryd.pinned.checked.prog.funcs[f]? = some fn) :
    true = Tryd.pinned.checked.prog.looks [] ∧ ∀ (j : Nat) t, fn.params[j]? = some t → Tryd.pinned.checked.prog.wantsStandIn t = false := by
  obtain rfl : f = 3 := Option.some.inj ((show Tryd.prog.funcNamed "typecase/typecaselaw20.RelaxEnds" = some 3 by kernel_rfl).symm.trans hf) |>.symm
  obtain rfl : fn = Tryd.f3 := (Option.some.inj (Tryd.func3.symm.trans hfn)).symm
  refine ⟨by kernel_rfl, fun j t ht => ?_⟩
  rw [Tryd.params3] at ht
  have hm := Array.mem_of_getElem? ht
  have : t = 22 ∨ t = 23 ∨ t = 24 := by simpa using hm
  rcases this with rfl | rfl | rfl
  · exact (show Tryd.prog.wantsStandIn 22 = false by kernel_rfl)
  · exact (show Tryd.prog.wantsStandIn 23 = false by kernel_rfl)
  · exact (show Tryd.prog.wantsStandIn 24 = false by kernel_rfl)
/-- **RelaxEnds.** -/
theorem relaxEnds_card : Rows.RelaxEndsUptoCardSaid :=
  Claim7.holds_tied_plain_at .later [] _ _ _ _ endsUpto (fun _ h => by cases h) (by kernel_rfl) (fun _ h => by cases h) relaxEndsUpto_row_tie rfl ⟨rfl, rfl⟩ (by kernel_rfl) rfl ends_plain (by kernel_rfl)
#print axioms relaxEnds_card
end Go.Proofs.YtmekfllddifglaaDoor
