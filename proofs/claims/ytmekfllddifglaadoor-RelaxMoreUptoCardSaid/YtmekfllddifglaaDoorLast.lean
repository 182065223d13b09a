/- The relax seat: RelaxMore. Conditions: none. -/
import Derived.Test.YtmekfllddifglaaDoorP17
import Derived.Test.YtmekfllddifglaaDoorP19
import Derived.Test.YtmekfllddifglaaDoorCards
set_option linter.unusedVariables false
set_option linter.unusedSimpArgs false

set_option linter.unusedVariables false
set_option linter.unusedSimpArgs false
set_option maxRecDepth 100000
namespace Go.Proofs.YtmekfllddifglaaDoor.AM
open Go Go.ChangeShapes Go.WideShapes Go.RowKit
theorem more_contract (H : Type) (enc : TypeId × Value → H) (W : World) (base : Nat) (args : Array Value) (ds gs : List (DataW H)) (before : List MemPlace)
    (hval : ∀ (j : Nat) t v, Tryd.f5.params[j]? = some t → args[j]? = some v → Value.okWide Tryd.prog W .any base t v)
    (hW : DataW.Whole enc Tryd.prog Tryd.f5.params.toList Rows.relaxMoreSpec.vars false W args.toList ds gs before) (hL : laidMetH Tryd.prog laidR W) (hk : Rows.uptoSmall H (ds ++ gs) = true) :
    Calls Tryd.prog 5 args W fun e W' => ∃ v, e = .returned v ∧ Rows.relaxMoreSpec.post enc Tryd.prog Tryd.f5 false true false false W args v W' := by
  have hW' := hW
  obtain ⟨p, q, hA0, hV0, rfl, hfz, hnd⟩ := hW
  have hA : DataW.TrodAll enc Tryd.prog W 0 (fun _ => true) true Tryd.f5.params.toList args.toList ds p := hA0
  have hV : DataW.TrodVars enc Tryd.prog W (fun _ => true) [] gs q := hV0
  have hA1 := hA
  rw [Tryd.params5] at hA hval
  obtain ⟨v0, vs0, d0, ds0, p0, q0, hargs, rfl, rfl, h0, r0⟩ := trodAll_cons hA
  obtain ⟨v1, vs1, d1, ds1, p1, q1, rfl, rfl, rfl, h1, r1⟩ := trodAll_cons r0
  obtain ⟨v2, vs2, d2, ds2, p2, q2, rfl, rfl, rfl, h2, r2⟩ := trodAll_cons r1
  obtain ⟨v3, vs3, d3, ds3, p3, q3, rfl, rfl, rfl, h3, r3⟩ := trodAll_cons r2
  obtain ⟨rfl, rfl, rfl⟩ := trodAll_nil r3
  obtain rfl : args = #[v0, v1, v2, v3] := by cases args; simp_all
  obtain ⟨rfl, rfl⟩ : gs = [] ∧ q = [] := by
    cases gs with
    | nil => exact ⟨rfl, hV⟩
    | cons g r => exact absurd hV (by intro h; cases h)
  have hb := of_decide_eq_true hk
  simp only [List.append_nil, Rows.uptoBulkAll] at hb
  obtain ⟨ni, l, i0, hsm, hok⟩ := open_items (hval 0 22 v0 rfl rfl) h0 (by omega)
  obtain ⟨a, rfl, rfl, rfl, hwa⟩ := open_int Tryd.underlying5 (hval 1 5 v1 rfl rfl) h1
  obtain ⟨b, rfl, rfl, rfl, hwb⟩ := open_int Tryd.underlying5 (hval 2 5 v2 rfl rfl) h2
  obtain ⟨n, rfl, rfl, rfl, hwn⟩ := open_int Tryd.underlying24 (hval 3 24 v3 rfl rfl) h3
  simp only [Lit.wf, Bool.and_eq_true, decide_eq_true_eq] at hwa hwb
  have e3 : IntKind.min .u8 = 0 := rfl
  have e4 : IntKind.max .u8 = 255 := rfl
  rw [e3, e4] at hwa hwb
  have hwn' := hwn
  simp only [Lit.wf, Bool.and_eq_true, decide_eq_true_eq] at hwn'
  have e1 : IntKind.min .u32 = 0 := rfl
  have e2 : IntKind.max .u32 = 4294967295 := rfl
  rw [e1, e2] at hwn'
  have hbk := bulk_one d0
  have run : Calls Tryd.prog 5 #[v0, .int .u8 a, .int .u8 b, .int .u32 n] W fun e W' => e = .returned (.bool true) ∧ Kept W W' :=
    call_of_run hL (n := 4) (avs := [.sl ni (items l), .v (.int .u8 a), .v (.int .u8 b), .v (.int .u32 n)]) (vals := [v0, .int .u8 a, .int .u8 b, .int .u32 n]) (fun S γ => ⟨_, _, rfl, i0, _, _, rfl, rfl, _, _, rfl, rfl, _, _, rfl, rfl, rfl⟩) (more_law_rn G0 N0 0 N0_ok N0_ok2 ni l a b n hsm hok hwa.1 (by omega) hwb.1 (by omega) hwn'.1 (by omega))
  refine run.mono fun e W' ⟨he, hkp⟩ => ?_
  subst he
  refine ⟨_, rfl, _, _, _, [], p0 ++ ([] ++ ([] ++ ([] ++ []))), [], hW', ?_, ?_, ?_, hkp.but _, fun h => by cases h⟩
  · exact trodAll_mk1 (shut_bool Tryd.underlying4 true)
  · exact hkp.again (by rw [Tryd.params5]; simp [sizeR]) hA1
  · rfl
theorem more_reads (os : Os) {H : Type} (enc : TypeId × Value → H) : ∃ places, DataW.whole enc Tryd.prog ((laidWorld os).forCall (fun _ _ => 0) ⟨#[], #[.slice none 0 0, .int .u8 0, .int .u8 0, .int .u32 0], []⟩).memory Tryd.f5.params.toList Rows.relaxMoreSpec.vars false #[Value.slice none 0 0, .int .u8 0, .int .u8 0, .int .u32 0].toList 8 = some ([.nil, .lit (.int .u8 0), .lit (.int .u8 0), .lit (.int .u32 0)], [], places) :=
  ⟨[], by kernel_rfl⟩
set_option maxRecDepth 100000 in
theorem more_lifted (os : Os) (started : os.Started) (H : Type) (enc : TypeId × Value → H) (F : Stop.Interp) :
    ReturnsInHanded {} Tryd.checked os 5 .any ((Rows.OpenSpec.upto Rows.relaxMoreSpec).preRow enc Tryd.prog Tryd.f5 Rows.relaxMoreUptoRow.domain false Rows.relaxMoreUptoRow.laid) (((Rows.OpenSpec.upto Rows.relaxMoreSpec).at F).post enc Tryd.prog Tryd.f5 false true false false) := by
  obtain ⟨places, hx⟩ := more_reads os enc
  refine returnsInHanded_of_row (C := Tryd.checked) (s := Rows.OpenSpec.upto Rows.relaxMoreSpec) ownR started (by kernel_rfl) Tryd.func5
    (witness_row_at (enc := enc) (C := Tryd.checked) false (laidWorld os) #[.slice none 0 0, .int .u8 0, .int .u8 0, .int .u32 0] rfl (by kernel_rfl) (by kernel_rfl) (by kernel_rfl)
      (OpenSpec.preRow_of_cond 8 hx (by kernel_rfl) (fun k hk => by cases hk; kernel_rfl) (by kernel_rfl) (laidWorld_met os _))) ?_
  intro W base args ds gs before hval hW _ hcond _ hL _ _
  exact more_contract H enc W base args ds gs before hval hW hL (hcond _ rfl)
end Go.Proofs.YtmekfllddifglaaDoor.AM
namespace Go.Proofs.YtmekfllddifglaaDoor
open Go AM
theorem moreUpto : Rows.RelaxMoreUptoSaid :=
  OpenClaim.holds_of_cond 5 Tryd.f5 rfl rfl rfl rfl rfl rfl rfl ⟨rfl, rfl, rfl, rfl, rfl⟩ rfl rfl rfl rfl rfl (by kernel_rfl) Tryd.func5 (by kernel_rfl)
    (of_decide_eq_true (by kernel_rfl)) (by unfold Func.isWrapper; first | (rw [if_pos (by decide +kernel)]; kernel_rfl) | (rw [if_neg (by decide +kernel)]; exact ⟨rfl, rfl⟩))
    (fun os started H enc _ F => by rw [OpenClaim.pre_eq_preRow]; exact more_lifted os started H enc F)
theorem more_plain (f : FuncId) (fn : Func) (hf : Tryd.pinned.checked.prog.funcNamed "typecase/typecaselaw20.RelaxMore" = some f) (hfn : Tryd.pinned.checked.prog.funcs[f]? = some fn) :
    true = Tryd.pinned.checked.prog.looks [] ∧ ∀ (j : Nat) t, fn.params[j]? = some t → Tryd.pinned.checked.prog.wantsStandIn t = false := by
  obtain rfl : f = 5 := Option.some.inj ((show Tryd.prog.funcNamed "typecase/typecaselaw20.RelaxMore" = some 5 by kernel_rfl).symm.trans hf) |>.symm
  obtain rfl : fn = Tryd.f5 := (Option.some.inj (Tryd.func5.symm.trans hfn)).symm
  refine ⟨by kernel_rfl, fun j t ht => ?_⟩
  rw [Tryd.params5] at ht
  have hm := Array.mem_of_getElem? ht
  have : t = 22 ∨ t = 5 ∨ t = 24 := by simpa using hm
  rcases this with rfl | rfl | rfl
  · exact (show Tryd.prog.wantsStandIn 22 = false by kernel_rfl)
  · exact (show Tryd.prog.wantsStandIn 5 = false by kernel_rfl)
  · exact (show Tryd.prog.wantsStandIn 24 = false by kernel_rfl)
/-- **RelaxMore.** -/
theorem relaxMore_card : Rows.RelaxMoreUptoCardSaid :=
  Claim7.holds_tied_plain_at .later [] _ _ _ _ moreUpto (fun _ h => by cases h) (by kernel_rfl) (fun _ h => by cases h) relaxMoreUpto_row_tie rfl ⟨rfl, rfl⟩ (by kernel_rfl) rfl more_plain (by kernel_rfl)
#print axioms relaxMore_card
end Go.Proofs.YtmekfllddifglaaDoor
