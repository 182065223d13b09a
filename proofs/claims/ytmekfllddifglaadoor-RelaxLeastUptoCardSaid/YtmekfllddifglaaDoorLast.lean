/- The relax seat: a slice of whole numbers read; RelaxLeast. Conditions: none. -/
import Derived.Test.YtmekfllddifglaaDoorP17
import Derived.Test.YtmekfllddifglaaDoorP19
import Derived.Test.YtmekfllddifglaaDoorCards
set_option linter.unusedVariables false
set_option linter.unusedSimpArgs false

set_option linter.unusedVariables false
set_option linter.unusedSimpArgs false
set_option maxRecDepth 100000
namespace Go.Proofs.YtmekfllddifglaaDoor.AM
open Go Go.ChangeShapes Go.WideShapes Go.RowKit
def mk1 : List AV → AV
  | [.v x] => .v x
  | xs => .agg xs
theorem mk1_cells (xs : List AV) : cellsOf (mk1 xs) = xs := by
  unfold mk1
  split <;> rfl
theorem ints_of : ∀ (l : List (List AV)), (∀ i (hi : i < l.length), ∃ n : Int, l[i] = [.v (.int .i64 n)]) → ∃ ns : List Int, l.map mk1 = ints ns ∧ ns.length = l.length
  | [], _ => ⟨[], rfl, rfl⟩
  | x :: l, h => by
    obtain ⟨ns, h1, h2⟩ := ints_of l (fun i hi => h (i + 1) (by simpa using hi))
    obtain ⟨n, e⟩ := h 0 (by simp)
    simp only [List.getElem_cons_zero] at e
    subst e
    exact ⟨n :: ns, by rw [List.map_cons, h1]; rfl, by simp [h2]⟩
/-- A slice of whole numbers. -/
theorem open_ints {H : Type} {enc : TypeId × Value → H} {W : World} {v : Value} {d : DataW H} {p : List MemPlace} {b : Nat} (hv : Value.okWide Tryd.prog W .any b 27 v) (h : DataW.Trod enc Tryd.prog W 0 (fun _ => true) true 27 v d p) (hd : Rows.uptoBulk d ≤ 1048576) :
    ∃ (nl : Bool) (l : List Int), IRel (old W) W (.sl nl (ints l)) v ∧ l.length ≤ 1048576 := by
  obtain ⟨n, hn⟩ := h
  obtain ⟨u, nl, l, ds, e, _, hr, hb, hl, hq⟩ := read_slice (k := 1) Tryd.underlying27 cells3 (by omega) mk1 (fun xs _ => mk1_cells xs) (fun xs _ => ∃ n : Int, xs = [.v (.int .i64 n)]) (fun n vs d ps hl h => by
      match vs, hl with
      | [c], _ =>
        obtain ⟨m, e, _, _⟩ := DataW.trod_int Tryd.underlying3 h
        cases e
        exact ⟨_, ⟨m, rfl⟩, ⟨_, _, rfl, rfl, rfl⟩, by simp [Value.oneCell']⟩) hn
  rw [cells_of_slice Tryd.underlying27 hv] at e
  cases e
  obtain ⟨ns, h1, h2⟩ := ints_of l (fun i hi => hq i hi (by omega))
  have h3 := bulk_len ds
  rw [h1] at hr
  exact ⟨nl, ns, hr, by omega⟩
theorem least_contract (H : Type) (enc : TypeId × Value → H) (W : World) (base : Nat) (args : Array Value) (ds gs : List (DataW H)) (before : List MemPlace)
    (hval : ∀ (j : Nat) t v, Tryd.f4.params[j]? = some t → args[j]? = some v → Value.okWide Tryd.prog W .any base t v)
    (hW : DataW.Whole enc Tryd.prog Tryd.f4.params.toList Rows.relaxLeastSpec.vars false W args.toList ds gs before) (hL : laidMetH Tryd.prog laidR W) (hk : Rows.uptoSmall H (ds ++ gs) = true) :
    Calls Tryd.prog 4 args W fun e W' => ∃ v, e = .returned v ∧ Rows.relaxLeastSpec.post enc Tryd.prog Tryd.f4 false true false false W args v W' := by
  have hW' := hW
  obtain ⟨p, q, hA0, hV0, rfl, hfz, hnd⟩ := hW
  have hA : DataW.TrodAll enc Tryd.prog W 0 (fun _ => true) true Tryd.f4.params.toList args.toList ds p := hA0
  have hV : DataW.TrodVars enc Tryd.prog W (fun _ => true) [] gs q := hV0
  have hA1 := hA
  rw [Tryd.params4] at hA hval
  obtain ⟨v0, vs0, d0, ds0, p0, q0, hargs, rfl, rfl, h0, r0⟩ := trodAll_cons hA
  obtain ⟨v1, vs1, d1, ds1, p1, q1, rfl, rfl, rfl, h1, r1⟩ := trodAll_cons r0
  obtain ⟨v2, vs2, d2, ds2, p2, q2, rfl, rfl, rfl, h2, r2⟩ := trodAll_cons r1
  obtain ⟨rfl, rfl, rfl⟩ := trodAll_nil r2
  obtain rfl : args = #[v0, v1, v2] := by cases args; simp_all
  obtain ⟨rfl, rfl⟩ : gs = [] ∧ q = [] := by
    cases gs with
    | nil => exact ⟨rfl, hV⟩
    | cons g r => exact absurd hV (by intro h; cases h)
  have hb := of_decide_eq_true hk
  simp only [List.append_nil, Rows.uptoBulkAll] at hb
  obtain ⟨ni, l, i0, hsm, hok⟩ := open_items (hval 0 22 v0 rfl rfl) h0 (by omega)
  obtain ⟨ns, sz, i1, hsz⟩ := open_ints (hval 1 27 v1 rfl rfl) h1 (by omega)
  obtain ⟨n, rfl, rfl, rfl, hwn⟩ := open_int Tryd.underlying24 (hval 2 24 v2 rfl rfl) h2
  have hwn' := hwn
  simp only [Lit.wf, Bool.and_eq_true, decide_eq_true_eq] at hwn'
  have e1 : IntKind.min .u32 = 0 := rfl
  have e2 : IntKind.max .u32 = 4294967295 := rfl
  rw [e1, e2] at hwn'
  have hbk := bulk_one d0
  have run : Calls Tryd.prog 4 #[v0, v1, .int .u32 n] W fun e W' => e = .returned (.bool true) ∧ Kept W W' :=
    call_of_run hL (n := 3) (avs := [.sl ni (items l), .sl ns (ints sz), .v (.int .u32 n)]) (vals := [v0, v1, .int .u32 n]) (fun S γ => ⟨_, _, rfl, i0, _, _, rfl, i1, _, _, rfl, rfl, rfl⟩) (least_law_rn G0 N0 0 N0_ok N0_ok2 ni ns l sz n hsm (by omega) hok hwn'.1 (by omega))
  refine run.mono fun e W' ⟨he, hkp⟩ => ?_
  subst he
  refine ⟨_, rfl, _, _, _, [], p0 ++ (p1 ++ ([] ++ [])), [], hW', ?_, ?_, ?_, hkp.but _, fun h => by cases h⟩
  · exact trodAll_mk1 (shut_bool Tryd.underlying4 true)
  · exact hkp.again (by rw [Tryd.params4]; simp [sizeR]) hA1
  · rfl
theorem least_reads (os : Os) {H : Type} (enc : TypeId × Value → H) : ∃ places, DataW.whole enc Tryd.prog ((laidWorld os).forCall (fun _ _ => 0) ⟨#[], #[.slice none 0 0, .slice none 0 0, .int .u32 0], []⟩).memory Tryd.f4.params.toList Rows.relaxLeastSpec.vars false #[Value.slice none 0 0, .slice none 0 0, .int .u32 0].toList 8 = some ([.nil, .nil, .lit (.int .u32 0)], [], places) :=
  ⟨[], by kernel_rfl⟩
set_option maxRecDepth 100000 in
theorem least_lifted (os : Os) (started : os.Started) (H : Type) (enc : TypeId × Value → H) (F : Stop.Interp) :
    ReturnsInHanded {} Tryd.checked os 4 .any ((Rows.OpenSpec.upto Rows.relaxLeastSpec).preRow enc Tryd.prog Tryd.f4 Rows.relaxLeastUptoRow.domain false Rows.relaxLeastUptoRow.laid) (((Rows.OpenSpec.upto Rows.relaxLeastSpec).at F).post enc Tryd.prog Tryd.f4 false true false false) := by
  obtain ⟨places, hx⟩ := least_reads os enc
  refine returnsInHanded_of_row (C := Tryd.checked) (s := Rows.OpenSpec.upto Rows.relaxLeastSpec) ownR started (by kernel_rfl) Tryd.func4
    (witness_row_at (enc := enc) (C := Tryd.checked) false (laidWorld os) #[.slice none 0 0, .slice none 0 0, .int .u32 0] rfl (by kernel_rfl) (by kernel_rfl) (by kernel_rfl)
      (OpenSpec.preRow_of_cond 8 hx (by kernel_rfl) (fun k hk => by cases hk; kernel_rfl) (by kernel_rfl) (laidWorld_met os _))) ?_
  intro W base args ds gs before hval hW _ hcond _ hL _ _
  exact least_contract H enc W base args ds gs before hval hW hL (hcond _ rfl)
end Go.Proofs.YtmekfllddifglaaDoor.AM
namespace Go.Proofs.YtmekfllddifglaaDoor
open Go AM
theorem leastUpto : Rows.RelaxLeastUptoSaid :=
  OpenClaim.holds_of_cond 4 Tryd.f4 rfl rfl rfl rfl rfl rfl rfl ⟨rfl, rfl, rfl, rfl, rfl⟩ rfl rfl rfl rfl rfl (by kernel_rfl) Tryd.func4 (by kernel_rfl)
    (of_decide_eq_true (by kernel_rfl)) (by unfold Func.isWrapper; first | (rw [if_pos (by decide +kernel)]; kernel_rfl) | (rw [if_neg (by decide +kernel)]; exact ⟨rfl, rfl⟩))
    (fun os started H enc _ F => by rw [OpenClaim.pre_eq_preRow]; exact least_lifted os started H enc F)
theorem least_plain (f : FuncId) (fn : Func) (hf : Tryd.pinned.checked.prog.funcNamed "typecase/typecaselaw20.RelaxLeast" = some f) (hfn : Tryd.pinned.checked.prog.funcs[f]? = some fn) :
    true = Tryd.pinned.checked.prog.looks [] ∧ ∀ (j : Nat) t, fn.params[j]? = some t → Tryd.pinned.checked.prog.wantsStandIn t = false := by
  obtain rfl : f = 4 := Option.some.inj ((show Tryd.prog.funcNamed "typecase/typecaselaw20.RelaxLeast" = some 4 by kernel_rfl).symm.trans hf) |>.symm
  obtain rfl : fn = Tryd.f4 := (Option.some.inj (Tryd.func4.symm.trans hfn)).symm
  refine ⟨by kernel_rfl, fun j t ht => ?_⟩
  rw [Tryd.params4] at ht
  have hm := Array.mem_of_getElem? ht
  have : t = 22 ∨ t = 27 ∨ t = 24 := by simpa using hm
  rcases this with rfl | rfl | rfl
  · exact (show Tryd.prog.wantsStandIn 22 = false by kernel_rfl)
  · exact (show Tryd.prog.wantsStandIn 27 = false by kernel_rfl)
  · exact (show Tryd.prog.wantsStandIn 24 = false by kernel_rfl)
/-- **RelaxLeast.** -/
theorem relaxLeast_card : Rows.RelaxLeastUptoCardSaid :=
  Claim7.holds_tied_plain_at .later [] _ _ _ _ leastUpto (fun _ h => by cases h) (by kernel_rfl) (fun _ h => by cases h) relaxLeastUpto_row_tie rfl ⟨rfl, rfl⟩ (by kernel_rfl) rfl least_plain (by kernel_rfl)
#print axioms relaxLeast_card
end Go.Proofs.YtmekfllddifglaaDoor
