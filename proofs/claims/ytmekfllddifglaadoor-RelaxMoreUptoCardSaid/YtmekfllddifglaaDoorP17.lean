/- The relax seat: Tba, Rw, Rr, Rz, Sc, Sd, Pa. Conditions: none. -/
import Derived.Test.YtmekfllddifglaaDoorP16
import Derived.ProofKit
import Derived.RowKit
import Derived.ChangeAlike
import Derived.Test.YtmekfllddifglaaDoorP14
import Derived.Test.YtmekfllddifglaaDoorP15
set_option linter.unusedVariables false
set_option linter.unusedSimpArgs false
/- The relax seat: what the arguments are. Conditions: none. -/
set_option linter.unusedVariables false
set_option linter.unusedSimpArgs false
set_option maxRecDepth 100000
namespace Go.Proofs.YtmekfllddifglaaDoor.AM
open Go Go.ChangeShapes Go.WideShapes Go.RowKit
section
variable {H : Type} {enc : TypeId × Value → H} {W : World}
def QIt (xs : List AV) (d : DataW H) : Prop := (∃ x : It, xs = x.cells ∧ (0 ≤ x.num ∧ x.num < 4294967296) ∧ x.name.size ≤ Rows.uptoBulk d ∧ x.nodes.length ≤ Rows.uptoBulk d) ∧ 2 ≤ Rows.uptoBulk d
theorem its_of : ∀ (l : List (List AV)) (ds : List (DataW H)), ds.length = l.length → (∀ i (hi : i < l.length) (hd : i < ds.length), QIt l[i] ds[i]) →
    ∃ its : List It, l.map AV.agg = items its ∧ its.length = ds.length ∧ ∀ x ∈ its, (0 ≤ x.num ∧ x.num < 4294967296) ∧ x.name.size ≤ Rows.uptoBulkAll ds ∧ x.nodes.length ≤ Rows.uptoBulkAll ds
  | [], ds, hl, _ => ⟨[], rfl, by simpa using hl.symm, by simp⟩
  | x :: l, [], hl, _ => by simp at hl
  | x :: l, d :: ds, hl, h => by
    obtain ⟨its, h1, h2, h3⟩ := its_of l ds (by simpa using hl) (fun i hi hd => h (i + 1) (by simpa using hi) (by simpa using hd))
    obtain ⟨⟨y, e, g1, g2, g3⟩, _⟩ := h 0 (by simp) (by simp)
    simp only [List.getElem_cons_zero] at e g2 g3
    subst e
    refine ⟨y :: its, by rw [List.map_cons, h1]; rfl, by simp [h2], fun z hz => ?_⟩
    simp only [Rows.uptoBulkAll]
    rcases List.mem_cons.1 hz with rfl | hz
    · exact ⟨g1, by omega, by omega⟩
    · have := h3 z hz
      exact ⟨this.1, by omega, by omega⟩
theorem syms_of : ∀ (l : List (List AV)), (∀ i (hi : i < l.length), ∃ s : Sy, l[i] = s.cells) → ∃ sy : List Sy, l.map AV.agg = syms sy ∧ sy.length = l.length
  | [], _ => ⟨[], rfl, rfl⟩
  | x :: l, h => by
    obtain ⟨sy, h1, h2⟩ := syms_of l (fun i hi => h (i + 1) (by simpa using hi))
    obtain ⟨y, e⟩ := h 0 (by simp)
    simp only [List.getElem_cons_zero] at e
    subst e
    exact ⟨y :: sy, by rw [List.map_cons, h1]; rfl, by simp [h2]⟩
theorem cells_of_slice {P : Program} {r : Reach} {b : Nat} {t e : TypeId} {v : Value} (ht : P.underlying t = some (.slice e)) (h : Value.okWide P W r b t v) : v.cells = #[v] := by
  cases v with
  | agg cs => simp [Value.okWide, ht, Cell.okWide, Cell.ok] at h
  | _ => rfl
/-- The items that come in. -/
theorem open_items {v : Value} {d : DataW H} {p : List MemPlace} {b : Nat} (hv : Value.okWide Tryd.prog W .any b 22 v) (h : DataW.Trod enc Tryd.prog W 0 (fun _ => true) true 22 v d p) (hd : Rows.uptoBulk d ≤ 1048576) :
    ∃ (nl : Bool) (l : List It), IRel (old W) W (.sl nl (items l)) v ∧ Small l ∧ ∀ x ∈ l, x.Ok := by
  obtain ⟨n, hn⟩ := h
  obtain ⟨u, nl, l, ds, e, _, hr, hb, hl, hq⟩ := read_slice (k := 15) Tryd.underlying22 cells42 (by omega) AV.agg (fun _ _ => rfl) QIt (fun n vs d ps hl h => read_item hl h) hn
  rw [cells_of_slice Tryd.underlying22 hv] at e
  cases e
  obtain ⟨its, h1, h2, h3⟩ := its_of l ds hl hq
  have h4 := bulk_two ds (fun i hi => (hq i (by omega) hi).2)
  rw [h1] at hr
  refine ⟨nl, its, hr, ⟨by omega, fun x hx => ?_⟩, fun x hx => ?_⟩
  · have := h3 x hx
    exact ⟨by omega, by omega⟩
  · have := h3 x hx
    exact ⟨this.1, by omega, by omega⟩
/-- The symbols. -/
theorem open_syms {v : Value} {d : DataW H} {p : List MemPlace} {b : Nat} (hv : Value.okWide Tryd.prog W .any b 23 v) (h : DataW.Trod enc Tryd.prog W 0 (fun _ => true) true 23 v d p) (hd : Rows.uptoBulk d ≤ 1048576) :
    ∃ (nl : Bool) (l : List Sy), IRel (old W) W (.sl nl (syms l)) v ∧ l.length < 1000000 := by
  obtain ⟨n, hn⟩ := h
  obtain ⟨u, nl, l, ds, e, _, hr, hb, hl, hq⟩ := read_slice (k := 3) Tryd.underlying23 cells72 (by omega) AV.agg (fun _ _ => rfl) (fun xs d => (∃ s : Sy, xs = s.cells) ∧ 2 ≤ Rows.uptoBulk d) (fun n vs d ps hl h => read_sym hl h) hn
  rw [cells_of_slice Tryd.underlying23 hv] at e
  cases e
  obtain ⟨sy, h1, h2⟩ := syms_of l (fun i hi => (hq i hi (by omega)).1)
  have h4 := bulk_two ds (fun i hi => (hq i (by omega) hi).2)
  rw [h1] at hr
  exact ⟨nl, sy, hr, by omega⟩
end
end Go.Proofs.YtmekfllddifglaaDoor.AM

/- The relax seat: the document's labels. Conditions: none. -/
set_option linter.unusedVariables false
set_option linter.unusedSimpArgs false
set_option maxRecDepth 10000
namespace Go.Proofs.YtmekfllddifglaaDoor.AM
open Go
variable (G : Gl) (N : Nats) (k : Nat)
def labelsR (r : Except Flt (List Sy)) : AV := match r with
  | .ok l => .tup [.sl l.isEmpty (syms l), fltA (0, 0, 0)]
  | .error f => .tup [.sl true [], fltA f]
theorem labelsR_ok (l : List Sy) : labelsR (.ok l) = .tup [.sl l.isEmpty (syms l), fltA (0, 0, 0)] := rfl
theorem labelsR_err (a b c : Int) : labelsR (.error (a, b, c)) = .tup [.sl true [], fltA (a, b, c)] := rfl
def z52 : Sub := [([], (1, some (.box false [.v (.int .i64 0), .v (.int .i64 0), .v (.int .i64 0)])))]
def st26 (nl na ns : Bool) (l : List It) (at_ : List Int) (sy q : List Sy) (i : Nat) : St :=
  ⟨[.sl nl (items l), .sl na (words at_), .sl ns (syms sy), .dead, .dead, .dead, .dead, .loc 7 [] 1 0, .own 8 [] 1 0 q.length, .v (.int .i64 i)] ++ List.replicate 67 .dead,
   List.replicate 7 [] ++ z52 :: [([], (1, some (.arr q.isEmpty false 3 72 (syms q))))] :: List.replicate 68 []⟩
def st26a (nl na ns : Bool) (l : List It) (at_ : List Int) (sy q : List Sy) (i : Nat) (x : It) (j : Nat) : St :=
  ⟨[.sl nl (items l), .sl na (words at_), .sl ns (syms sy), .dead, .dead, .dead, .dead, .loc 7 [] 1 0, .own 8 [] 1 0 q.length, .v (.int .i64 i), .loc 10 [] 1 0, .v (.int .i64 j)] ++ List.replicate 65 .dead,
   List.replicate 7 [] ++ z52 :: [([], (1, some (.arr q.isEmpty false 3 72 (syms q))))] :: [] :: [([], (1, some (.box false x.cells)))] :: List.replicate 66 []⟩
def st26b (nl na ns : Bool) (l : List It) (at_ : List Int) (sy q : List Sy) (i : Nat) (x : It) (j : Nat) : St :=
  ⟨[.sl nl (items l), .sl na (words at_), .sl ns (syms sy), .dead, .dead, .dead, .dead, .loc 7 [] 1 0, .own 8 [] 1 0 q.length, .v (.int .i64 i), .loc 10 [] 1 0, .dead, .v (.int .i64 j)] ++ List.replicate 64 .dead,
   List.replicate 7 [] ++ z52 :: [([], (1, some (.arr q.isEmpty false 3 72 (syms q))))] :: [] :: [([], (1, some (.box false x.cells)))] :: List.replicate 66 []⟩
set_option maxHeartbeats 8000000 in
theorem labelsR_rn (nl na ns : Bool) (l : List It) (at_ : List Int) (sy : List Sy) (hl : l.length < 1000000) (ha : at_.length < 4611686018427387904) (hs : sy.length < 1000000) :
    rn (DR G N) (k + 2) 26 [.sl nl (items l), .sl na (words at_), .sl ns (syms sy)] [[], [], []] = some (labelsR (labelsP at_ sy 0 l []), [[], [], []]) := by
  rw [run26]
  simp -implicitDefEqProofs [Tryd.f26, endF, argsIn, subsIn, acode_loop]
  refine aloop_ind (Q := fun r => finF _ _ _ (thenA (blockA r 0) _) = _) (I := fun r st => ∃ p q, l = p ++ r ∧ q.length ≤ p.length ∧ labelsP at_ sy p.length r q = labelsP at_ sy 0 l [] ∧ i26.hints.nm 0 st = some (st26 nl na ns l at_ sy q p.length)) ?_ ?_ l _ ⟨[], [], rfl, Nat.le_refl _, rfl, by simp -implicitDefEqProofs [NormD.run, norm, st26, z52, List.lookup, coSs, coS, setEnt, Sub.put, ctr, sub, Sub.ent, syms]⟩
  · rintro st ⟨p, q, hp, hq, hi, hst⟩ K
    rw [List.append_nil] at hp
    subst hp
    rw [hst, ← hi]
    simp -implicitDefEqProofs [st26, z52, endF, labelsP, labelsR_ok, fltA, List.take_of_length_le]
  · rintro x r st ⟨p, q, hp, hq, hi, hst⟩ K hK
    have h1 : p.length < l.length := by rw [hp]; simp
    have h2 : l[p.length] = x := by simp [hp]
    have h3 := wrap64 p.length (by omega)
    have hf := at_rn G N k x 10
    rw [hst]
    by_cases c1 : x.kind = 1
    · simp -implicitDefEqProofs [st26, z52, h1, h2, h3, c1, acode_loop]
      refine aloop_ind (Q := fun r => finF _ _ _ (thenA (blockA (roundL (thenA (blockA (thenA (blockA r 2) _) _) _) _) _) _) = _) (I := fun r' st => ∃ p', sy = p' ++ r' ∧ hasN x.name p' = false ∧ i26.hints.nm 2 st = some (st26a nl na ns l at_ sy q p.length x p'.length)) ?_ ?_ sy _ ⟨[], rfl, rfl, by simp -implicitDefEqProofs [NormD.run, norm, st26a, z52, List.lookup]⟩
      · rintro st ⟨p', hp', hn', hst⟩ K
        rw [List.append_nil] at hp'
        rw [hst]
        simp -implicitDefEqProofs [st26a, z52, h1, h2, h3, c1, ← hp', acode_loop]
        refine aloop_ind (Q := fun r => finF _ _ _ (thenA (blockA (roundL (thenA (blockA (thenA (blockA r 4) _) _) _) _) _) _) = _) (I := fun r' st => ∃ q', q = q' ++ r' ∧ hasN x.name q' = false ∧ i26.hints.nm 4 st = some (st26b nl na ns l at_ sy q p.length x q'.length)) ?_ ?_ q _ ⟨[], rfl, rfl, by simp -implicitDefEqProofs [NormD.run, norm, st26b, z52, List.lookup, ← hp']⟩
        · rintro st ⟨q', hq', hm', hst⟩ K
          rw [List.append_nil] at hq'
          rw [hst]
          have h6 : (q.length + 1) * 33 ≤ 140737488355328 := by omega
          have e1 : hasN x.name sy = false := by rw [hp']; exact hn'
          have e2 : hasN x.name q = false := by rw [hq']; exact hm'
          simp only [labelsP, c1, e1, e2, Bool.or_self, Bool.false_eq_true, if_true, if_false] at hi
          by_cases c3 : p.length < at_.length
          · simp -implicitDefEqProofs [st26b, z52, h1, h2, h3, c1, c3, ← hq', setAll, cellAV, h6, List.take_of_length_le]
            refine hK _ ⟨p ++ [x], q ++ [⟨x.name, at_.getD p.length 0, 1⟩], by simp [hp], by simp; omega, by rw [← hi]; simp, ?_⟩
            simp -implicitDefEqProofs [NormD.run, norm, st26, z52, List.lookup, coSs, coS, syms_snoc, Sy.cells, c3]
          · simp -implicitDefEqProofs [st26b, z52, h1, h2, h3, c1, c3, ← hq', setAll, cellAV, h6, List.take_of_length_le]
            refine hK _ ⟨p ++ [x], q ++ [⟨x.name, at_.getD p.length 0, 1⟩], by simp [hp], by simp; omega, by rw [← hi]; simp, ?_⟩
            simp -implicitDefEqProofs [NormD.run, norm, st26, z52, List.lookup, coSs, coS, syms_snoc, Sy.cells, List.getElem?_eq_none (show at_.length ≤ p.length by omega)]
        · rintro y r' st ⟨q', hq', hm', hst⟩ K' hK'
          have g1 : q'.length < q.length := by rw [hq']; simp
          have g2 : q[q'.length] = y := by simp [hq']
          have g3 := wrap64 q'.length (by omega)
          rw [hst]
          by_cases c2 : y.name = x.name
          · have e2 : hasN x.name q = true := by rw [hq', hasN_append]; simp [hasN, c2]
            simp only [labelsP, c1, e2, Bool.or_true, if_true] at hi
            rw [← hi]
            simp -implicitDefEqProofs [st26b, z52, g1, g2, g3, c2, toList_beq, endF, labelsR_err, argsIn, subsIn, hf, fltA, drawD_nil, setAll, cellAV]
          · simp -implicitDefEqProofs [st26b, z52, g1, g2, g3, c2, toList_beq, drawD_nil]
            refine hK' _ ⟨q' ++ [y], by simp [hq'], by rw [hasN_append]; simp [hasN, hm', c2], ?_⟩
            simp -implicitDefEqProofs [NormD.run, norm, st26b, z52, List.lookup]
      · rintro y r' st ⟨p', hp', hm', hst⟩ K' hK'
        have g1 : p'.length < sy.length := by rw [hp']; simp
        have g2 : sy[p'.length] = y := by simp [hp']
        have g3 := wrap64 p'.length (by omega)
        rw [hst]
        by_cases c2 : y.name = x.name
        · have e2 : hasN x.name sy = true := by rw [hp', hasN_append]; simp [hasN, c2]
          simp only [labelsP, c1, e2, Bool.true_or, if_true] at hi
          rw [← hi]
          simp -implicitDefEqProofs [st26a, z52, g1, g2, g3, c2, toList_beq, endF, labelsR_err, argsIn, subsIn, hf, fltA, drawD_nil, setAll, cellAV]
        · simp -implicitDefEqProofs [st26a, z52, g1, g2, g3, c2, toList_beq, drawD_nil]
          refine hK' _ ⟨p' ++ [y], by simp [hp'], by rw [hasN_append]; simp [hasN, hm', c2], ?_⟩
          simp -implicitDefEqProofs [NormD.run, norm, st26a, z52, List.lookup]
    · simp only [labelsP, c1, if_false] at hi
      simp -implicitDefEqProofs [st26, z52, h1, h2, h3, c1]
      refine hK _ ⟨p ++ [x], q, by simp [hp], by simp; omega, by rw [← hi]; simp, ?_⟩
      simp -implicitDefEqProofs [NormD.run, norm, st26, z52, List.lookup, coSs, coS]
end Go.Proofs.YtmekfllddifglaaDoor.AM

/- The relax seat: where the document says that items lie (written by mkrr.py). Conditions: none. -/
set_option linter.unusedVariables false
set_option linter.unusedSimpArgs false
set_option maxRecDepth 10000
namespace Go.Proofs.YtmekfllddifglaaDoor.AM
open Go
variable (G : Gl) (N : Nats) (k : Nat)
def st25 (nl nz : Bool) (l : List It) (sizes : List Int) (base at_ : Int) (out : List Int) (i : Nat) : St :=
  ⟨[.sl nl (items l), .sl nz (ints sizes), .v (.int .u32 base), .dead, .dead, .dead, .dead, .loc 7 [] 1 0, .v (.int .i64 at_), .own 9 [] 1 0 out.length, .v (.int .i64 i)] ++ List.replicate 97 .dead,
   [[], [], [], [], [], [], [], [([], (1, some (.box false [.v (.int .i64 0), .v (.int .i64 0), .v (.int .i64 0)])))], [], [([], (1, some (.arr false false 1 24 (words out))))]] ++ List.replicate 98 []⟩
set_option maxHeartbeats 8000000 in
theorem placeR_rn (nl nz : Bool) (l : List It) (sizes : List Int) (base : Int) (hl : l.length < 1000000) (hsz : sizes.length < 4611686018427387904) (hok : ∀ x ∈ l, x.Ok) (hb0 : 0 ≤ base) (hb1 : base < 4294967296) :
    rn (DR G N) (k + 2) 25 [.sl nl (items l), .sl nz (ints sizes), .v (.int .u32 base)] [[], [], []] = some (placeA base (placeP base (saidP sizes) 0 l base), [[], [], []]) := by
  rw [run25]
  have hb : IntKind.wrap .i64 base = base := wrap_small (by omega) (by omega)
  simp -implicitDefEqProofs [Tryd.f25, endF, argsIn, subsIn, acode_loop, hb, setAll, cellAV]
  refine aloop_ind (Q := fun r => finF _ _ _ (thenA (blockA r 0) _) = _) (I := fun r st => ∃ p at_ acc, l = p ++ r ∧ acc.length = p.length ∧ base ≤ at_ ∧ at_ ≤ base + 65536 ∧ at_ < 4294967296 ∧ (placeP base (saidP sizes) p.length r at_).map (fun es => acc ++ es) = placeP base (saidP sizes) 0 l base ∧ i25.hints.nm 0 st = some (st25 nl nz l sizes base at_ (base :: acc) p.length)) ?_ ?_ l _ ⟨[], base, [], rfl, rfl, by omega, by omega, by omega, by simp, by simp -implicitDefEqProofs [NormD.run, norm, st25, List.lookup, words]⟩
  · rintro st ⟨p, at_, acc, hp, hq, ha0, ha1, ha2, hi, hst⟩ K
    rw [List.append_nil] at hp
    subst hp
    rw [hst, ← hi]
    simp -implicitDefEqProofs [st25, endF, placeP, placeA, fltA, List.take_of_length_le]
  · rintro x r st ⟨p, at_, acc, hp, hq, ha0, ha1, ha2, hi, hst⟩ K hK
    have h1 : p.length < l.length := by rw [hp]; simp
    have h2 : l[p.length] = x := by simp [hp]
    have h3 := wrap64 p.length (by omega)
    have hbb : (p.length + 1 + 1) * 5 ≤ 140737488355328 := by rw [hp] at hl; simp at hl; omega
    have hx := hok x (by rw [hp]; simp)
    have hat : 0 ≤ at_ := by omega
    obtain ⟨hn0, hn1⟩ := hx.1
    have ha12 := at_rn G N k x 12
    have ha16 := at_rn G N k x 16
    rw [hst]
    by_cases k4 : x.kind = 4
    · by_cases od : at_.tmod 2 = 1
      · rw [← hi, placeP_err (c := 16) (by simp [stepP, k4, odd_of od hat])]
        simp -implicitDefEqProofs [st25, drawD_nil, h1, h2, h3, hb, hbb, hq, endF, argsIn, subsIn, setAll, cellAV, List.take_of_length_le, ha16, k4, od, errR, fltA]
      · have hs := said_rn G N k nz sizes p.length hsz
        have s0 := saidP_pos sizes p.length
        have s1 := saidP_le sizes p.length
        have w1 : IntKind.wrap .i64 (saidP sizes p.length) = saidP sizes p.length := wrap_small (by omega) (by omega)
        have w2 : IntKind.wrap .i64 (at_ + saidP sizes p.length) = at_ + saidP sizes p.length := wrap_small (by omega) (by omega)
        have w4 : IntKind.wrap .i64 (at_ + saidP sizes p.length - base) = at_ + saidP sizes p.length - base := wrap_small (by omega) (by omega)
        by_cases v1 : 65536 < at_ + saidP sizes p.length - base
        · rw [← hi, placeP_err (c := 12) (by simp [stepP, lenP, k4, even_of od hat, v1])]
          simp -implicitDefEqProofs [st25, drawD_nil, h1, h2, h3, hb, hbb, hq, endF, argsIn, subsIn, setAll, cellAV, List.take_of_length_le, ha12, k4, od, hs, w1, w2, w4, v1, errR, fltA]
        · by_cases v2 : 4294967296 ≤ at_ + saidP sizes p.length
          · rw [← hi, placeP_err (c := 12) (by simp [stepP, lenP, k4, even_of od hat, v1, v2])]
            simp -implicitDefEqProofs [st25, drawD_nil, h1, h2, h3, hb, hbb, hq, endF, argsIn, subsIn, setAll, cellAV, List.take_of_length_le, ha12, k4, od, hs, w1, w2, w4, v1, v2, errR, fltA]
          · have w3 : IntKind.wrap .u32 (at_ + saidP sizes p.length) = at_ + saidP sizes p.length := wrapU32 (by omega) (by omega)
            simp -implicitDefEqProofs [st25, drawD_nil, h1, h2, h3, hb, hbb, hq, endF, argsIn, subsIn, setAll, cellAV, List.take_of_length_le, ha12, k4, od, hs, w1, w2, w4, v1, v2, w3]
            refine hK _ ⟨p ++ [x], at_ + saidP sizes p.length, acc ++ [at_ + saidP sizes p.length], by simp [hp], by simp [hq], by omega, by omega, by omega, by rw [← hi, placeP_ok (e := at_ + saidP sizes p.length) (by simp [stepP, lenP, k4, even_of od hat, v1, v2])]; simp, ?_⟩
            simp -implicitDefEqProofs [NormD.run, norm, st25, List.lookup, words, hq]
    by_cases k5 : x.kind = 5
    · by_cases od : at_.tmod 2 = 1
      · rw [← hi, placeP_err (c := 16) (by simp [stepP, k5, odd_of od hat])]
        simp -implicitDefEqProofs [st25, drawD_nil, h1, h2, h3, hb, hbb, hq, endF, argsIn, subsIn, setAll, cellAV, List.take_of_length_le, ha16, k5, od, errR, fltA]
      · have hs := said_rn G N k nz sizes p.length hsz
        have s0 := saidP_pos sizes p.length
        have s1 := saidP_le sizes p.length
        have w1 : IntKind.wrap .i64 (saidP sizes p.length) = saidP sizes p.length := wrap_small (by omega) (by omega)
        have w2 : IntKind.wrap .i64 (at_ + saidP sizes p.length) = at_ + saidP sizes p.length := wrap_small (by omega) (by omega)
        have w4 : IntKind.wrap .i64 (at_ + saidP sizes p.length - base) = at_ + saidP sizes p.length - base := wrap_small (by omega) (by omega)
        by_cases v1 : 65536 < at_ + saidP sizes p.length - base
        · rw [← hi, placeP_err (c := 12) (by simp [stepP, lenP, k5, even_of od hat, v1])]
          simp -implicitDefEqProofs [st25, drawD_nil, h1, h2, h3, hb, hbb, hq, endF, argsIn, subsIn, setAll, cellAV, List.take_of_length_le, ha12, k5, od, hs, w1, w2, w4, v1, errR, fltA]
        · by_cases v2 : 4294967296 ≤ at_ + saidP sizes p.length
          · rw [← hi, placeP_err (c := 12) (by simp [stepP, lenP, k5, even_of od hat, v1, v2])]
            simp -implicitDefEqProofs [st25, drawD_nil, h1, h2, h3, hb, hbb, hq, endF, argsIn, subsIn, setAll, cellAV, List.take_of_length_le, ha12, k5, od, hs, w1, w2, w4, v1, v2, errR, fltA]
          · have w3 : IntKind.wrap .u32 (at_ + saidP sizes p.length) = at_ + saidP sizes p.length := wrapU32 (by omega) (by omega)
            simp -implicitDefEqProofs [st25, drawD_nil, h1, h2, h3, hb, hbb, hq, endF, argsIn, subsIn, setAll, cellAV, List.take_of_length_le, ha12, k5, od, hs, w1, w2, w4, v1, v2, w3]
            refine hK _ ⟨p ++ [x], at_ + saidP sizes p.length, acc ++ [at_ + saidP sizes p.length], by simp [hp], by simp [hq], by omega, by omega, by omega, by rw [← hi, placeP_ok (e := at_ + saidP sizes p.length) (by simp [stepP, lenP, k5, even_of od hat, v1, v2])]; simp, ?_⟩
            simp -implicitDefEqProofs [NormD.run, norm, st25, List.lookup, words, hq]
    by_cases k6 : x.kind = 6
    · by_cases od : at_.tmod 2 = 1
      · rw [← hi, placeP_err (c := 16) (by simp [stepP, k6, odd_of od hat])]
        simp -implicitDefEqProofs [st25, drawD_nil, h1, h2, h3, hb, hbb, hq, endF, argsIn, subsIn, setAll, cellAV, List.take_of_length_le, ha16, k6, od, errR, fltA]
      · have hs := said_rn G N k nz sizes p.length hsz
        have s0 := saidP_pos sizes p.length
        have s1 := saidP_le sizes p.length
        have w1 : IntKind.wrap .i64 (saidP sizes p.length) = saidP sizes p.length := wrap_small (by omega) (by omega)
        have w2 : IntKind.wrap .i64 (at_ + saidP sizes p.length) = at_ + saidP sizes p.length := wrap_small (by omega) (by omega)
        have w4 : IntKind.wrap .i64 (at_ + saidP sizes p.length - base) = at_ + saidP sizes p.length - base := wrap_small (by omega) (by omega)
        by_cases v1 : 65536 < at_ + saidP sizes p.length - base
        · rw [← hi, placeP_err (c := 12) (by simp [stepP, lenP, k6, even_of od hat, v1])]
          simp -implicitDefEqProofs [st25, drawD_nil, h1, h2, h3, hb, hbb, hq, endF, argsIn, subsIn, setAll, cellAV, List.take_of_length_le, ha12, k6, od, hs, w1, w2, w4, v1, errR, fltA]
        · by_cases v2 : 4294967296 ≤ at_ + saidP sizes p.length
          · rw [← hi, placeP_err (c := 12) (by simp [stepP, lenP, k6, even_of od hat, v1, v2])]
            simp -implicitDefEqProofs [st25, drawD_nil, h1, h2, h3, hb, hbb, hq, endF, argsIn, subsIn, setAll, cellAV, List.take_of_length_le, ha12, k6, od, hs, w1, w2, w4, v1, v2, errR, fltA]
          · have w3 : IntKind.wrap .u32 (at_ + saidP sizes p.length) = at_ + saidP sizes p.length := wrapU32 (by omega) (by omega)
            simp -implicitDefEqProofs [st25, drawD_nil, h1, h2, h3, hb, hbb, hq, endF, argsIn, subsIn, setAll, cellAV, List.take_of_length_le, ha12, k6, od, hs, w1, w2, w4, v1, v2, w3]
            refine hK _ ⟨p ++ [x], at_ + saidP sizes p.length, acc ++ [at_ + saidP sizes p.length], by simp [hp], by simp [hq], by omega, by omega, by omega, by rw [← hi, placeP_ok (e := at_ + saidP sizes p.length) (by simp [stepP, lenP, k6, even_of od hat, v1, v2])]; simp, ?_⟩
            simp -implicitDefEqProofs [NormD.run, norm, st25, List.lookup, words, hq]
    by_cases k10 : x.kind = 10
    · have wn : IntKind.wrap .i64 x.num = x.num := wrap_small (by omega) (by omega)
      by_cases n0 : 0 < x.num
      · have t1 := Int.tmod_nonneg x.num (show 0 ≤ at_ from by omega)
        have t2 := Int.tmod_lt_of_pos at_ n0
        have t3 := Int.tmod_nonneg x.num (show 0 ≤ x.num - at_.tmod x.num from by omega)
        have t4 := Int.tmod_lt_of_pos (x.num - at_.tmod x.num) n0
        have w1 : IntKind.wrap .i64 (x.num - at_.tmod x.num) = x.num - at_.tmod x.num := wrap_small (by omega) (by omega)
        have w2 : IntKind.wrap .i64 (at_ + (x.num - at_.tmod x.num).tmod x.num) = at_ + (x.num - at_.tmod x.num).tmod x.num := wrap_small (by omega) (by omega)
        have w4 : IntKind.wrap .i64 (at_ + (x.num - at_.tmod x.num).tmod x.num - base) = at_ + (x.num - at_.tmod x.num).tmod x.num - base := wrap_small (by omega) (by omega)
        have n1 : ¬ x.num = 0 := by omega
        by_cases v1 : 65536 < at_ + (x.num - at_.tmod x.num).tmod x.num - base
        · rw [← hi, placeP_err (c := 12) (by simp [stepP, lenP, k10, n0, v1])]
          simp -implicitDefEqProofs [st25, drawD_nil, h1, h2, h3, hb, hbb, hq, endF, argsIn, subsIn, setAll, cellAV, List.take_of_length_le, ha12, k10, n0, n1, wn, w1, w2, w4, v1, errR, fltA]
        · by_cases v2 : 4294967296 ≤ at_ + (x.num - at_.tmod x.num).tmod x.num
          · rw [← hi, placeP_err (c := 12) (by simp [stepP, lenP, k10, n0, v1, v2])]
            simp -implicitDefEqProofs [st25, drawD_nil, h1, h2, h3, hb, hbb, hq, endF, argsIn, subsIn, setAll, cellAV, List.take_of_length_le, ha12, k10, n0, n1, wn, w1, w2, w4, v1, v2, errR, fltA]
          · have w3 : IntKind.wrap .u32 (at_ + (x.num - at_.tmod x.num).tmod x.num) = at_ + (x.num - at_.tmod x.num).tmod x.num := wrapU32 (by omega) (by omega)
            simp -implicitDefEqProofs [st25, drawD_nil, h1, h2, h3, hb, hbb, hq, endF, argsIn, subsIn, setAll, cellAV, List.take_of_length_le, ha12, k10, n0, n1, wn, w1, w2, w4, v1, v2, w3]
            refine hK _ ⟨p ++ [x], at_ + (x.num - at_.tmod x.num).tmod x.num, acc ++ [at_ + (x.num - at_.tmod x.num).tmod x.num], by simp [hp], by simp [hq], by omega, by omega, by omega, by rw [← hi, placeP_ok (e := at_ + (x.num - at_.tmod x.num).tmod x.num) (by simp [stepP, lenP, k10, n0, v1, v2])]; simp, ?_⟩
            simp -implicitDefEqProofs [NormD.run, norm, st25, List.lookup, words, hq]
      · have w2 : IntKind.wrap .i64 at_ = at_ := wrap_small (by omega) (by omega)
        have w4 : IntKind.wrap .i64 (at_ - base) = at_ - base := wrap_small (by omega) (by omega)
        by_cases v1 : 65536 < at_ - base
        · rw [← hi, placeP_err (c := 12) (by simp [stepP, lenP, k10, n0, v1])]
          simp -implicitDefEqProofs [st25, drawD_nil, h1, h2, h3, hb, hbb, hq, endF, argsIn, subsIn, setAll, cellAV, List.take_of_length_le, ha12, k10, n0, wn, w2, w4, v1, errR, fltA]
        · by_cases v2 : 4294967296 ≤ at_
          · rw [← hi, placeP_err (c := 12) (by simp [stepP, lenP, k10, n0, v1, v2])]
            simp -implicitDefEqProofs [st25, drawD_nil, h1, h2, h3, hb, hbb, hq, endF, argsIn, subsIn, setAll, cellAV, List.take_of_length_le, ha12, k10, n0, wn, w2, w4, v1, v2, errR, fltA]
          · have w3 : IntKind.wrap .u32 (at_) = at_ := wrapU32 (by omega) (by omega)
            simp -implicitDefEqProofs [st25, drawD_nil, h1, h2, h3, hb, hbb, hq, endF, argsIn, subsIn, setAll, cellAV, List.take_of_length_le, ha12, k10, n0, wn, w2, w4, v1, v2, w3]
            refine hK _ ⟨p ++ [x], at_, acc ++ [at_], by simp [hp], by simp [hq], by omega, by omega, by omega, by rw [← hi, placeP_ok (e := at_) (by simp [stepP, lenP, k10, n0, v1, v2])]; simp, ?_⟩
            simp -implicitDefEqProofs [NormD.run, norm, st25, List.lookup, words, hq]
    by_cases k11 : x.kind = 11
    · have wn : IntKind.wrap .i64 x.num = x.num := wrap_small (by omega) (by omega)
      have w1 : IntKind.wrap .i64 (base + x.num) = base + x.num := wrap_small (by omega) (by omega)
      have w5 : IntKind.wrap .i64 (base + x.num - at_) = base + x.num - at_ := wrapI64 (by omega) (by omega)
      by_cases n0 : base + x.num - at_ < 0
      · rw [← hi, placeP_err (c := 12) (by simp [stepP, lenP, k11, n0])]
        simp -implicitDefEqProofs [st25, drawD_nil, h1, h2, h3, hb, hbb, hq, endF, argsIn, subsIn, setAll, cellAV, List.take_of_length_le, ha12, k11, n0, wn, w1, w5, errR, fltA]
      · have w2 : IntKind.wrap .i64 (at_ + (base + x.num - at_)) = at_ + (base + x.num - at_) := wrap_small (by omega) (by omega)
        have w4 : IntKind.wrap .i64 (at_ + (base + x.num - at_) - base) = at_ + (base + x.num - at_) - base := wrap_small (by omega) (by omega)
        by_cases v1 : 65536 < at_ + (base + x.num - at_) - base
        · rw [← hi, placeP_err (c := 12) (by simp [stepP, lenP, k11, n0, v1])]
          simp -implicitDefEqProofs [st25, drawD_nil, h1, h2, h3, hb, hbb, hq, endF, argsIn, subsIn, setAll, cellAV, List.take_of_length_le, ha12, k11, n0, wn, w1, w5, w2, w4, v1, errR, fltA]
        · by_cases v2 : 4294967296 ≤ at_ + (base + x.num - at_)
          · rw [← hi, placeP_err (c := 12) (by simp [stepP, lenP, k11, n0, v1, v2])]
            simp -implicitDefEqProofs [st25, drawD_nil, h1, h2, h3, hb, hbb, hq, endF, argsIn, subsIn, setAll, cellAV, List.take_of_length_le, ha12, k11, n0, wn, w1, w5, w2, w4, v1, v2, errR, fltA]
          · have w3 : IntKind.wrap .u32 (at_ + (base + x.num - at_)) = at_ + (base + x.num - at_) := wrapU32 (by omega) (by omega)
            simp -implicitDefEqProofs [st25, drawD_nil, h1, h2, h3, hb, hbb, hq, endF, argsIn, subsIn, setAll, cellAV, List.take_of_length_le, ha12, k11, n0, wn, w1, w5, w2, w4, v1, v2, w3]
            refine hK _ ⟨p ++ [x], at_ + (base + x.num - at_), acc ++ [at_ + (base + x.num - at_)], by simp [hp], by simp [hq], by omega, by omega, by omega, by rw [← hi, placeP_ok (e := at_ + (base + x.num - at_)) (by simp [stepP, lenP, k11, n0, v1, v2])]; simp, ?_⟩
            simp -implicitDefEqProofs [NormD.run, norm, st25, List.lookup, words, hq]
    have c0 := classes_pos x
    have c1 := classes_small x hx.2.1
    obtain ⟨a, t, ht⟩ : ∃ a t, classesP x = a :: t := by
      cases h : classesP x with
      | nil => exact (classes_ne x h).elim
      | cons a t => exact ⟨a, t, rfl⟩
    simp only [ht, List.headD_cons] at c0 c1
    have hc := classesR_rn G N k x
    simp only [ht, ints, List.map_cons] at hc
    have w1 : IntKind.wrap .i64 a = a := wrap_small (by omega) (by omega)
    have w2 : IntKind.wrap .i64 (at_ + a) = at_ + a := wrap_small (by omega) (by omega)
    have w4 : IntKind.wrap .i64 (at_ + a - base) = at_ + a - base := wrap_small (by omega) (by omega)
    by_cases g2 : 2 ≤ x.kind
    · by_cases g7 : x.kind ≤ 7
      · by_cases od : at_.tmod 2 = 1
        · rw [← hi, placeP_err (c := 16) (by simp [stepP, g2, g7, odd_of od hat])]
          simp -implicitDefEqProofs [st25, drawD_nil, h1, h2, h3, hb, hbb, hq, endF, argsIn, subsIn, setAll, cellAV, List.take_of_length_le, ha16, g2, g7, od, errR, fltA]
        · skip
          by_cases v1 : 65536 < at_ + a - base
          · rw [← hi, placeP_err (c := 12) (by simp [stepP, lenP, g2, g7, even_of od hat, k4, k5, k6, k10, k11, ht, v1])]
            simp -implicitDefEqProofs [st25, drawD_nil, h1, h2, h3, hb, hbb, hq, endF, argsIn, subsIn, setAll, cellAV, List.take_of_length_le, ha12, g2, g7, od, k4, k5, k6, k10, k11, hc, w1, w2, w4, v1, errR, fltA]
          · by_cases v2 : 4294967296 ≤ at_ + a
            · rw [← hi, placeP_err (c := 12) (by simp [stepP, lenP, g2, g7, even_of od hat, k4, k5, k6, k10, k11, ht, v1, v2])]
              simp -implicitDefEqProofs [st25, drawD_nil, h1, h2, h3, hb, hbb, hq, endF, argsIn, subsIn, setAll, cellAV, List.take_of_length_le, ha12, g2, g7, od, k4, k5, k6, k10, k11, hc, w1, w2, w4, v1, v2, errR, fltA]
            · have w3 : IntKind.wrap .u32 (at_ + a) = at_ + a := wrapU32 (by omega) (by omega)
              simp -implicitDefEqProofs [st25, drawD_nil, h1, h2, h3, hb, hbb, hq, endF, argsIn, subsIn, setAll, cellAV, List.take_of_length_le, ha12, g2, g7, od, k4, k5, k6, k10, k11, hc, w1, w2, w4, v1, v2, w3]
              refine hK _ ⟨p ++ [x], at_ + a, acc ++ [at_ + a], by simp [hp], by simp [hq], by omega, by omega, by omega, by rw [← hi, placeP_ok (e := at_ + a) (by simp [stepP, lenP, g2, g7, even_of od hat, k4, k5, k6, k10, k11, ht, v1, v2])]; simp, ?_⟩
              simp -implicitDefEqProofs [NormD.run, norm, st25, List.lookup, words, hq]
      · skip
        by_cases v1 : 65536 < at_ + a - base
        · rw [← hi, placeP_err (c := 12) (by simp [stepP, lenP, g2, g7, k4, k5, k6, k10, k11, ht, v1])]
          simp -implicitDefEqProofs [st25, drawD_nil, h1, h2, h3, hb, hbb, hq, endF, argsIn, subsIn, setAll, cellAV, List.take_of_length_le, ha12, g2, g7, k4, k5, k6, k10, k11, hc, w1, w2, w4, v1, errR, fltA]
        · by_cases v2 : 4294967296 ≤ at_ + a
          · rw [← hi, placeP_err (c := 12) (by simp [stepP, lenP, g2, g7, k4, k5, k6, k10, k11, ht, v1, v2])]
            simp -implicitDefEqProofs [st25, drawD_nil, h1, h2, h3, hb, hbb, hq, endF, argsIn, subsIn, setAll, cellAV, List.take_of_length_le, ha12, g2, g7, k4, k5, k6, k10, k11, hc, w1, w2, w4, v1, v2, errR, fltA]
          · have w3 : IntKind.wrap .u32 (at_ + a) = at_ + a := wrapU32 (by omega) (by omega)
            simp -implicitDefEqProofs [st25, drawD_nil, h1, h2, h3, hb, hbb, hq, endF, argsIn, subsIn, setAll, cellAV, List.take_of_length_le, ha12, g2, g7, k4, k5, k6, k10, k11, hc, w1, w2, w4, v1, v2, w3]
            refine hK _ ⟨p ++ [x], at_ + a, acc ++ [at_ + a], by simp [hp], by simp [hq], by omega, by omega, by omega, by rw [← hi, placeP_ok (e := at_ + a) (by simp [stepP, lenP, g2, g7, k4, k5, k6, k10, k11, ht, v1, v2])]; simp, ?_⟩
            simp -implicitDefEqProofs [NormD.run, norm, st25, List.lookup, words, hq]
    · skip
      by_cases v1 : 65536 < at_ + a - base
      · rw [← hi, placeP_err (c := 12) (by simp [stepP, lenP, g2, k4, k5, k6, k10, k11, ht, v1])]
        simp -implicitDefEqProofs [st25, drawD_nil, h1, h2, h3, hb, hbb, hq, endF, argsIn, subsIn, setAll, cellAV, List.take_of_length_le, ha12, g2, k4, k5, k6, k10, k11, hc, w1, w2, w4, v1, errR, fltA]
      · by_cases v2 : 4294967296 ≤ at_ + a
        · rw [← hi, placeP_err (c := 12) (by simp [stepP, lenP, g2, k4, k5, k6, k10, k11, ht, v1, v2])]
          simp -implicitDefEqProofs [st25, drawD_nil, h1, h2, h3, hb, hbb, hq, endF, argsIn, subsIn, setAll, cellAV, List.take_of_length_le, ha12, g2, k4, k5, k6, k10, k11, hc, w1, w2, w4, v1, v2, errR, fltA]
        · have w3 : IntKind.wrap .u32 (at_ + a) = at_ + a := wrapU32 (by omega) (by omega)
          simp -implicitDefEqProofs [st25, drawD_nil, h1, h2, h3, hb, hbb, hq, endF, argsIn, subsIn, setAll, cellAV, List.take_of_length_le, ha12, g2, k4, k5, k6, k10, k11, hc, w1, w2, w4, v1, v2, w3]
          refine hK _ ⟨p ++ [x], at_ + a, acc ++ [at_ + a], by simp [hp], by simp [hq], by omega, by omega, by omega, by rw [← hi, placeP_ok (e := at_ + a) (by simp [stepP, lenP, g2, k4, k5, k6, k10, k11, ht, v1, v2])]; simp, ?_⟩
          simp -implicitDefEqProofs [NormD.run, norm, st25, List.lookup, words, hq]
end Go.Proofs.YtmekfllddifglaaDoor.AM

/- The relax seat: whether sizes reach, as the document says. Conditions: none. -/
set_option linter.unusedVariables false
set_option linter.unusedSimpArgs false
set_option maxRecDepth 10000
namespace Go.Proofs.YtmekfllddifglaaDoor.AM
open Go
variable (G : Gl) (N : Nats) (k : Nat)
def fitsL (all : List Sy) (at_ sizes : List Int) : Nat → List It → Bool
  | _, [] => true
  | i, x :: r => if x.grows then (match symF x.name all with
      | none => false
      | some v => if reachesQ x (sizes.getD i 0) (IntKind.wrap .i32 (IntKind.wrap .u32 (v - at_.getD i 0))) then fitsL all at_ sizes (i + 1) r else false) else fitsL all at_ sizes (i + 1) r
def fitsP (l : List It) (sizes : List Int) (sy : List Sy) (base : Int) : Bool := match placeP base (saidP sizes) 0 l base with
  | .error _ => false
  | .ok es => match labelsP (base :: es) sy 0 l [] with
    | .error _ => false
    | .ok labs => if sizes.length = l.length then fitsL (sy ++ labs) (base :: es) sizes 0 l else false
def st12 (nl nz fz : Bool) (l : List It) (sizes at_ : List Int) (all : List Sy) (i : Nat) : St :=
  ⟨[.sl nl (items l), .sl nz (ints sizes), .dead, .dead, .dead, .dead, .dead, .dead, .dead, .sl false (words at_), .dead, .dead, .dead, .own 13 [] 1 0 all.length, .v (.int .i64 i)] ++ List.replicate 78 .dead,
   List.replicate 13 [] ++ [([], (1, some (.arr false fz 3 72 (syms all))))] :: List.replicate 79 []⟩
theorem placeP_code {base : Int} {sz : Nat → Int} : ∀ {i : Nat} {l : List It} {at_ : Int} {f : Flt}, placeP base sz i l at_ = .error f → 0 < f.2.2
  | _, [], _, _, h => by simp [placeP] at h
  | i, x :: r, at_, f, h => by
    simp only [placeP] at h
    split at h
    · rename_i c hc
      cases h
      simp only [stepP] at hc
      split at hc
      · cases hc; simp
      · split at hc
        · cases hc; simp
        · split at hc
          · cases hc; simp
          · split at hc <;> cases hc
            simp
    · rename_i e he
      cases hr : placeP base sz (i + 1) r e with
      | error g => rw [hr] at h; cases h; exact placeP_code hr
      | ok g => rw [hr] at h; cases h
theorem placeP_len {base : Int} {sz : Nat → Int} : ∀ {i : Nat} {l : List It} {at_ : Int} {es : List Int}, placeP base sz i l at_ = .ok es → es.length = l.length
  | _, [], _, _, h => by simp only [placeP] at h; cases h; rfl
  | i, x :: r, at_, es, h => by
    simp only [placeP] at h
    split at h
    · cases h
    · rename_i e he
      cases hr : placeP base sz (i + 1) r e with
      | error g => rw [hr] at h; cases h
      | ok g => rw [hr] at h; cases h; simp [placeP_len hr]
theorem labelsP_code {at_ : List Int} {sy : List Sy} : ∀ {i : Nat} {l : List It} {q : List Sy} {f : Flt}, labelsP at_ sy i l q = .error f → 0 < f.2.2
  | _, [], _, _, h => by simp [labelsP] at h
  | i, x :: r, q, f, h => by
    simp only [labelsP] at h
    split at h
    · split at h
      · cases h; simp
      · exact labelsP_code h
    · exact labelsP_code h
theorem labelsP_len {at_ : List Int} {sy : List Sy} : ∀ {i : Nat} {l : List It} {q labs : List Sy}, labelsP at_ sy i l q = .ok labs → labs.length ≤ q.length + l.length
  | _, [], _, _, h => by simp only [labelsP] at h; cases h; simp
  | i, x :: r, q, labs, h => by
    simp only [labelsP] at h
    split at h
    · split at h
      · cases h
      · have := labelsP_len h
        simp at this ⊢
        omega
    · have := labelsP_len h
      simp at this ⊢
      omega
theorem cells_syms : ∀ (s : List Sy) (x : AV), x ∈ syms s → (cellsOf x).length = 3 := by
  intro s x hx
  simp only [syms, List.mem_map] at hx
  obtain ⟨y, _, rfl⟩ := hx
  rfl
set_option maxHeartbeats 2000000 in
theorem fits_law_rn (nl nz ns : Bool) (l : List It) (sizes : List Int) (sy : List Sy) (base : Int) (hl : l.length < 1000000) (hs : sy.length < 1000000) (hsz : sizes.length < 4611686018427387904) (hok : ∀ x ∈ l, x.Ok) (hb0 : 0 ≤ base) (hb1 : base < 4294967296) :
    rn (DR G N) (k + 4) 12 [.sl nl (items l), .sl nz (ints sizes), .sl ns (syms sy), .v (.int .u32 base)] [[], [], [], []] = some (.v (.bool (fitsP l sizes sy base)), [[], [], [], []]) := by
  rw [run12]
  have hp := placeR_rn G N (k + 1) nl nz l sizes base hl hsz hok hb0 hb1
  cases hP : placeP base (saidP sizes) 0 l base with
  | error f =>
    have hc := placeP_code hP
    have hl0 := labelsR_rn G N (k + 1) nl true ns l [] sy hl (by simp) hs
    simp only [words, List.map_nil] at hl0
    cases hL : labelsP [] sy 0 l [] with
    | error g =>
      rw [hL, show g = (g.1, g.2.1, g.2.2) from rfl, labelsR_err] at hl0
      simp -implicitDefEqProofs [Tryd.f12, endF, argsIn, subsIn, hp, hP, placeA, fltA, setAll, cellAV, fitsP, hl0, hc]
    | ok labs =>
      rw [hL, labelsR_ok] at hl0
      simp -implicitDefEqProofs [Tryd.f12, endF, argsIn, subsIn, hp, hP, placeA, fltA, setAll, cellAV, fitsP, hl0, hc]
  | ok es =>
    have hlen := placeP_len hP
    have hl0 := labelsR_rn G N (k + 1) nl false ns l (base :: es) sy hl (by simp; omega) hs
    cases hL : labelsP (base :: es) sy 0 l [] with
    | error g =>
      have hc := labelsP_code hL
      rw [hL, show g = (g.1, g.2.1, g.2.2) from rfl, labelsR_err] at hl0
      simp -implicitDefEqProofs [Tryd.f12, endF, argsIn, subsIn, hp, hP, placeA, fltA, setAll, cellAV, fitsP, hl0, hL, hc]
    | ok labs =>
      rw [hL, labelsR_ok] at hl0
      by_cases hn : sizes.length = l.length
      · have hlb := labelsP_len hL
        simp at hlb
        have hb1 : sy.length * 33 ≤ 140737488355328 := by omega
        have hb2 : (sy.length + labs.length) * 33 ≤ 140737488355328 := by omega
        have hc1 := cells_syms sy
        have hc2 := cells_syms labs
        simp -implicitDefEqProofs [Tryd.f12, endF, argsIn, subsIn, hp, hP, placeA, fltA, setAll, cellAV, fitsP, hl0, hL, hn, hb1, hb2, if_pos hc1, if_pos hc2, List.take_of_length_le, acode_loop]
        refine aloop_ind (Q := fun r => finF _ _ _ (thenA (blockA r 0) _) = _) (I := fun r st => ∃ p fz, l = p ++ r ∧ fitsL (sy ++ labs) (base :: es) sizes p.length r = fitsL (sy ++ labs) (base :: es) sizes 0 l ∧ i12.hints.nm 0 st = some (st12 nl nz fz l sizes (base :: es) (sy ++ labs) p.length)) ?_ ?_ l _ ⟨[], false, rfl, rfl, by simp -implicitDefEqProofs [NormD.run, norm, st12, List.lookup, syms]⟩
        · rintro st ⟨p, fz, hp', hi, hst⟩ K
          rw [List.append_nil] at hp'
          subst hp'
          rw [hst, ← hi]
          simp -implicitDefEqProofs [st12, endF, fitsL]
        · rintro x r st ⟨p, fz, hp', hi, hst⟩ K hK
          have h1 : p.length < l.length := by rw [hp']; simp
          have h2 : l[p.length] = x := by simp [hp']
          have h3 := wrap64 p.length (by omega)
          have h4 : p.length < sizes.length := by omega
          have h4' : p.length < (ints sizes).length := by simpa using h4
          have h5 : p.length < (base :: es).length := by simp; omega
          have h6 : p.length < es.length + 1 := by omega
          have h7 : (p.length : Int) < (es.length : Int) + 1 := by omega
          have ht := targetR_rn G N (k + 2) x false (sy ++ labs) (by simp; omega)
          rw [hst]
          cases c1 : x.grows with
          | false =>
            simp only [fitsL, c1, Bool.false_eq_true, if_false] at hi
            simp -implicitDefEqProofs [st12, h1, h2, h3, c1, argsIn, subsIn]
            refine hK _ ⟨p ++ [x], fz, by simp [hp'], by rw [← hi]; simp, ?_⟩
            simp -implicitDefEqProofs [NormD.run, norm, st12, List.lookup]
          | true =>
            simp only [fitsL, c1, if_true] at hi
            have hk : List.take (sy.length + labs.length) (syms (sy ++ labs)) = syms (sy ++ labs) := List.take_of_length_le (by simp)
            cases hs1 : symF x.name (sy ++ labs) with
            | none =>
              rw [hs1] at ht
              simp only [hs1] at hi
              rw [← hi]
              simp -implicitDefEqProofs [st12, h1, h2, h3, h4, h4', h6, h7, c1, argsIn, subsIn, hk, ht, drawD_nil, endF]
            | some v =>
              rw [hs1] at ht
              have e1 : sizes.getD p.length 0 = sizes[p.length] := by simp [h4]
              have e2 : (base :: es).getD p.length 0 = (base :: es)[p.length] := by rw [List.getD_eq_getElem?_getD, List.getElem?_eq_getElem h5]; rfl
              have hr := reachesR_rn G N (k + 1) x sizes[p.length] (IntKind.wrap .i32 (IntKind.wrap .u32 (v - (base :: es)[p.length])))
              simp only [hs1, e1, e2] at hi
              cases c2 : reachesQ x sizes[p.length] (IntKind.wrap .i32 (IntKind.wrap .u32 (v - (base :: es)[p.length]))) with
              | true =>
                rw [c2] at hr
                simp only [c2, if_true] at hi
                simp -implicitDefEqProofs [st12, h1, h2, h3, h4, h4', h6, h7, c1, argsIn, subsIn, hk, ht, drawD_nil, endF, hr]
                refine hK _ ⟨p ++ [x], true, by simp [hp'], by rw [← hi]; simp, ?_⟩
                simp -implicitDefEqProofs [NormD.run, norm, st12, List.lookup]
              | false =>
                rw [c2] at hr
                simp only [c2, Bool.false_eq_true, if_false] at hi
                rw [← hi]
                simp -implicitDefEqProofs [st12, h1, h2, h3, h4, h4', h6, h7, c1, argsIn, subsIn, hk, ht, drawD_nil, endF, hr]
      · have hn' : ¬ (sizes.length : Int) = l.length := by omega
        simp -implicitDefEqProofs [Tryd.f12, endF, argsIn, subsIn, hp, hP, placeA, fltA, setAll, cellAV, fitsP, hl0, hL, hn, hn']
end Go.Proofs.YtmekfllddifglaaDoor.AM

/- The relax seat: the same layouts. Conditions: none. -/
set_option linter.unusedVariables false
set_option linter.unusedSimpArgs false
set_option maxRecDepth 10000
namespace Go.Proofs.YtmekfllddifglaaDoor.AM
open Go
variable (G : Gl) (N : Nats) (k : Nat)
def layL (na nb nc : Bool) (y : Lay) : AV := .agg [.sl na (ints y.sz), .sl nb (words y.at_), .sl nc (syms y.labs), .v (.int .i64 y.n)]
def sameP (a b : Lay) : Bool := decide (a.sz = b.sz) && decide (a.at_ = b.at_) && symsE a.labs b.labs && decide (a.n = b.n)
set_option maxHeartbeats 2000000 in
theorem same_rn (na nb nc ma mb mc : Bool) (a b : Lay) (h1 : a.sz.length < 1000000) (h2 : a.at_.length < 1000000) (h3 : a.labs.length < 1000000) : rn (DR G N) (k + 2) 16 [layL na nb nc a, layL ma mb mc b] [[], []] = some (.v (.bool (sameP a b)), [[], []]) := by
  rw [run16]
  have i1 := ints_rn G N k na ma a.sz b.sz h1
  have i2 := words_rn G N k nb mb a.at_ b.at_ h2
  have i3 := symsE_rn G N k nc mc a.labs b.labs h3
  cases d1 : decide (a.sz = b.sz) with
  | false =>
    rw [d1] at i1
    simp -implicitDefEqProofs only [sameP, d1, Bool.false_and]
    simp -implicitDefEqProofs [Tryd.f16, layL, sameP, endF, argsIn, subsIn, i1, i2, i3]
  | true =>
    rw [d1] at i1
    cases d2 : decide (a.at_ = b.at_) with
    | false =>
      rw [d2] at i2
      simp -implicitDefEqProofs only [sameP, d1, d2, Bool.false_and, Bool.and_false]
      simp -implicitDefEqProofs [Tryd.f16, layL, sameP, endF, argsIn, subsIn, i1, i2, i3]
    | true =>
      rw [d2] at i2
      cases d3 : symsE a.labs b.labs with
      | false =>
        rw [d3] at i3
        simp -implicitDefEqProofs only [sameP, d1, d2, d3, Bool.false_and, Bool.and_false]
        simp -implicitDefEqProofs [Tryd.f16, layL, sameP, endF, argsIn, subsIn, i1, i2, i3]
      | true =>
        rw [d3] at i3
        simp -implicitDefEqProofs only [sameP, d1, d2, d3, Bool.true_and]
        by_cases c4 : a.n = b.n
        · simp -implicitDefEqProofs [Tryd.f16, layL, sameP, endF, argsIn, subsIn, i1, i2, i3, c4]
        · have c5 : ¬ (a.n : Int) = b.n := by omega
          simp -implicitDefEqProofs [Tryd.f16, layL, sameP, endF, argsIn, subsIn, i1, i2, i3, c4, c5]
end Go.Proofs.YtmekfllddifglaaDoor.AM

/- The relax seat: the document's Relax. Conditions: none. -/
set_option linter.unusedVariables false
set_option linter.unusedSimpArgs false
set_option maxRecDepth 10000
namespace Go.Proofs.YtmekfllddifglaaDoor.AM
open Go
variable (G : Gl) (N : Nats) (k : Nat)
/-- A round, as the document tells it. -/
def roundR (all : List Sy) (at_ sz : List Int) : Nat → List It → List Int → Bool → Except Flt (List Int × Bool)
  | _, [], nx, ag => .ok (nx, ag)
  | i, x :: r, nx, ag => if x.grows then (match symF x.name all with
      | none => .error (x.line, x.col, 11)
      | some v => if reachesQ x (sz.getD i 0) (IntKind.wrap .i32 (IntKind.wrap .u32 (v - at_.getD i 0))) then roundR all at_ sz (i + 1) r nx ag
        else if (nextF (sz.getD i 0) (classesP x)).2 then roundR all at_ sz (i + 1) r (nx.set i (nextF (sz.getD i 0) (classesP x)).1) true
        else roundR all at_ sz (i + 1) r nx ag) else roundR all at_ sz (i + 1) r nx ag
def refP (l : List It) (sy : List Sy) (base : Int) : Nat → List Int → Nat → Option (Except Flt Lay)
  | 0, _, _ => none
  | m + 1, sz, n => match placeP base (saidP sz) 0 l base with
    | .error f => some (.error f)
    | .ok es => match labelsP (base :: es) sy 0 l [] with
      | .error f => some (.error f)
      | .ok labs => match roundR (sy ++ labs) (base :: es) sz 0 l sz false with
        | .error f => some (.error f)
        | .ok (nx, ag) => if ag then refP l sy base m nx (n + 1) else some (.ok ⟨nx, base :: es, labs, n + 1⟩)
def refA (r : Except Flt Lay) : AV := match r with
  | .ok y => .tup [layL false false y.labs.isEmpty y, fltA (0, 0, 0)]
  | .error f => .tup [.agg [.sl true [], .sl true [], .sl true [], .v (.int .i64 0)], fltA f]
def sz1 (x : It) : Int := if x.grows then (classesP x).headD 0 else 0
def zb50 : Sub := [([], (1, some (.box false [.v (.slice none 0 0), .v (.slice none 0 0), .v (.slice none 0 0), .v (.int .i64 0)])))]
def st15a (nl ns : Bool) (l : List It) (sy : List Sy) (base : Int) (q : List Int) : St :=
  ⟨[.sl nl (items l), .sl ns (syms sy), .v (.int .u32 base), .dead, .dead, .dead, .loc 6 [] 1 0, .loc 7 [] 1 0, .loc 8 [] 1 0, .v (.int .i64 q.length)] ++ List.replicate 152 .dead,
   List.replicate 6 [] ++ zb50 :: z52 :: [([], (1, some (.box false [.own 8 [0] 1 0 q.length, .v (.slice none 0 0), .v (.slice none 0 0), .v (.int .i64 0)]))), ([0], (1, some (.arr q.isEmpty false 1 3 (ints q))))] :: List.replicate 153 []⟩
def labA (n : Nat) (q : List Sy) : AV := match n with
  | 0 => .v (.slice none 0 0)
  | _ => .sl q.isEmpty (syms q)
@[simp] theorem ren_atA (φ : Ren) (n : Nat) (l : List Int) : ren φ (atA n l) = atA n l := by cases n <;> simp [atA]
@[simp] theorem ren_labA (φ : Ren) (n : Nat) (l : List Sy) : ren φ (labA n l) = labA n l := by cases n <;> simp [labA]
def st15b (nl ns nz : Bool) (l : List It) (sy : List Sy) (base : Int) (sz at_ : List Int) (labs : List Sy) (n : Nat) : St :=
  ⟨[.sl nl (items l), .sl ns (syms sy), .v (.int .u32 base), .dead, .dead, .dead, .loc 6 [] 1 0, .loc 7 [] 1 0, .loc 8 [] 1 0] ++ List.replicate 153 .dead,
   List.replicate 6 [] ++ zb50 :: z52 :: [([], (1, some (.box false [.own 8 [0] 1 0 sz.length, atA n at_, labA n labs, .v (.int .i64 n)]))), ([0], (1, some (.arr nz false 1 3 (ints sz))))] :: List.replicate 153 []⟩
def st15c (nl ns nz fz : Bool) (l : List It) (sy : List Sy) (base : Int) (sz at_ : List Int) (labs all : List Sy) (n : Nat) (nx : List Int) (ag : Bool) (i : Nat) : St :=
  ⟨[.sl nl (items l), .sl ns (syms sy), .v (.int .u32 base), .dead, .dead, .dead, .loc 6 [] 1 0, .loc 7 [] 1 0, .loc 8 [] 1 0, .dead, .dead, .sl false (words at_), .dead, .sl labs.isEmpty (syms labs), .dead, .own 15 [] 1 0 all.length, .v (.bool ag), .own 17 [] 1 0 nx.length, .v (.int .i64 i)] ++ List.replicate 143 .dead,
   List.replicate 6 [] ++ zb50 :: z52 :: [([], (1, some (.box false [.own 8 [0] 1 0 sz.length, .sl false (words at_), .sl labs.isEmpty (syms labs), .v (.int .i64 n)]))), ([0], (1, some (.arr nz true 1 3 (ints sz))))] :: List.replicate 6 [] ++ [([], (1, some (.arr false fz 3 72 (syms all))))] :: [] :: [([], (1, some (.arr false false 1 3 (ints nx))))] :: List.replicate 144 []⟩
set_option maxHeartbeats 16000000 in
theorem refRelax_rn (nl ns : Bool) (l : List It) (sy : List Sy) (base : Int) (hl : l.length < 1000000) (hs : sy.length < 1000000) (hok : ∀ x ∈ l, x.Ok) (hb0 : 0 ≤ base) (hb1 : base < 4294967296) (m : Nat) (hm4 : m ≤ 4000000) (res : Except Flt Lay) (hm : refP l sy base m (l.map sz1) 0 = some res) :
    rn (DR G N) (k + 16) 15 [.sl nl (items l), .sl ns (syms sy), .v (.int .u32 base)] [[], [], []] = some (refA res, [[], [], []]) := by
  rw [run15]
  simp -implicitDefEqProofs [Tryd.f15, endF, argsIn, subsIn, acode_loop]
  refine aloop_ind (Q := fun r => finF _ _ _ (thenA (blockA r 0) _) = _) (I := fun r st => ∃ p q, l = p ++ r ∧ q = p.map sz1 ∧ i15.hints.nm 0 st = some (st15a nl ns l sy base q)) ?_ ?_ l _ ⟨[], [], rfl, rfl, by simp -implicitDefEqProofs [NormD.run, norm, st15a, zb50, z52, List.lookup, coSs, coCs, coC, setEnt, Sub.put, ctr, sub, Sub.ent, live, ints]⟩
  · rintro st ⟨p, q, hp, hq, hst⟩ K
    rw [List.append_nil] at hp
    subst hp
    have hql : q.length = l.length := by simp [hq]
    rw [← hq] at hm
    rw [hst]
    simp -implicitDefEqProofs [st15a, zb50, z52, hql, acode_loop]
    refine aloop_nat (Q := fun r => finF _ _ _ (blockA r 2) = _) (I := fun m st => ∃ nz sz at_ labs n, sz.length = l.length ∧ refP l sy base m sz n = some res ∧ n + m ≤ 4000000 ∧ i15.hints.nm 2 st = some (st15b nl ns nz l sy base sz at_ labs n)) ?_ m _ ⟨q.isEmpty, q, [], [], 0, hql, hm, by omega, ?_⟩
    rotate_left
    · simp -implicitDefEqProofs [NormD.run, norm, st15b, zb50, z52, List.lookup, hql, atA, labA]
    rintro m st ⟨nz, sz, at_, labs0, n, hzl, hm, hn4, hst⟩ K hK
    have hp := placeR_rn G N (k + 13) nl nz l sz base hl (by omega) hok hb0 hb1
    have hw : IntKind.wrap .i64 ((n : Int) + 1) = (n : Int) + 1 := by have := wrap64 n (by omega); simpa using this
    cases m with
    | zero => simp [refP] at hm
    | succ m =>
    rw [hst]
    cases hP : placeP base (saidP sz) 0 l base with
    | error f =>
      have hc := placeP_code hP
      simp only [refP, hP, Option.some.injEq] at hm
      rw [hP, errR] at hp
      rw [← hm]
      simp -implicitDefEqProofs [st15b, zb50, z52, hc, endF, argsIn, subsIn, hp, hw, fltA, setAll, cellAV, drawD_cons, drawD_nil, Susp.at, Susp.keeps, List.lookup, FP.offB, fpC_store, cellsS, refA, layL, List.take_of_length_le]
    | ok es =>
      have hel := placeP_len hP
      rw [hP] at hp
      simp only [placeA] at hp
      have hlb := labelsR_rn G N (k + 13) nl false ns l (base :: es) sy hl (by simp; omega) hs
      cases hL : labelsP (base :: es) sy 0 l [] with
      | error f =>
        have hc := labelsP_code hL
        simp only [refP, hP, hL, Option.some.injEq] at hm
        rw [hL, show f = (f.1, f.2.1, f.2.2) from rfl, labelsR_err] at hlb
        rw [← hm]
        simp -implicitDefEqProofs [st15b, zb50, z52, hc, hlb, endF, argsIn, subsIn, hp, hw, fltA, setAll, cellAV, drawD_cons, drawD_nil, Susp.at, Susp.keeps, List.lookup, FP.offB, fpC_store, cellsS, refA, layL, List.take_of_length_le]
      | ok labs =>
        rw [hL, labelsR_ok] at hlb
        have hlb2 := labelsP_len hL
        simp at hlb2
        have b1 : sy.length * 33 ≤ 140737488355328 := by omega
        have b2 : (sy.length + labs.length) * 33 ≤ 140737488355328 := by omega
        have b3 : l.length * 9 ≤ 140737488355328 := by omega
        have hc1 := cells_syms sy
        have hc2 := cells_syms labs
        simp only [refP, hP, hL] at hm
        simp -implicitDefEqProofs [st15b, zb50, z52, hlb, b1, b2, b3, hzl, if_pos hc1, if_pos hc2, List.take_of_length_le, endF, argsIn, subsIn, hp, hw, fltA, setAll, cellAV, drawD_cons, drawD_nil, Susp.at, Susp.keeps, List.lookup, FP.offB, fpC_store, cellsS, acode_loop]
        refine aloop_ind (Q := fun r => finF _ _ _ (blockA (roundL (blockA (thenA (blockA r 4) _) 3) K) 2) = _) (I := fun r st => ∃ p nx ag fz, l = p ++ r ∧ nx.length = l.length ∧ roundR (sy ++ labs) (base :: es) sz p.length r nx ag = roundR (sy ++ labs) (base :: es) sz 0 l sz false ∧ i15.hints.nm 4 st = some (st15c nl ns nz fz l sy base sz (base :: es) labs (sy ++ labs) (n + 1) nx ag p.length)) ?_ ?_ l _ ⟨[], sz, false, false, rfl, hzl, rfl, by simp -implicitDefEqProofs [NormD.run, norm, st15c, zb50, z52, List.lookup, hzl, syms]⟩
        · rintro st ⟨p, nx, ag, fz, hp', hnl, hi, hst⟩ K'
          rw [List.append_nil] at hp'
          subst hp'
          simp only [roundR] at hi
          rw [← hi] at hm
          rw [hst]
          cases ag with
          | true =>
            simp only [if_true] at hm
            simp -implicitDefEqProofs [st15c, zb50, z52, endF, argsIn, subsIn, hw, fltA, setAll, cellAV, drawD_cons, drawD_nil, Susp.at, Susp.keeps, List.lookup, FP.offB, fpC_store, cellsS, List.take_of_length_le, hzl, hnl]
            refine hK m _ (Nat.lt_succ_self m) ⟨false, nx, base :: es, labs, n + 1, hnl, hm, by omega, ?_⟩
            simp -implicitDefEqProofs [NormD.run, norm, st15b, zb50, z52, List.lookup, hnl, atA, labA]
          | false =>
            simp only [Bool.false_eq_true, if_false, Option.some.injEq] at hm
            rw [← hm]
            simp -implicitDefEqProofs [st15c, zb50, z52, endF, argsIn, subsIn, hw, fltA, setAll, cellAV, drawD_cons, drawD_nil, Susp.at, Susp.keeps, List.lookup, FP.offB, fpC_store, cellsS, List.take_of_length_le, hzl, hnl, refA, layL]
        · rintro x r st ⟨p, nx, ag, fz, hp', hnl, hi, hst⟩ K' hK'
          have h1 : p.length < l.length := by rw [hp']; simp
          have h2 : l[p.length] = x := by simp [hp']
          have h3 := wrap64 p.length (by omega)
          have h4 : p.length < sz.length := by omega
          have h5 : p.length < nx.length := by omega
          have h6 : p.length < es.length + 1 := by omega
          have h7 : (p.length : Int) < (es.length : Int) + 1 := by omega
          have h8 : p.length < (base :: es).length := by simp; omega
          have h4' : p.length < (ints sz).length := by simpa using h4
          have hg := grows_rn G N (k + 14) x
          have ht := targetR_rn G N (k + 14) x false (sy ++ labs) (by simp; omega)
          have hk : List.take (sy.length + labs.length) (syms (sy ++ labs)) = syms (sy ++ labs) := List.take_of_length_le (by simp)
          rw [hst]
          cases c1 : x.grows with
          | false =>
            rw [c1] at hg
            simp only [roundR, c1, Bool.false_eq_true, if_false] at hi
            simp -implicitDefEqProofs [st15c, zb50, z52, endF, argsIn, subsIn, hw, fltA, setAll, cellAV, drawD_cons, drawD_nil, Susp.at, Susp.keeps, List.lookup, FP.offB, fpC_store, cellsS, List.take_of_length_le, h1, h2, h3, hg]
            refine hK' _ ⟨p ++ [x], nx, ag, fz, by simp [hp'], hnl, by rw [← hi]; simp, ?_⟩
            simp -implicitDefEqProofs [NormD.run, norm, st15c, zb50, z52, List.lookup, hzl]
          | true =>
            rw [c1] at hg
            simp only [roundR, c1, if_true] at hi
            cases hs1 : symF x.name (sy ++ labs) with
            | none =>
              rw [hs1] at ht
              have hf := at_rn G N (k + 14) x 11
              simp only [hs1] at hi
              rw [← hi] at hm
              simp only [Option.some.injEq] at hm
              rw [← hm]
              simp -implicitDefEqProofs [st15c, zb50, z52, endF, argsIn, subsIn, hw, fltA, setAll, cellAV, drawD_cons, drawD_nil, Susp.at, Susp.keeps, List.lookup, FP.offB, fpC_store, cellsS, List.take_of_length_le, h1, h2, h3, hg, hk, ht, hf, symA, refA, layL]
            | some v =>
              rw [hs1] at ht
              have e1 : sz.getD p.length 0 = sz[p.length] := by simp [h4]
              have e2 : (base :: es).getD p.length 0 = (base :: es)[p.length] := by rw [List.getD_eq_getElem?_getD, List.getElem?_eq_getElem h8]; rfl
              have hn := nextR_rn G N (k + 13) x sz[p.length]
              have hr := reachesR_rn G N (k + 13) x sz[p.length] (IntKind.wrap .i32 (IntKind.wrap .u32 (v - (base :: es)[p.length])))
              simp only [hs1, e1, e2] at hi
              cases c2 : reachesQ x sz[p.length] (IntKind.wrap .i32 (IntKind.wrap .u32 (v - (base :: es)[p.length]))) with
              | true =>
                rw [c2] at hr
                simp only [c2, if_true] at hi
                simp -implicitDefEqProofs [st15c, zb50, z52, endF, argsIn, subsIn, hw, fltA, setAll, cellAV, drawD_cons, drawD_nil, Susp.at, Susp.keeps, List.lookup, FP.offB, fpC_store, cellsS, List.take_of_length_le, h1, h2, h3, h4, h4', h6, h7, hzl, hg, hk, ht, hn, hr, symA]
                refine hK' _ ⟨p ++ [x], nx, ag, true, by simp [hp'], hnl, by rw [← hi]; simp, ?_⟩
                simp -implicitDefEqProofs [NormD.run, norm, st15c, zb50, z52, List.lookup, hzl]
              | false =>
                rw [c2] at hr
                cases c3 : (nextF sz[p.length] (classesP x)).2 with
                | true =>
                  rw [c3] at hn
                  simp only [c2, c3, Bool.false_eq_true, if_true, if_false] at hi
                  simp -implicitDefEqProofs [st15c, zb50, z52, endF, argsIn, subsIn, hw, fltA, setAll, cellAV, drawD_cons, drawD_nil, Susp.at, Susp.keeps, List.lookup, FP.offB, fpC_store, cellsS, List.take_of_length_le, h1, h2, h3, h4, h4', h5, h6, h7, hzl, hg, hk, ht, hn, hr, symA, setEl]
                  refine hK' _ ⟨p ++ [x], nx.set p.length (nextF sz[p.length] (classesP x)).1, true, true, by simp [hp'], by simpa using hnl, by rw [← hi]; simp, ?_⟩
                  simp -implicitDefEqProofs [NormD.run, norm, st15c, zb50, z52, List.lookup, hzl, ints, List.map_set]
                | false =>
                  rw [c3] at hn
                  simp only [c2, c3, Bool.false_eq_true, if_true, if_false] at hi
                  simp -implicitDefEqProofs [st15c, zb50, z52, endF, argsIn, subsIn, hw, fltA, setAll, cellAV, drawD_cons, drawD_nil, Susp.at, Susp.keeps, List.lookup, FP.offB, fpC_store, cellsS, List.take_of_length_le, h1, h2, h3, h4, h4', h6, h7, hzl, hg, hk, ht, hn, hr, symA]
                  refine hK' _ ⟨p ++ [x], nx, ag, true, by simp [hp'], hnl, by rw [← hi]; simp, ?_⟩
                  simp -implicitDefEqProofs [NormD.run, norm, st15c, zb50, z52, List.lookup, hzl]
  · rintro x r st ⟨p, q, hp, hq, hst⟩ K hK
    have h1 : p.length < l.length := by rw [hp]; simp
    have h2 : l[p.length] = x := by simp [hp]
    have h3 := wrap64 p.length (by omega)
    have hql : q.length = p.length := by simp [hq]
    have hg := grows_rn G N (k + 14) x
    have hc := classesR_rn G N (k + 14) x
    have hb : (p.length + 1) * 9 ≤ 140737488355328 := by omega
    rw [hst]
    cases c1 : x.grows with
    | false =>
      have e1 : sz1 x = 0 := by simp [sz1, c1]
      rw [c1] at hg
      simp -implicitDefEqProofs [st15a, zb50, z52, hql, h1, h2, h3, hg, hb, argsIn, subsIn, setAll, cellAV, List.take_of_length_le]
      refine hK _ ⟨p ++ [x], q ++ [0], by simp [hp], by simp [hq, e1], ?_⟩
      simp -implicitDefEqProofs [NormD.run, norm, st15a, zb50, z52, List.lookup, coSs, coCs, coC, live, ctr, sub, Sub.ent, setEnt, Sub.put, hql, ints]
    | true =>
      obtain ⟨a, t, hat⟩ : ∃ a t, classesP x = a :: t := by
        cases h : classesP x with
        | nil => exact (classes_ne x h).elim
        | cons a t => exact ⟨a, t, rfl⟩
      have e1 : sz1 x = a := by simp [sz1, c1, hat]
      rw [c1] at hg
      simp only [hat, ints, List.map_cons] at hc
      simp -implicitDefEqProofs [st15a, zb50, z52, hql, h1, h2, h3, hg, hc, hb, argsIn, subsIn, setAll, cellAV, List.take_of_length_le]
      refine hK _ ⟨p ++ [x], q ++ [a], by simp [hp], by simp [hq, e1], ?_⟩
      simp -implicitDefEqProofs [NormD.run, norm, st15a, zb50, z52, List.lookup, coSs, coCs, coC, live, ctr, sub, Sub.ent, setEnt, Sub.put, hql, ints]
end Go.Proofs.YtmekfllddifglaaDoor.AM

/- The relax seat, in plain Lean: the program's spans and places are the document's. Conditions: none. -/
set_option linter.unusedVariables false
set_option linter.unusedSimpArgs false
namespace Go.Proofs.YtmekfllddifglaaDoor.AM
open Go
/-- The lists of classes that there are. -/
theorem classes_cases (x : It) (h : x.grows = true) : classesP x = [2, 4, 8] ∨ classesP x = [4, 8] ∨ classesP x = [4] ∨ classesP x = [2, 4] ∨ classesP x = [8] := by
  have hk : x.kind = 4 ∨ x.kind = 5 ∨ x.kind = 6 := by simpa [It.grows, or_assoc] using h
  simp only [classesP, if_pos hk, grownP]
  repeat' split
  all_goals simp
theorem next_eq (x : It) (h : x.grows = true) (s : Int) : nextP x s = nextF s (classesP x) := by
  unfold nextP
  rcases classes_cases x h with e | e | e | e | e <;> rw [e] <;> simp only [leastF, nextF]
  all_goals
    by_cases h2 : s < 2 <;> by_cases h4 : s < 4 <;> by_cases h8 : s < 8 <;> simp [h2, h4, h8] <;> omega
theorem has_eq (s : Int) : ∀ (l : List Int) (i : Nat), decide (0 ≤ idxF s l i) = hasF s l
  | [], i => by simp [idxF, hasF]
  | c :: l, i => by
    simp only [idxF, hasF]
    by_cases hc : c = s
    · simp [hc]
    · have := has_eq s l (i + 1)
      simp only [hc, decide_false, Bool.false_or]
      rw [← this]
      simp [Ne.symm hc, hc]
theorem wrapI32_of {x : Int} (h0 : -2147483648 ≤ x) (h1 : x < 2147483648) : IntKind.wrap .i32 x = x := by
  simp [IntKind.wrap, IntKind.bits, IntKind.signed]; omega
theorem fit9 (x : Int) (h0 : -2147483648 ≤ x) (h1 : x < 2147483648) : fitP x 9 = halfP x 256 := by
  unfold fitP halfP signP
  rw [← Bool.decide_and, decide_eq_decide, Int.fdiv_eq_ediv_of_nonneg _ (by decide)]
  simp [IntKind.wrap, IntKind.bits, IntKind.signed]
  omega
theorem fit12 (x : Int) (h0 : -2147483648 ≤ x) (h1 : x < 2147483648) : fitP x 12 = halfP x 2048 := by
  unfold fitP halfP signP
  rw [← Bool.decide_and, decide_eq_decide, Int.fdiv_eq_ediv_of_nonneg _ (by decide)]
  simp [IntKind.wrap, IntKind.bits, IntKind.signed]
  omega
theorem fit13 (x : Int) (h0 : -2147483648 ≤ x) (h1 : x < 2147483648) : fitP x 13 = halfP x 4096 := by
  unfold fitP halfP signP
  rw [← Bool.decide_and, decide_eq_decide, Int.fdiv_eq_ediv_of_nonneg _ (by decide)]
  simp [IntKind.wrap, IntKind.bits, IntKind.signed]
  omega
theorem fit21 (x : Int) (h0 : -2147483648 ≤ x) (h1 : x < 2147483648) : fitP x 21 = halfP x 1048576 := by
  unfold fitP halfP signP
  rw [← Bool.decide_and, decide_eq_decide, Int.fdiv_eq_ediv_of_nonneg _ (by decide)]
  simp [IntKind.wrap, IntKind.bits, IntKind.signed]
  omega
theorem i32_range (y : Int) : -2147483648 ≤ IntKind.wrap .i32 y ∧ IntKind.wrap .i32 y < 2147483648 := by
  simp [IntKind.wrap, IntKind.bits, IntKind.signed]
  split <;> omega
theorem reach_eq (x : It) (h : x.grows = true) (s far : Int) (h0 : -2147483648 ≤ far) (h1 : far < 2147483648) : reachesP x s far = reachesQ x s far := by
  have hk : x.kind = 4 ∨ x.kind = 5 ∨ x.kind = 6 := by simpa [It.grows, or_assoc] using h
  have hh := has_eq s (classesP x) 0
  have hev : far.tmod 2 = 0 ↔ ¬ (IntKind.wrap .u32 far).tmod 2 = 1 := by
    have e1 : IntKind.wrap .u32 far = far % 4294967296 := by simp [IntKind.wrap, IntKind.bits, IntKind.signed]
    rw [e1, Int.tmod_eq_emod_of_nonneg (a := far % 4294967296) (by omega), ← Int.dvd_iff_tmod_eq_zero]
    omega
  have w1 : IntKind.wrap .i64 far = far := wrapI64 (by omega) (by omega)
  have w2 : IntKind.wrap .i64 (far - 4) = far - 4 := wrapI64 (by omega) (by omega)
  unfold reachesP reachesQ
  simp only [h, if_true, w1, w2]
  rw [← hh]
  by_cases e : far.tmod 2 = 0
  · have e' := hev.1 e
    by_cases hi : 0 ≤ idxF s (classesP x) 0
    · have k1 : ¬ x.kind < 4 := by omega
      have k2 : ¬ 6 < x.kind := by omega
      simp only [e, e', hi, k1, k2, if_true, if_false, decide_true]
      by_cases k4 : x.kind = 4
      · simp only [k4, if_true]
        by_cases s2 : s = 2
        · simp only [s2, if_true]; exact fit9 far h0 h1
        · by_cases s4 : s = 4
          · simp only [s4, if_true]; simp; exact fit13 far h0 h1
          · simp only [s2, s4, if_false]
            have hr := i32_range (far - 4)
            rw [fit21 _ hr.1 hr.2]
            unfold halfP
            rw [← Bool.decide_and, ← Bool.decide_and, decide_eq_decide]
            simp [IntKind.wrap, IntKind.bits, IntKind.signed]
            omega
      · simp only [k4, if_false]
        by_cases s2 : s = 2
        · simp only [s2, if_true]; exact fit12 far h0 h1
        · simp only [s2, if_false]
          by_cases s4 : s = 4
          · simp only [s4, if_true]; simp; exact fit21 far h0 h1
          · simp only [s4, if_false]
            have : s = 8 := by
              have hm : hasF s (classesP x) = true := by rw [← hh]; simpa using hi
              rcases classes_cases x h with c | c | c | c | c <;> rw [c] at hm <;> simp [hasF] at hm <;> omega
            simp [this]
    · simp [hi]
  · have e' : (IntKind.wrap .u32 far).tmod 2 = 1 := by by_cases q : (IntKind.wrap .u32 far).tmod 2 = 1; exact q; exact absurd (hev.2 q) e
    have k1 : ¬ x.kind < 4 := by omega
    have k2 : ¬ 6 < x.kind := by omega
    simp [e, e', k1, k2]
end Go.Proofs.YtmekfllddifglaaDoor.AM
