/- The relax seat: Rp, Rq, Rs, Ta, No, Np, Rt. Conditions: none. -/
import Derived.Test.YtmekfllddifglaaDoorP13
import Derived.Test.YtmekfllddifglaaDoorRows
import Derived.Deep.Slices
import Derived.ChangeArms
import Derived.Test.YtmekfllddifglaaDoorP10
import Derived.Laws.Strings
set_option linter.unusedVariables false
set_option linter.unusedSimpArgs false
/- The relax seat: lists held against each other; what is light. Conditions: none. -/
set_option linter.unusedVariables false
set_option linter.unusedSimpArgs false
set_option maxRecDepth 10000
namespace Go.Proofs.YtmekfllddifglaaDoor.AM
open Go
variable (G : Gl) (N : Nats) (k : Nat)
def st31 (na nb : Bool) (a b : List AV) (n i : Nat) : St := ⟨[.sl na a, .sl nb b, .dead, .dead, .dead, .v (.int .i64 i)] ++ List.replicate n .dead, List.replicate (n + 6) []⟩
theorem ints_rn (na nb : Bool) (a b : List Int) (ha : a.length < 1000000) : rn (DR G N) (k + 1) 31 [.sl na (ints a), .sl nb (ints b)] [[], []] = some (.v (.bool (decide (a = b))), [[], []]) := by
  rw [run31]
  by_cases hl : a.length = b.length
  · simp -implicitDefEqProofs [Tryd.f31, endF, argsIn, subsIn, acode_loop, hl]
    refine aloop_ind (Q := fun r => finF _ _ _ (thenA (blockA r 0) _) = _) (I := fun r st => ∃ p r', a = p ++ r ∧ b = p ++ r' ∧ i31.hints.nm 0 st = some (st31 na nb (ints a) (ints b) 20 p.length)) ?_ ?_ a _ ⟨[], b, rfl, rfl, by simp -implicitDefEqProofs [NormD.run, norm, st31, List.lookup]⟩
    · rintro st ⟨p, r', hp, hq, hst⟩ K
      have hr : r' = [] := by
        rw [hp, hq] at hl; simp at hl; exact hl
      subst hr
      have e : a = b := by rw [hp, hq]
      subst e
      rw [List.append_nil] at hp
      subst hp
      rw [hst]
      simp -implicitDefEqProofs [st31, endF]
    · rintro x r st ⟨p, r', hp, hq, hst⟩ K hK
      cases r' with
      | nil => rw [hp, hq] at hl; simp at hl
      | cons y r' =>
        have h1 : p.length < a.length := by rw [hp]; simp
        have h1' : p.length < b.length := by rw [hq]; simp
        have h2 : a[p.length] = x := by simp [hp]
        have h2' : b[p.length] = y := by simp [hq]
        have h3 := wrap64 p.length (by omega)
        rw [hst]
        by_cases c : x = y
        · simp -implicitDefEqProofs [st31, drawD_nil, h1, h1', h2, h2', h3, c]
          refine hK _ ⟨p ++ [x], r', by simp [hp], by simp [hq, c], ?_⟩
          simp -implicitDefEqProofs [NormD.run, norm, st31, List.lookup]
        · have hne : ¬ a = b := by
            intro e
            rw [hp, hq] at e
            have := List.append_cancel_left e
            simp only [List.cons.injEq] at this
            exact c this.1
          simp -implicitDefEqProofs [st31, drawD_nil, h1, h1', h2, h2', h3, c, hne, endF]
  · have hne : ¬ a = b := fun e => hl (by rw [e])
    have hl' : ¬ ((a.length : Int) = (b.length : Int)) := by omega
    simp -implicitDefEqProofs [Tryd.f31, endF, hl, hl', hne]
theorem words_rn (na nb : Bool) (a b : List Int) (ha : a.length < 1000000) : rn (DR G N) (k + 1) 32 [.sl na (words a), .sl nb (words b)] [[], []] = some (.v (.bool (decide (a = b))), [[], []]) := by
  rw [run32]
  by_cases hl : a.length = b.length
  · simp -implicitDefEqProofs [Tryd.f32, endF, argsIn, subsIn, acode_loop, hl]
    refine aloop_ind (Q := fun r => finF _ _ _ (thenA (blockA r 0) _) = _) (I := fun r st => ∃ p r', a = p ++ r ∧ b = p ++ r' ∧ i32.hints.nm 0 st = some (st31 na nb (words a) (words b) 20 p.length)) ?_ ?_ a _ ⟨[], b, rfl, rfl, by simp -implicitDefEqProofs [NormD.run, norm, st31, List.lookup]⟩
    · rintro st ⟨p, r', hp, hq, hst⟩ K
      have hr : r' = [] := by
        rw [hp, hq] at hl; simp at hl; exact hl
      subst hr
      have e : a = b := by rw [hp, hq]
      subst e
      rw [List.append_nil] at hp
      subst hp
      rw [hst]
      simp -implicitDefEqProofs [st31, endF]
    · rintro x r st ⟨p, r', hp, hq, hst⟩ K hK
      cases r' with
      | nil => rw [hp, hq] at hl; simp at hl
      | cons y r' =>
        have h1 : p.length < a.length := by rw [hp]; simp
        have h1' : p.length < b.length := by rw [hq]; simp
        have h2 : a[p.length] = x := by simp [hp]
        have h2' : b[p.length] = y := by simp [hq]
        have h3 := wrap64 p.length (by omega)
        rw [hst]
        by_cases c : x = y
        · simp -implicitDefEqProofs [st31, drawD_nil, h1, h1', h2, h2', h3, c]
          refine hK _ ⟨p ++ [x], r', by simp [hp], by simp [hq, c], ?_⟩
          simp -implicitDefEqProofs [NormD.run, norm, st31, List.lookup]
        · have hne : ¬ a = b := by
            intro e
            rw [hp, hq] at e
            have := List.append_cancel_left e
            simp only [List.cons.injEq] at this
            exact c this.1
          simp -implicitDefEqProofs [st31, drawD_nil, h1, h1', h2, h2', h3, c, hne, endF]
  · have hne : ¬ a = b := fun e => hl (by rw [e])
    have hl' : ¬ ((a.length : Int) = (b.length : Int)) := by omega
    simp -implicitDefEqProofs [Tryd.f32, endF, hl, hl', hne]
/-- The same symbols, in the program's words and in the document's. -/
def symE (s t : Sy) : Bool := if sameN s.name t.name then (if s.val = t.val then (decide (s.cls = 0) == decide (t.cls = 0)) else false) else false
def symsE : List Sy → List Sy → Bool
  | [], [] => true
  | s :: a, t :: b => symE s t && symsE a b
  | _, _ => false
theorem symsE_len : ∀ (a b : List Sy), symsE a b = true → a.length = b.length
  | [], [], _ => rfl
  | s :: a, t :: b, h => by
    simp only [symsE, Bool.and_eq_true] at h
    simp [symsE_len a b h.2]
  | [], _ :: _, h => by simp [symsE] at h
  | _ :: _, [], h => by simp [symsE] at h
set_option maxHeartbeats 2000000 in
theorem symsE_rn (na nb : Bool) (a b : List Sy) (ha : a.length < 1000000) : rn (DR G N) (k + 1) 33 [.sl na (syms a), .sl nb (syms b)] [[], []] = some (.v (.bool (symsE a b)), [[], []]) := by
  rw [run33]
  by_cases hl : a.length = b.length
  · simp -implicitDefEqProofs [Tryd.f33, endF, argsIn, subsIn, acode_loop, hl]
    refine aloop_ind (Q := fun r => finF _ _ _ (thenA (blockA r 0) _) = _) (I := fun r st => ∃ p q r', a = p ++ r ∧ b = q ++ r' ∧ p.length = q.length ∧ symsE r r' = symsE a b ∧ i33.hints.nm 0 st = some (st31 na nb (syms a) (syms b) 50 p.length)) ?_ ?_ a _ ⟨[], [], b, rfl, rfl, rfl, rfl, by simp -implicitDefEqProofs [NormD.run, norm, st31, List.lookup]⟩
    · rintro st ⟨p, q, r', hp, hq, hpq, he, hst⟩ K
      have hr : r' = [] := by
        rw [hp, hq] at hl; simp [hpq] at hl; exact hl
      subst hr
      rw [List.append_nil] at hp
      subst hp
      rw [hst, ← he]
      simp -implicitDefEqProofs [st31, endF, symsE]
    · rintro x r st ⟨p, q, r', hp, hq, hpq, he, hst⟩ K hK
      cases r' with
      | nil => rw [hp, hq] at hl; simp [hpq] at hl
      | cons y r' =>
        have h1 : p.length < a.length := by rw [hp]; simp
        have h1' : p.length < b.length := by rw [hq, hpq]; simp
        have h2 : a[p.length] = x := by simp [hp]
        have h2' : b[p.length] = y := by simp [hq, hpq]
        have h3 := wrap64 p.length (by omega)
        rw [hst]
        simp only [symsE] at he
        by_cases c1 : (x.name.toList == y.name.toList) = true
        · by_cases c2 : x.val = y.val
          · by_cases c3 : x.cls = 0 <;> by_cases c4 : y.cls = 0
            · simp -implicitDefEqProofs [st31, drawD_nil, h1, h1', h2, h2', h3, c1, c2, c3, c4]
              refine hK _ ⟨p ++ [x], q ++ [y], r', by simp [hp], by simp [hq], by simp [hpq], by rw [← he]; simp [symE, sameN, c1, c2, c3, c4], ?_⟩
              simp -implicitDefEqProofs [NormD.run, norm, st31, List.lookup]
            · simp -implicitDefEqProofs [st31, drawD_nil, h1, h1', h2, h2', h3, c1, c2, c3, c4, endF, ← he, symE, sameN]
            · simp -implicitDefEqProofs [st31, drawD_nil, h1, h1', h2, h2', h3, c1, c2, c3, c4, endF, ← he, symE, sameN]
            · simp -implicitDefEqProofs [st31, drawD_nil, h1, h1', h2, h2', h3, c1, c2, c3, c4]
              refine hK _ ⟨p ++ [x], q ++ [y], r', by simp [hp], by simp [hq], by simp [hpq], by rw [← he]; simp [symE, sameN, c1, c2, c3, c4], ?_⟩
              simp -implicitDefEqProofs [NormD.run, norm, st31, List.lookup]
          · simp -implicitDefEqProofs [st31, drawD_nil, h1, h1', h2, h2', h3, c1, c2, endF, ← he, symE, sameN]
        · simp only [Bool.not_eq_true] at c1
          simp -implicitDefEqProofs [st31, drawD_nil, h1, h1', h2, h2', h3, c1, endF, ← he, symE, sameN]
  · have hne : symsE a b = false := by
      cases h : symsE a b with
      | false => rfl
      | true => exact (hl (symsE_len a b h)).elim
    have hl' : ¬ ((a.length : Int) = (b.length : Int)) := by omega
    simp -implicitDefEqProofs [Tryd.f33, endF, hl, hl', hne]
end Go.Proofs.YtmekfllddifglaaDoor.AM

/- The relax seat: what is light; zeros; least. Conditions: none. -/
set_option linter.unusedVariables false
set_option linter.unusedSimpArgs false
set_option maxRecDepth 10000
namespace Go.Proofs.YtmekfllddifglaaDoor.AM
open Go
variable (G : Gl) (N : Nats) (k : Nat)
def zeroS (n : Nat) : ByteArray := strOf (List.replicate n 0)
theorem bytesA_zeros : ∀ n : Nat, bytesA (List.replicate n (.v (.int .u8 0))) = some (List.replicate n 0)
  | 0 => rfl
  | n + 1 => by simp [List.replicate_succ, bytesA, bytesA_zeros n]
theorem zeros_rn (n : Nat) (hn : n < 1000000) : rn (DR G N) (k + 1) 14 [.v (.int .i64 n)] [[]] = some (.v (.string (zeroS n)), [[]]) := by
  rw [run14]
  have h : n * 2 ≤ 140737488355328 := by omega
  simp -implicitDefEqProofs [Tryd.f14, endF, h, bytesA_zeros, zeroS, List.take_of_length_le]
def lightL : Int → List It → Bool
  | n, [] => decide (n ≤ 300)
  | n, x :: r => if n ≤ 300 then lightL (n + x.nodes.length + (x.name.size / 1000 : Nat)) r else false
def st20 (nl : Bool) (l : List It) (n : Int) (i : Nat) : St := ⟨[.sl nl (items l), .dead, .dead, .v (.int .i64 n), .v (.int .i64 i)] ++ List.replicate 30 .dead, List.replicate 35 []⟩
def Small (l : List It) : Prop := l.length < 1000000 ∧ ∀ x ∈ l, x.nodes.length < 2000000 ∧ x.name.size < 2000000
theorem wrap_small {x : Int} (h0 : 0 ≤ x) (h1 : x < 9000000000000000000) : IntKind.wrap .i64 x = x := by
  simp [IntKind.wrap, IntKind.bits, IntKind.signed]; omega
theorem lightL_rn (nl : Bool) (l : List It) (hs : Small l) : rn (DR G N) (k + 1) 20 [.sl nl (items l)] [[]] = some (.v (.bool (lightL l.length l)), [[]]) := by
  rw [run20]
  have hl := hs.1
  simp -implicitDefEqProofs [Tryd.f20, endF, argsIn, subsIn, acode_loop]
  refine aloop_ind (Q := fun r => finF _ _ _ (thenA (blockA r 0) _) = _) (I := fun r st => ∃ p n, l = p ++ r ∧ 0 ≤ n ∧ n < 5000000 ∧ lightL n r = lightL l.length l ∧ i20.hints.nm 0 st = some (st20 nl l n p.length)) ?_ ?_ l _ ⟨[], l.length, rfl, by omega, by omega, rfl, by simp -implicitDefEqProofs [NormD.run, norm, st20, List.lookup]⟩
  · rintro st ⟨p, n, hp, hn0, hn1, hi, hst⟩ K
    rw [List.append_nil] at hp
    subst hp
    rw [hst, ← hi]
    simp -implicitDefEqProofs [st20, endF, lightL]
  · rintro x r st ⟨p, n, hp, hn0, hn1, hi, hst⟩ K hK
    have h1 : p.length < l.length := by rw [hp]; simp
    have h2 : l[p.length] = x := by simp [hp]
    have h3 := wrap64 p.length (by omega)
    have hx := hs.2 x (by rw [hp]; simp)
    rw [hst]
    by_cases c : n ≤ 300
    · have e1 : IntKind.wrap .i64 (n + (x.nodes.length : Int)) = n + x.nodes.length := wrap_small (by omega) (by omega)
      have e2 : (x.name.size : Int).tdiv 1000 = ((x.name.size / 1000 : Nat) : Int) := by rw [Int.tdiv_eq_ediv_of_nonneg (by omega)]; omega
      have e3 : IntKind.wrap .i64 ((x.name.size / 1000 : Nat) : Int) = ((x.name.size / 1000 : Nat) : Int) := wrap_small (by omega) (by omega)
      have e4 : IntKind.wrap .i64 (n + x.nodes.length + ((x.name.size / 1000 : Nat) : Int)) = n + x.nodes.length + ((x.name.size / 1000 : Nat) : Int) := wrap_small (by omega) (by omega)
      simp -implicitDefEqProofs [-Int.natCast_ediv, st20, drawD_nil, h1, h2, h3, c, e1, e2, e3, e4]
      refine hK _ ⟨p ++ [x], n + x.nodes.length + ((x.name.size / 1000 : Nat) : Int), by simp [hp], by omega, by omega, by rw [← hi]; simp [lightL, c], ?_⟩
      simp -implicitDefEqProofs [-Int.natCast_ediv, NormD.run, norm, st20, List.lookup]
    · simp -implicitDefEqProofs [st20, h1, h2, h3, c, endF, ← hi, lightL]
def lightP (l : List It) (s : List Sy) : Bool := lightL l.length l && decide (l.length ≤ 60) && decide (s.length ≤ 60)
theorem light_rn (nl ns : Bool) (l : List It) (s : List Sy) (hs : Small l) : rn (DR G N) (k + 2) 8 [.sl nl (items l), .sl ns (syms s)] [[], []] = some (.v (.bool (lightP l s)), [[], []]) := by
  rw [run8]
  have h := lightL_rn G N k nl l hs
  cases c : lightL l.length l with
  | false =>
    rw [c] at h
    simp -implicitDefEqProofs [Tryd.f8, endF, argsIn, subsIn, h, lightP, c]
  | true =>
    rw [c] at h
    by_cases c1 : l.length ≤ 60
    · simp -implicitDefEqProofs [Tryd.f8, endF, argsIn, subsIn, h, lightP, c, c1, show ((l.length : Int) ≤ 60) from by omega]
      omega
    · simp -implicitDefEqProofs [Tryd.f8, endF, argsIn, subsIn, h, lightP, c, c1, show ¬ ((l.length : Int) ≤ 60) from by omega]
def leastP : List Int → List Int → Bool
  | [], _ => true
  | _ :: _, [] => false
  | x :: a, y :: b => if y < x then false else leastP a b
theorem leastP_rn (na nb : Bool) (a b : List Int) (ha : a.length < 1000000) : rn (DR G N) (k + 1) 13 [.sl na (ints a), .sl nb (ints b)] [[], []] = some (.v (.bool (leastP a b)), [[], []]) := by
  rw [run13]
  simp -implicitDefEqProofs [Tryd.f13, endF, argsIn, subsIn, acode_loop]
  refine aloop_ind (Q := fun r => finF _ _ _ (thenA (blockA r 0) _) = _) (I := fun r st => ∃ p q r', a = p ++ r ∧ b = q ++ r' ∧ p.length = q.length ∧ leastP r r' = leastP a b ∧ i13.hints.nm 0 st = some (st31 na nb (ints a) (ints b) 21 p.length)) ?_ ?_ a _ ⟨[], [], b, rfl, rfl, rfl, rfl, by simp -implicitDefEqProofs [NormD.run, norm, st31, List.lookup]⟩
  · rintro st ⟨p, q, r', hp, hq, hpq, he, hst⟩ K
    rw [List.append_nil] at hp
    subst hp
    rw [hst, ← he]
    simp -implicitDefEqProofs [st31, endF, leastP]
  · rintro x r st ⟨p, q, r', hp, hq, hpq, he, hst⟩ K hK
    have h1 : p.length < a.length := by rw [hp]; simp
    have h2 : a[p.length] = x := by simp [hp]
    have h3 := wrap64 p.length (by omega)
    rw [hst]
    cases r' with
    | nil =>
      have h1' : ¬ p.length < b.length := by rw [hq, hpq]; simp
      have h1'' : b.length ≤ p.length := by omega
      simp -implicitDefEqProofs [st31, drawD_nil, h1, h1', h1'', h2, h3, endF, ← he, leastP]
    | cons y r' =>
      have h1' : p.length < b.length := by rw [hq, hpq]; simp
      have h1'' : ¬ b.length ≤ p.length := by omega
      have h2' : b[p.length] = y := by simp [hq, hpq]
      simp only [leastP] at he
      by_cases c1 : y < x
      · simp -implicitDefEqProofs [st31, drawD_nil, h1, h1', h1'', h2, h2', h3, c1, endF, ← he]
      · simp -implicitDefEqProofs [st31, drawD_nil, h1, h1', h1'', h2, h2', h3, c1]
        refine hK _ ⟨p ++ [x], q ++ [y], r', by simp [hp], by simp [hq], by simp [hpq], by rw [← he]; simp [c1], ?_⟩
        simp -implicitDefEqProofs [NormD.run, norm, st31, List.lookup]
end Go.Proofs.YtmekfllddifglaaDoor.AM

/- The relax seat: where items lie, plainly told. Conditions: none. -/
set_option linter.unusedVariables false
set_option linter.unusedSimpArgs false
set_option maxRecDepth 10000
namespace Go.Proofs.YtmekfllddifglaaDoor.AM
open Go
/-- An item whose numbers are what its types say. -/
def It.Ok (x : It) : Prop := (0 ≤ x.num ∧ x.num < 4294967296) ∧ x.name.size < 2000000 ∧ x.nodes.length < 2000000
/-- How many bytes an item has. -/
def lenP (x : It) (said at_ base : Int) : Option Int :=
  if x.kind = 4 then some said else if x.kind = 5 then some said else if x.kind = 6 then some said
  else if x.kind = 10 then (if 0 < x.num then some ((x.num - at_.tmod x.num).tmod x.num) else some 0)
  else if x.kind = 11 then (if base + x.num - at_ < 0 then none else some (base + x.num - at_))
  else some ((classesP x).headD 0)
/-- Where the next one lies; or a code. -/
def stepP (x : It) (said at_ base : Int) : Except Int Int :=
  if 2 ≤ x.kind ∧ x.kind ≤ 7 ∧ at_ % 2 = 1 then .error 16
  else match lenP x said at_ base with
    | none => .error 12
    | some n => if 65536 < at_ + n - base then .error 12 else if 4294967296 ≤ at_ + n then .error 12 else .ok (at_ + n)
abbrev Flt := Int × Int × Int
def placeP (base : Int) (sz : Nat → Int) : Nat → List It → Int → Except Flt (List Int)
  | _, [], _ => .ok []
  | i, x :: r, at_ => match stepP x (sz i) at_ base with
    | .error c => .error (x.line, x.col, c)
    | .ok e => (placeP base sz (i + 1) r e).map (e :: ·)
theorem placeP_err {base : Int} {sz : Nat → Int} {i : Nat} {x : It} {r : List It} {at_ c : Int} (h : stepP x (sz i) at_ base = .error c) : placeP base sz i (x :: r) at_ = .error (x.line, x.col, c) := by simp only [placeP, h]
theorem placeP_ok {base : Int} {sz : Nat → Int} {i : Nat} {x : It} {r : List It} {at_ e : Int} (h : stepP x (sz i) at_ base = .ok e) : placeP base sz i (x :: r) at_ = (placeP base sz (i + 1) r e).map (e :: ·) := by simp only [placeP, h]
def fltA (f : Flt) : AV := .agg [.v (.int .i64 f.1), .v (.int .i64 f.2.1), .v (.int .i64 f.2.2)]
/-- The document's answer. -/
def placeA (base : Int) (r : Except Flt (List Int)) : AV := match r with
  | .ok l => .tup [.sl false (words (base :: l)), fltA (0, 0, 0)]
  | .error f => .tup [.sl true [], fltA f]
@[simp] theorem map_err {α β : Type} (f : Flt) (g : α → β) : Except.map g (Except.error f : Except Flt α) = .error f := rfl
@[simp] theorem map_ok {α β : Type} (a : α) (g : α → β) : Except.map g (Except.ok a : Except Flt α) = .ok (g a) := rfl
@[simp] theorem map_map {α β γ : Type} (x : Except Flt α) (f : α → β) (g : β → γ) : Except.map g (Except.map f x) = Except.map (fun a => g (f a)) x := by cases x <;> rfl
@[simp] theorem map_nil_append (x : Except Flt (List Int)) : Except.map (fun es => [] ++ es) x = x := by cases x <;> rfl
@[simp] theorem map_id' (x : Except Flt (List Int)) : Except.map (fun es => es) x = x := by cases x <;> rfl
theorem errR (base : Int) (f : Flt) : placeA base (.error f) = .tup [.sl true [], fltA f] := rfl
theorem words_snoc (l : List Int) (a : Int) : words (l ++ [a]) = words l ++ [.v (.int .u32 a)] := by simp [words]
theorem saidP_pos (l : List Int) (i : Nat) : 0 ≤ saidP l i := by
  unfold saidP; split
  · split
    · omega
    · split <;> omega
  · omega
theorem saidP_le (l : List Int) (i : Nat) : saidP l i ≤ 8 := by
  unfold saidP; split
  · split
    · omega
    · split <;> omega
  · omega
theorem odd_of {a : Int} (h : a.tmod 2 = 1) (h0 : 0 ≤ a) : a % 2 = 1 := by rw [Int.tmod_eq_emod_of_nonneg h0] at h; exact h
theorem even_of {a : Int} (h : ¬ a.tmod 2 = 1) (h0 : 0 ≤ a) : ¬ a % 2 = 1 := by rw [Int.tmod_eq_emod_of_nonneg h0] at h; exact h
theorem wrapU32 {x : Int} (h0 : 0 ≤ x) (h1 : x < 4294967296) : IntKind.wrap .u32 x = x := by
  simp [IntKind.wrap, IntKind.bits, IntKind.signed]; omega
theorem wrapI64 {x : Int} (h0 : -9000000000000000000 < x) (h1 : x < 9000000000000000000) : IntKind.wrap .i64 x = x := by
  simp [IntKind.wrap, IntKind.bits, IntKind.signed]; omega
theorem classes_pos (x : It) : 0 ≤ (classesP x).headD 0 := by
  unfold classesP grownP
  repeat' split
  all_goals simp
theorem classes_small (x : It) (h : x.name.size < 2000000) : (classesP x).headD 0 < 2000000 := by
  unfold classesP grownP
  repeat' split
  all_goals simp
  all_goals omega
end Go.Proofs.YtmekfllddifglaaDoor.AM

/- The relax seat: what comes in, read for the abstract machine. Conditions: none. -/
set_option linter.unusedVariables false
set_option linter.unusedSimpArgs false
namespace Go.Proofs.YtmekfllddifglaaDoor.AM
open Go Go.ChangeShapes Go.Deep
theorem bulk_one {H : Type} (d : DataW H) : 1 ≤ Rows.uptoBulk d := by
  cases d with
  | lit l => cases l <;> simp [Rows.uptoBulk]
  | _ => simp [Rows.uptoBulk]
theorem bulk_part {H : Type} {d : DataW H} {l : List (DataW H)} (h : d ∈ l) : Rows.uptoBulk d ≤ Rows.uptoBulkAll l := by
  induction l with
  | nil => cases h
  | cons x r ih =>
    simp only [Rows.uptoBulkAll]
    cases List.mem_cons.1 h with
    | inl e => subst e; omega
    | inr e => have := ih e; omega
theorem bulk_two {H : Type} : ∀ (l : List (DataW H)), (∀ i (h : i < l.length), 2 ≤ Rows.uptoBulk l[i]) → 2 * l.length ≤ Rows.uptoBulkAll l
  | [], _ => by simp
  | x :: l, h => by
    have h0 : 2 ≤ Rows.uptoBulk x := h 0 (by simp)
    have := bulk_two l (fun i hi => h (i + 1) (by simpa using hi))
    simp only [Rows.uptoBulkAll, List.length_cons]
    omega
theorem bulk_len {H : Type} (l : List (DataW H)) : l.length ≤ Rows.uptoBulkAll l := by
  induction l with
  | nil => simp [Rows.uptoBulkAll]
  | cons x r ih => have := bulk_one x; simp only [Rows.uptoBulkAll, List.length_cons]; omega
section
variable {H : Type} {enc : TypeId × Value → H} {P : Program} {W : World} {base : Nat} {spare : Nat → Bool} {held : Bool}
/-- All that there is. -/
def old (W : World) : Nat → Prop := fun b => b < W.heap.size
theorem cell_lt {w : World} {a : Addr} {u : Value} (h : w.cell? a = some u) : a.block < w.heap.size ∧ a.spot = none := by
  unfold World.cell? at h
  split at h
  · rename_i c e z hc
    refine ⟨(Array.getElem?_eq_some_iff.1 hc).1, ?_⟩
    split at h
    · cases h
    · rename_i hs
      cases hh : a.spot with
      | none => rfl
      | some s => rw [hh] at hs; exact absurd rfl hs
  · cases h
theorem cells_at {b o : Nat} : ∀ (xs : List AV) (vs : List Value) (k : Nat), IRels (old W) W xs vs → (∀ v ∈ vs, v.oneCell' = true) → (∀ j, j < vs.length → W.cell? ⟨b, o + k + j, none⟩ = vs[j]?) → CellsAt (old W) W xs b (o + k)
  | [], vs, k, _, _, _ => trivial
  | x :: xs, vs, k, h, h1, hc => by
    obtain ⟨u, us, rfl, hx, hxs⟩ := h
    have h0 := hc 0 (by simp)
    simp only [Nat.add_zero, List.getElem?_cons_zero] at h0
    refine ⟨⟨(cell_lt h0).1, u, h0, h1 u (by simp), hx⟩, ?_⟩
    exact cells_at xs us (k + 1) hxs (fun v hv => h1 v (by simp [hv])) (fun j hj => by
      have := hc (j + 1) (by simpa using hj)
      simpa [Nat.add_assoc, Nat.add_comm 1] using this)
/-- A slice, read. -/
theorem read_slice {t e : TypeId} {k fuel : Nat} {cs : List Value} {d : DataW H} {ps : List MemPlace} (ht : P.underlying t = some (.slice e)) (hk : P.cellsOf e = k) (hk0 : 0 < k) (mk : List AV → AV) (hmk : ∀ xs, xs.length = k → cellsOf (mk xs) = xs) (Q : List AV → DataW H → Prop)
    (hR : ∀ n vs d ps, vs.length = k → DataW.trod enc P W base spare held n e vs = some (d, ps) → ∃ xs, Q xs d ∧ IRels (old W) W xs vs ∧ (∀ v ∈ vs, v.oneCell' = true))
    (h : DataW.trod enc P W base spare held fuel t cs = some (d, ps)) :
    ∃ (u : Value) (nl : Bool) (l : List (List AV)) (ds : List (DataW H)), cs = [u] ∧ u.oneCell' = true ∧ IRel (old W) W (.sl nl (l.map mk)) u ∧ Rows.uptoBulkAll ds + 1 ≤ Rows.uptoBulk d ∧ ds.length = l.length ∧ ∀ i (hi : i < l.length) (hd : i < ds.length), Q l[i] ds[i] := by
  rcases open_slice ht h with ⟨rfl, hx⟩ | ⟨a, len, cap, m, n, D, Pl, rfl, hb, hl, hm, hmm, hx, hel⟩
  · cases hx
    exact ⟨_, true, [], [], rfl, rfl, ⟨none, 0, 0, rfl, rfl, Nat.le_refl _, by simp, fun _ => ⟨rfl, rfl, rfl⟩, by simp⟩, by simp [Rows.uptoBulk, Rows.uptoBulkAll], rfl, by simp⟩
  · cases hx
    have hlm : len ≤ m := by rw [hmm]; split <;> omega
    obtain ⟨X, hX⟩ := choose_lt (α := List AV) (n := len) (p := fun i xs => Q xs (D i) ∧ ∃ vs, vs.length = k ∧ W.cells? base (a.add (i * k)) k = some vs ∧ IRels (old W) W xs vs ∧ (∀ v ∈ vs, v.oneCell' = true)) (fun i hi => by
      obtain ⟨cs', h1, h2⟩ := hel i (by omega)
      rw [hk] at h1
      have hlen := (World.cells?_some h1).2.1
      obtain ⟨xs, q1, q2, q3⟩ := hR n cs' _ _ hlen h2
      exact ⟨xs, q1, cs', hlen, h1, q2, q3⟩)
    have hXl : ∀ i, i < len → (X i).length = k := fun i hi => by
      obtain ⟨_, vs, h1, _, h3, _⟩ := hX i hi
      rw [← IRels_length h3, h1]
    have hsp : 0 < len → a.spot = none := fun h0 => by
      obtain ⟨_, vs, h1, h2, _⟩ := hX 0 h0
      have := (World.cells?_some h2).2.2 0 hk0
      rw [List.getElem?_eq_getElem (by omega)] at this
      have := (cell_lt this).2
      simpa [Addr.add] using this
    refine ⟨_, false, (List.range len).map X, (List.range len).map D, rfl, rfl, ⟨some a, len, cap, rfl, by simp, hl, ?_, (fun x => by cases x), fun _ => ⟨a, rfl, fun hne => hsp ?_, ?_⟩⟩, by simp only [Rows.uptoBulk]; omega, by simp, ?_⟩
    · intro x hx y hy
      simp only [List.mem_map, List.mem_range] at hx hy
      obtain ⟨_, ⟨i, hi, rfl⟩, rfl⟩ := hx
      obtain ⟨_, ⟨j, hj, rfl⟩, rfl⟩ := hy
      rw [hmk _ (hXl i hi), hmk _ (hXl j hj), hXl i hi, hXl j hj]
    · rcases Nat.eq_zero_or_pos len with h0 | h0
      · subst h0; exact absurd rfl hne
      · exact h0
    · rcases Nat.eq_zero_or_pos len with h0 | h0
      · subst h0; trivial
      · have hs := hsp h0
        obtain ⟨ab, ao, asp⟩ := a
        simp only at hs
        subst hs
        have key : ∀ c i, i + c = len → ElemsAt (old W) W (((List.range' i c).map X).map mk) ab (ao + i * k) := by
          intro c
          induction c with
          | zero => intro i _; trivial
          | succ c ih =>
            intro i hi
            simp only [List.range'_succ, List.map_cons]
            have h1 := ih (i + 1) (by omega)
            obtain ⟨_, vs, hv1, hv2, hv3, hv4⟩ := hX i (by omega)
            have hc : CellsAt (old W) W (X i) ab (ao + i * k) := by
              have hcc := (World.cells?_some hv2).2.2
              refine cells_at (X i) vs (i * k) hv3 hv4 fun j hj => ?_
              have := hcc j (by omega)
              rw [add_plain, add_plain] at this
              exact this
            rw [ElemsAt_iff, List.flatMap_cons, hmk _ (hXl i (by omega)), CellsAt_append]
            refine ⟨hc, ?_⟩
            rw [hXl i (by omega)]
            have := ElemsAt_iff.1 h1
            rwa [show ao + (i + 1) * k = ao + i * k + k by rw [Nat.add_mul]; omega] at this
        have := key len 0 (by omega)
        rw [← List.range_eq_range'] at this
        simpa using this
    · intro i hi hd
      have hi' : i < len := by simpa using hi
      simpa using (hX i hi').1
end
section
variable {H : Type} {enc : TypeId × Value → H} {W : World} {base : Nat} {spare : Nat → Bool} {held : Bool}
theorem cells3 : Tryd.prog.cellsOf 3 = 1 := by kernel_rfl
theorem cells4 : Tryd.prog.cellsOf 4 = 1 := by kernel_rfl
theorem cells9 : Tryd.prog.cellsOf 9 = 1 := by kernel_rfl
theorem cells21 : Tryd.prog.cellsOf 21 = 1 := by kernel_rfl
theorem cells24 : Tryd.prog.cellsOf 24 = 1 := by kernel_rfl
theorem cells40 : Tryd.prog.cellsOf 40 = 1 := by kernel_rfl
theorem cells39 : Tryd.prog.cellsOf 39 = 5 := by kernel_rfl
theorem cells42 : Tryd.prog.cellsOf 42 = 15 := by kernel_rfl
theorem cells72 : Tryd.prog.cellsOf 72 = 3 := by kernel_rfl
theorem cells193 : Tryd.prog.cellsOf 193 = 5 := by kernel_rfl
theorem bulk_str {s : ByteArray} : Rows.uptoBulk (DataW.lit (H := H) (.string s.data.toList)) = s.size + 1 := by
  show s.data.toList.length + 1 = s.size + 1
  rw [Array.length_toList]
  rfl
theorem read_node {n : Nat} {vs : List Value} {d : DataW H} {ps : List MemPlace} (hl : vs.length = 5) (h : DataW.trod enc Tryd.prog W base spare held n 193 vs = some (d, ps)) :
    ∃ xs, (True) ∧ IRels (old W) W xs vs ∧ (∀ v ∈ vs, v.oneCell' = true) := by
  obtain ⟨c0, c1, c2, c3, c4, rfl⟩ : ∃ c0 c1 c2 c3 c4, vs = [c0, c1, c2, c3, c4] := by
    match vs, hl with
    | [d0, d1, d2, d3, d4], _ => exact ⟨d0, d1, d2, d3, d4, rfl⟩
  obtain ⟨ys, m, _, hx, _, hys, hf⟩ := DataW.trod_struct Tryd.underlying193 h
  have hys' : ys.length = 5 := hys
  cases hx
  have f0 : DataW.trod enc Tryd.prog W base spare held m 3 [c0] = some (ys[0]'(by omega)) := by
    have := hf 0 _ rfl
    rw [List.getElem?_eq_getElem (show 0 < ys.length by omega)] at this
    simpa [cells3] using this
  obtain ⟨k0, e0, _, w0⟩ := DataW.trod_int Tryd.underlying3 f0
  cases e0
  have f1 : DataW.trod enc Tryd.prog W base spare held m 3 [c1] = some (ys[1]'(by omega)) := by
    have := hf 1 _ rfl
    rw [List.getElem?_eq_getElem (show 1 < ys.length by omega)] at this
    simpa [cells3] using this
  obtain ⟨k1, e1, _, w1⟩ := DataW.trod_int Tryd.underlying3 f1
  cases e1
  have f2 : DataW.trod enc Tryd.prog W base spare held m 3 [c2] = some (ys[2]'(by omega)) := by
    have := hf 2 _ rfl
    rw [List.getElem?_eq_getElem (show 2 < ys.length by omega)] at this
    simpa [cells3] using this
  obtain ⟨k2, e2, _, w2⟩ := DataW.trod_int Tryd.underlying3 f2
  cases e2
  have f3 : DataW.trod enc Tryd.prog W base spare held m 24 [c3] = some (ys[3]'(by omega)) := by
    have := hf 3 _ rfl
    rw [List.getElem?_eq_getElem (show 3 < ys.length by omega)] at this
    simpa [cells24] using this
  obtain ⟨k3, e3, _, w3⟩ := DataW.trod_int Tryd.underlying24 f3
  cases e3
  have f4 : DataW.trod enc Tryd.prog W base spare held m 9 [c4] = some (ys[4]'(by omega)) := by
    have := hf 4 _ rfl
    rw [List.getElem?_eq_getElem (show 4 < ys.length by omega)] at this
    simpa [cells9] using this
  obtain ⟨k4, e4, y4, _⟩ := DataW.trod_string Tryd.underlying9 f4
  cases e4
  exact ⟨[.v (.int .i64 k0), .v (.int .i64 k1), .v (.int .i64 k2), .v (.int .u32 k3), .v (.string k4)], trivial, ⟨_, _, rfl, rfl, _, _, rfl, rfl, _, _, rfl, rfl, _, _, rfl, rfl, _, _, rfl, rfl, rfl⟩, by simp [Value.oneCell']⟩
theorem read_ins {n : Nat} {vs : List Value} {d : DataW H} {ps : List MemPlace} (hl : vs.length = 5) (h : DataW.trod enc Tryd.prog W base spare held n 39 vs = some (d, ps)) :
    ∃ xs, (∃ a b c e f : Int, xs = [.v (.int .i64 a), .v (.int .i64 b), .v (.int .i64 c), .v (.int .i64 e), .v (.int .i32 f)]) ∧ IRels (old W) W xs vs ∧ (∀ v ∈ vs, v.oneCell' = true) := by
  obtain ⟨c0, c1, c2, c3, c4, rfl⟩ : ∃ c0 c1 c2 c3 c4, vs = [c0, c1, c2, c3, c4] := by
    match vs, hl with
    | [d0, d1, d2, d3, d4], _ => exact ⟨d0, d1, d2, d3, d4, rfl⟩
  obtain ⟨ys, m, _, hx, _, hys, hf⟩ := DataW.trod_struct Tryd.underlying39 h
  have hys' : ys.length = 5 := hys
  cases hx
  have f0 : DataW.trod enc Tryd.prog W base spare held m 3 [c0] = some (ys[0]'(by omega)) := by
    have := hf 0 _ rfl
    rw [List.getElem?_eq_getElem (show 0 < ys.length by omega)] at this
    simpa [cells3] using this
  obtain ⟨k0, e0, _, w0⟩ := DataW.trod_int Tryd.underlying3 f0
  cases e0
  have f1 : DataW.trod enc Tryd.prog W base spare held m 3 [c1] = some (ys[1]'(by omega)) := by
    have := hf 1 _ rfl
    rw [List.getElem?_eq_getElem (show 1 < ys.length by omega)] at this
    simpa [cells3] using this
  obtain ⟨k1, e1, _, w1⟩ := DataW.trod_int Tryd.underlying3 f1
  cases e1
  have f2 : DataW.trod enc Tryd.prog W base spare held m 3 [c2] = some (ys[2]'(by omega)) := by
    have := hf 2 _ rfl
    rw [List.getElem?_eq_getElem (show 2 < ys.length by omega)] at this
    simpa [cells3] using this
  obtain ⟨k2, e2, _, w2⟩ := DataW.trod_int Tryd.underlying3 f2
  cases e2
  have f3 : DataW.trod enc Tryd.prog W base spare held m 3 [c3] = some (ys[3]'(by omega)) := by
    have := hf 3 _ rfl
    rw [List.getElem?_eq_getElem (show 3 < ys.length by omega)] at this
    simpa [cells3] using this
  obtain ⟨k3, e3, _, w3⟩ := DataW.trod_int Tryd.underlying3 f3
  cases e3
  have f4 : DataW.trod enc Tryd.prog W base spare held m 21 [c4] = some (ys[4]'(by omega)) := by
    have := hf 4 _ rfl
    rw [List.getElem?_eq_getElem (show 4 < ys.length by omega)] at this
    simpa [cells21] using this
  obtain ⟨k4, e4, _, w4⟩ := DataW.trod_int Tryd.underlying21 f4
  cases e4
  exact ⟨[.v (.int .i64 k0), .v (.int .i64 k1), .v (.int .i64 k2), .v (.int .i64 k3), .v (.int .i32 k4)], ⟨_, _, _, _, _, rfl⟩, ⟨_, _, rfl, rfl, _, _, rfl, rfl, _, _, rfl, rfl, _, _, rfl, rfl, _, _, rfl, rfl, rfl⟩, by simp [Value.oneCell']⟩
theorem read_sym {n : Nat} {vs : List Value} {d : DataW H} {ps : List MemPlace} (hl : vs.length = 3) (h : DataW.trod enc Tryd.prog W base spare held n 72 vs = some (d, ps)) :
    ∃ xs, ((∃ s : Sy, xs = s.cells) ∧ 2 ≤ Rows.uptoBulk d) ∧ IRels (old W) W xs vs ∧ (∀ v ∈ vs, v.oneCell' = true) := by
  obtain ⟨c0, c1, c2, rfl⟩ : ∃ c0 c1 c2, vs = [c0, c1, c2] := by
    match vs, hl with
    | [d0, d1, d2], _ => exact ⟨d0, d1, d2, rfl⟩
  obtain ⟨ys, m, _, hx, _, hys, hf⟩ := DataW.trod_struct Tryd.underlying72 h
  have hys' : ys.length = 3 := hys
  cases hx
  have f0 : DataW.trod enc Tryd.prog W base spare held m 9 [c0] = some (ys[0]'(by omega)) := by
    have := hf 0 _ rfl
    rw [List.getElem?_eq_getElem (show 0 < ys.length by omega)] at this
    simpa [cells9] using this
  obtain ⟨k0, e0, y0, _⟩ := DataW.trod_string Tryd.underlying9 f0
  cases e0
  have f1 : DataW.trod enc Tryd.prog W base spare held m 24 [c1] = some (ys[1]'(by omega)) := by
    have := hf 1 _ rfl
    rw [List.getElem?_eq_getElem (show 1 < ys.length by omega)] at this
    simpa [cells24] using this
  obtain ⟨k1, e1, _, w1⟩ := DataW.trod_int Tryd.underlying24 f1
  cases e1
  have f2 : DataW.trod enc Tryd.prog W base spare held m 3 [c2] = some (ys[2]'(by omega)) := by
    have := hf 2 _ rfl
    rw [List.getElem?_eq_getElem (show 2 < ys.length by omega)] at this
    simpa [cells3] using this
  obtain ⟨k2, e2, _, w2⟩ := DataW.trod_int Tryd.underlying3 f2
  cases e2
  have hb2 : 2 ≤ Rows.uptoBulk (DataW.agg (ys.map (·.1))) := by
    have := bulk_len (ys.map (·.1))
    simp only [Rows.uptoBulk]
    simp only [List.length_map] at this
    omega
  exact ⟨(⟨k0, k1, k2⟩ : Sy).cells, ⟨⟨_, rfl⟩, hb2⟩, ⟨_, _, rfl, rfl, _, _, rfl, rfl, _, _, rfl, rfl, rfl⟩, by simp [Value.oneCell']⟩
theorem read_item {n : Nat} {vs : List Value} {d : DataW H} {ps : List MemPlace} (hl : vs.length = 15) (h : DataW.trod enc Tryd.prog W base spare held n 42 vs = some (d, ps)) :
    ∃ xs, ((∃ x : It, xs = x.cells ∧ (0 ≤ x.num ∧ x.num < 4294967296) ∧ x.name.size ≤ Rows.uptoBulk d ∧ x.nodes.length ≤ Rows.uptoBulk d) ∧ 2 ≤ Rows.uptoBulk d) ∧ IRels (old W) W xs vs ∧ (∀ v ∈ vs, v.oneCell' = true) := by
  obtain ⟨c0, c1, c2, c3, c4, c5, c6, c7, c8, c9, c10, c11, c12, c13, c14, rfl⟩ : ∃ c0 c1 c2 c3 c4 c5 c6 c7 c8 c9 c10 c11 c12 c13 c14, vs = [c0, c1, c2, c3, c4, c5, c6, c7, c8, c9, c10, c11, c12, c13, c14] := by
    match vs, hl with
    | [d0, d1, d2, d3, d4, d5, d6, d7, d8, d9, d10, d11, d12, d13, d14], _ => exact ⟨d0, d1, d2, d3, d4, d5, d6, d7, d8, d9, d10, d11, d12, d13, d14, rfl⟩
  obtain ⟨ys, m, _, hx, _, hys, hf⟩ := DataW.trod_struct Tryd.underlying42 h
  have hys' : ys.length = 11 := hys
  cases hx
  have f0 : DataW.trod enc Tryd.prog W base spare held m 3 [c0] = some (ys[0]'(by omega)) := by
    have := hf 0 _ rfl
    rw [List.getElem?_eq_getElem (show 0 < ys.length by omega)] at this
    simpa [cells3] using this
  obtain ⟨k0, e0, _, w0⟩ := DataW.trod_int Tryd.underlying3 f0
  cases e0
  have f1 : DataW.trod enc Tryd.prog W base spare held m 3 [c1] = some (ys[1]'(by omega)) := by
    have := hf 1 _ rfl
    rw [List.getElem?_eq_getElem (show 1 < ys.length by omega)] at this
    simpa [cells3] using this
  obtain ⟨k1, e1, _, w1⟩ := DataW.trod_int Tryd.underlying3 f1
  cases e1
  have f2 : DataW.trod enc Tryd.prog W base spare held m 3 [c2] = some (ys[2]'(by omega)) := by
    have := hf 2 _ rfl
    rw [List.getElem?_eq_getElem (show 2 < ys.length by omega)] at this
    simpa [cells3] using this
  obtain ⟨k2, e2, _, w2⟩ := DataW.trod_int Tryd.underlying3 f2
  cases e2
  have f3 : DataW.trod enc Tryd.prog W base spare held m 9 [c3] = some (ys[3]'(by omega)) := by
    have := hf 3 _ rfl
    rw [List.getElem?_eq_getElem (show 3 < ys.length by omega)] at this
    simpa [cells9] using this
  obtain ⟨k3, e3, y3, _⟩ := DataW.trod_string Tryd.underlying9 f3
  cases e3
  have f4 : DataW.trod enc Tryd.prog W base spare held m 39 [c4, c5, c6, c7, c8] = some (ys[4]'(by omega)) := by
    have := hf 4 _ rfl
    rw [List.getElem?_eq_getElem (show 4 < ys.length by omega)] at this
    simpa [cells39] using this
  obtain ⟨xi, ⟨i0, i1, i2, i3, i4, rfl⟩, ri, oi⟩ := read_ins (by simp) f4
  obtain ⟨_, _, q, rfl, _, _, q', rfl, _, _, q'', rfl, _, _, q3, rfl, _, _, q4, rfl, q5⟩ := ri
  cases q; cases q'; cases q''; cases q3; cases q4; cases q5
  have f5 : DataW.trod enc Tryd.prog W base spare held m 9 [c9] = some (ys[5]'(by omega)) := by
    have := hf 5 _ rfl
    rw [List.getElem?_eq_getElem (show 5 < ys.length by omega)] at this
    simpa [cells9] using this
  obtain ⟨k5, e5, y5, _⟩ := DataW.trod_string Tryd.underlying9 f5
  cases e5
  have f6 : DataW.trod enc Tryd.prog W base spare held m 3 [c10] = some (ys[6]'(by omega)) := by
    have := hf 6 _ rfl
    rw [List.getElem?_eq_getElem (show 6 < ys.length by omega)] at this
    simpa [cells3] using this
  obtain ⟨k6, e6, _, w6⟩ := DataW.trod_int Tryd.underlying3 f6
  cases e6
  have f7 : DataW.trod enc Tryd.prog W base spare held m 40 [c11] = some (ys[7]'(by omega)) := by
    have := hf 7 _ rfl
    rw [List.getElem?_eq_getElem (show 7 < ys.length by omega)] at this
    simpa [cells40] using this
  obtain ⟨u7, nl, nd, ds, e7, o7, r7, b7, l7, _⟩ := read_slice (k := 5) Tryd.underlying40 cells193 (by omega) AV.agg (fun _ _ => rfl) (fun _ _ => True) (fun n vs d ps hl h => by
    obtain ⟨xs, _, q2, q3⟩ := read_node hl h
    exact ⟨xs, trivial, q2, q3⟩) f7
  cases e7
  have f8 : DataW.trod enc Tryd.prog W base spare held m 24 [c12] = some (ys[8]'(by omega)) := by
    have := hf 8 _ rfl
    rw [List.getElem?_eq_getElem (show 8 < ys.length by omega)] at this
    simpa [cells24] using this
  obtain ⟨k8, e8, _, w8⟩ := DataW.trod_int Tryd.underlying24 f8
  cases e8
  have f9 : DataW.trod enc Tryd.prog W base spare held m 4 [c13] = some (ys[9]'(by omega)) := by
    have := hf 9 _ rfl
    rw [List.getElem?_eq_getElem (show 9 < ys.length by omega)] at this
    simpa [cells4] using this
  obtain ⟨k9, e9, _⟩ := DataW.trod_bool Tryd.underlying4 f9
  cases e9
  have f10 : DataW.trod enc Tryd.prog W base spare held m 4 [c14] = some (ys[10]'(by omega)) := by
    have := hf 10 _ rfl
    rw [List.getElem?_eq_getElem (show 10 < ys.length by omega)] at this
    simpa [cells4] using this
  obtain ⟨k10, e10, _⟩ := DataW.trod_bool Tryd.underlying4 f10
  cases e10
  have hb2 : 2 ≤ Rows.uptoBulk (DataW.agg (ys.map (·.1))) := by
    have := bulk_len (ys.map (·.1))
    simp only [Rows.uptoBulk]
    simp only [List.length_map] at this
    omega
  refine ⟨(⟨k0, k1, k2, k3, i0, i1, i2, i3, i4, k5, k6, nl, nd.map AV.agg, k8, k9, k10⟩ : It).cells, ⟨⟨_, rfl, ?_, ?_, ?_⟩, hb2⟩, ⟨_, _, rfl, rfl, _, _, rfl, rfl, _, _, rfl, rfl, _, _, rfl, rfl, _, _, rfl, rfl, _, _, rfl, rfl, _, _, rfl, rfl, _, _, rfl, rfl, _, _, rfl, rfl, _, _, rfl, rfl, _, _, rfl, rfl, _, _, rfl, r7, _, _, rfl, rfl, _, _, rfl, rfl, _, _, rfl, rfl, rfl⟩, ?_⟩
  · simp only [Lit.wf, Bool.and_eq_true, decide_eq_true_eq] at w8
    have e1 : IntKind.min .u32 = 0 := rfl
    have e2 : IntKind.max .u32 = 4294967295 := rfl
    rw [e1, e2] at w8
    exact ⟨w8.1, by have := w8.2; simp only; omega⟩
  · have hm : ys[3].1 ∈ ys.map (·.1) := List.mem_map.2 ⟨_, List.getElem_mem _, rfl⟩
    have := bulk_part hm
    rw [y3] at this
    simp only [bulk_str] at this
    simp only [Rows.uptoBulk]
    omega
  · have hm : ys[7].1 ∈ ys.map (·.1) := List.mem_map.2 ⟨_, List.getElem_mem _, rfl⟩
    have := bulk_part hm
    have h2 := bulk_len ds
    have b7' : Rows.uptoBulkAll ds + 1 ≤ Rows.uptoBulk ys[7].1 := b7
    simp only [Rows.uptoBulk, List.length_map]
    omega
  · intro v hv
    simp only [List.mem_cons, List.not_mem_nil, or_false] at hv
    rcases hv with rfl | rfl | rfl | rfl | rfl | rfl | rfl | rfl | rfl | rfl | rfl | rfl | rfl | rfl | rfl <;> first | rfl | exact o7
end
end Go.Proofs.YtmekfllddifglaaDoor.AM

/- The abstract machine, part No: maps whose keys are strings, by name. Conditions: none. -/
set_option linter.unusedVariables false
set_option linter.unusedSimpArgs false
namespace Go.Proofs.YtmekfllddifglaaDoor.AM
open Go

theorem bytes_beq (a b : ByteArray) : (a == b) = decide (a = b) := by
  have h : (a == b) = (a.data == b.data) := rfl
  rw [h]
  by_cases e : a = b
  · subst e; simp
  · have : a.data ≠ b.data := fun h => e (by cases a; cases b; simpa using h)
    simp [e, this]
theorem toList_beq (a b : ByteArray) : (a.toList == b.toList) = decide (a = b) := by
  rw [ByteArray.toList_eq, ByteArray.toList_eq]
  by_cases e : a = b
  · subst e; simp
  · have : a.data.toList ≠ b.data.toList := fun h => e (by cases a; cases b; simpa using h)
    rw [decide_eq_false e]
    exact beq_eq_false_iff_ne.2 this
/-- All keys are strings. -/
def strK (en : List (Value × AV)) : Prop := ∀ e ∈ en, ∃ s, e.1 = .string s
/-- What is under a name. -/
def mget (en : List (Value × AV)) (n : ByteArray) : Option AV := match en with
  | [] => none
  | (.string s, x) :: l => if s = n then some x else mget l n
  | _ :: l => mget l n
theorem findA_mget : ∀ (en : List (Value × AV)) (i : Nat) (n : ByteArray), strK en → (mget en n = none → findA .string (.string n) en i = some none) ∧ (∀ x, mget en n = some x → ∃ j, i ≤ j ∧ findA .string (.string n) en i = some (some (j, x)) ∧ (∃ s, en[j - i]? = some (.string s, x) ∧ s = n) ∧ ∀ m < j - i, ∀ e, en[m]? = some e → e.1 ≠ .string n)
  | [], i, n, _ => ⟨fun _ => rfl, fun x h => by simp [mget] at h⟩
  | (k, x) :: en, i, n, hk => by
    obtain ⟨s, hs⟩ := hk (k, x) (by simp)
    simp only at hs
    subst hs
    have ih := findA_mget en (i + 1) n (fun e he => hk e (by simp [he]))
    simp only [mget, findA, Instr.sameNow, bytes_beq]
    by_cases h : s = n
    · subst h
      simp only [if_true, decide_true]
      refine ⟨by simp, fun y hy => ?_⟩
      simp only [Option.some.injEq] at hy
      subst hy
      exact ⟨i, Nat.le_refl _, rfl, ⟨s, by simp, rfl⟩, fun m hm => by omega⟩
    · have h' : ¬ n = s := fun e => h e.symm
      simp only [h, h', if_false, decide_false]
      refine ⟨ih.1, fun y hy => ?_⟩
      obtain ⟨j, h1, h2, ⟨s', h3, h3'⟩, h4⟩ := ih.2 y hy
      refine ⟨j, by omega, h2, ⟨s', by rw [show j - i = (j - (i + 1)) + 1 by omega]; simpa using h3, h3'⟩, fun m hm e he => ?_⟩
      cases m with
      | zero => simp only [List.getElem?_cons_zero, Option.some.injEq] at he; subst he; simpa using h
      | succ m => exact h4 m (by omega) e (by simpa using he)
theorem mget_append : ∀ (en : List (Value × AV)) (k n : ByteArray) (y : AV), mget en k = none → strK en → mget (en ++ [(.string k, y)]) n = if k = n then some y else mget en n
  | [], k, n, y, _, _ => by simp [mget]
  | (v, x) :: en, k, n, y, h, hk => by
    obtain ⟨s, hs⟩ := hk (v, x) (by simp)
    simp only at hs
    subst hs
    simp only [mget] at h
    split at h
    · cases h
    · rename_i hsk
      have ih := mget_append en k n y h (fun e he => hk e (by simp [he]))
      simp only [List.cons_append, mget, ih]
      by_cases h1 : s = n
      · subst h1
        simp [Ne.symm hsk]
      · simp [h1]
theorem mget_set : ∀ (en : List (Value × AV)) (k n : ByteArray) (x y : AV) (j : Nat), strK en → en[j]? = some (.string k, x) → (∀ m < j, ∀ e, en[m]? = some e → e.1 ≠ .string k) → mget (en.set j (.string k, y)) n = if k = n then some y else mget en n
  | [], k, n, x, y, j, _, h, _ => by simp at h
  | (v, z) :: en, k, n, x, y, j, hk, h, hm => by
    obtain ⟨s, hs⟩ := hk (v, z) (by simp)
    simp only at hs
    subst hs
    cases j with
    | zero =>
      simp only [List.getElem?_cons_zero, Option.some.injEq, Prod.mk.injEq, Value.string.injEq] at h
      obtain ⟨rfl, rfl⟩ := h
      simp only [List.set_cons_zero, mget]
      by_cases h1 : s = n <;> simp [h1]
    | succ j =>
      have hsk : ¬ s = k := by
        have := hm 0 (by omega) (.string s, z) (by simp)
        simpa using this
      have ih := mget_set en k n x y j (fun e he => hk e (by simp [he])) (by simpa using h) (fun m hm' e he => hm (m + 1) (by omega) e (by simpa using he))
      simp only [List.set_cons_succ, mget, ih]
      by_cases h1 : s = n
      · subst h1
        simp [Ne.symm hsk]
      · simp [h1]
/-- An entry is laid. -/
theorem updA_mget (en : List (Value × AV)) (k : ByteArray) (y : AV) (hk : strK en) : ∃ en', updA .string (.string k) y en = some en' ∧ strK en' ∧ ∀ n, mget en' n = if k = n then some y else mget en n := by
  obtain ⟨h1, h2⟩ := findA_mget en 0 k hk
  cases h : mget en k with
  | none =>
    refine ⟨en ++ [(.string k, y)], by simp only [updA, h1 h], fun e he => ?_, fun n => mget_append en k n y h hk⟩
    rcases List.mem_append.1 he with he | he
    · exact hk e he
    · simp only [List.mem_singleton] at he; subst he; exact ⟨k, rfl⟩
  | some x =>
    obtain ⟨j, _, h3, ⟨s, h4, rfl⟩, h5⟩ := h2 x h
    refine ⟨en.set j (.string s, y), by simp only [updA, h3], fun e he => ?_, fun n => mget_set en s n x y j hk (by simpa using h4) (fun m hm => h5 m (by simpa using hm))⟩
    rcases List.mem_or_eq_of_mem_set he with he | he
    · exact hk e he
    · subst he; exact ⟨s, rfl⟩
theorem lookF_mget (P : Program) (e : TypeId) (ok : Bool) (S : Subs) (en : List (Value × AV)) (n : ByteArray) (hk : strK en) : lookF P e ok S (findA .string (.string n) en 0) = match mget en n with
    | some x => some (lookRes ok x true, S)
    | none => (zeroA P e).map fun z => (lookRes ok z false, S) := by
  obtain ⟨h1, h2⟩ := findA_mget en 0 n hk
  cases h : mget en n with
  | none => rw [h1 h]; rfl
  | some x => obtain ⟨j, _, h3, _⟩ := h2 x h; rw [h3]; rfl
def mapK (P : Program) (t : TypeId) : Option TypeId := (mapT P t).map (·.1)
def mapE (P : Program) (t : TypeId) : Option TypeId := (mapT P t).map (·.2)
theorem mapT_of {P : Program} {t k e : TypeId} (hk : mapK P t = some k) (he : mapE P t = some e) : mapT P t = some (k, e) := by
  unfold mapK at hk
  unfold mapE at he
  cases h : mapT P t with
  | none => rw [h] at hk; cases hk
  | some x =>
    rw [h] at hk he
    simp only [Option.map_some, Option.some.injEq] at hk he
    rw [← hk, ← he]
@[simp] theorem lookup_mp' (P : Program) (S : Subs) {t kt e : TypeId} {d : TypeDesc} (hm : mapK P t = some kt) (he : mapE P t = some e) (hk : keyT P kt = some d) (r : Nat) (p : List Nat) (ver : Nat) (k : Value) (ok : Bool) :
    (aLookup P t (.mp r p ver) (.v k) ok).run S = withMap ((sub S r).live p ver) fun _ en => lookF P e ok S (findA d k en 0) := lookup_mp P S (mapT_of hm he) hk r p ver k ok
@[simp] theorem mapUpd_mp' (P : Program) (S : Subs) {t kt e : TypeId} {d : TypeDesc} (hm : mapK P t = some kt) (he : mapE P t = some e) (hk : keyT P kt = some d) (r : Nat) (p : List Nat) (ver : Nat) (k : Value) (v : AV) :
    (aMapUpd P t (.mp r p ver) (.v k) v).run S = thenR ((pub 60 v).run S) fun y S => withMap ((sub S r).live p ver) fun t' en => (updA d k y en).bind fun en' => if r < S.length then some ((), S.set r ((sub S r).put p (ver, some (.map t' en')))) else none := mapUpd_mp P S (mapT_of hm he) hk r p ver k v
end Go.Proofs.YtmekfllddifglaaDoor.AM

/- The abstract machine, part Np: what operations look at and write, told by the shape of what they are given. Conditions: none. -/
set_option linter.unusedVariables false
set_option linter.unusedSimpArgs false
namespace Go.Proofs.YtmekfllddifglaaDoor.AM
open Go

theorem settle1_plain_eq (d : Nat) (p : List Nat) (x : AV) (h : plainAV x = true) : settle1 d p x = .ret x := by
  cases x <;> simp_all [plainAV, settle1, cellAV]
theorem settle_plain_eq (d : Nat) (p : List Nat) : ∀ (l : List AV) (off : Nat), l.all plainAV = true → settle d p off l = .ret l
  | [], _, _ => rfl
  | x :: l, off, h => by
    simp only [List.all_cons, Bool.and_eq_true] at h
    simp only [settle, settle1_plain_eq d _ x h.1, RW.bind, settle_plain_eq d p l (off + 1) h.2]
theorem live1_plain_eq (x : AV) (h : plainAV x = true) : live1 x = .ret x := by
  cases x <;> simp_all [plainAV, live1, cellAV]
theorem live1s_plain_eq : ∀ (l : List (Nat × AV)), (l.all fun q => plainAV q.2) = true → live1s l = .ret l
  | [], _ => rfl
  | (i, x) :: l, h => by
    simp only [List.all_cons, Bool.and_eq_true] at h
    simp only [live1s, live1_plain_eq x h.1, RW.bind, live1s_plain_eq l h.2]
/-- What is handed on without a look. -/
def flat (x : AV) : Bool := match x with
  | .v _ => true
  | .sl _ _ => true
  | .ref _ => true
  | _ => false
def flatA (x : AV) : Bool := match x with
  | .agg l => l.all flat
  | x => flat x
theorem pub_flat (n : Nat) (x : AV) (h : flat x = true) : ∃ y, pub (n + 1) x = .ret y := by
  cases x <;> simp_all [flat, pub]
theorem mapRW_flat (n : Nat) : ∀ l : List AV, l.all flat = true → ∃ ys, mapRW (pub (n + 1)) l = .ret ys
  | [], _ => ⟨[], rfl⟩
  | x :: l, h => by
    simp only [List.all_cons, Bool.and_eq_true] at h
    obtain ⟨y, hy⟩ := pub_flat n x h.1
    obtain ⟨ys, hys⟩ := mapRW_flat n l h.2
    exact ⟨y :: ys, by simp only [mapRW, hy, RW.bind, hys]⟩
theorem pub_flatA (n : Nat) (x : AV) (h : flatA x = true) : ∃ y, pub (n + 2) x = .ret y := by
  cases x with
  | agg l =>
    obtain ⟨ys, hys⟩ := mapRW_flat n l h
    refine ⟨.agg ys, ?_⟩
    show (mapRW (pub (n + 1)) l).bind _ = _
    rw [hys]; rfl
  | _ => exact pub_flat (n + 1) _ h
theorem tgt_flatA (x : AV) (h : flatA x = true) : tgt x = none := by
  cases x <;> simp_all [flatA, flat, tgt]
theorem prepA_flat : ∀ (l : List AV) (md : List Bool), l.all flatA = true → ∃ ys : List Arg, prepA md l = .ret ys ∧ ys.all (fun y => y.2.isNone) = true
  | [], md, _ => ⟨[], rfl, rfl⟩
  | x :: l, md, h => by
    simp only [List.all_cons, Bool.and_eq_true] at h
    obtain ⟨y, hy⟩ := pub_flatA 58 x h.1
    obtain ⟨ys, h1, h2⟩ := prepA_flat l md.tail h.2
    refine ⟨(y, none) :: ys, ?_, by simpa using h2⟩
    have : (if md.headD false then tgt x else none) = none := by rw [tgt_flatA x h.1]; split <;> rfl
    simp only [prepA, this, hy, RW.bind, h1]
theorem gather_flat : ∀ (l : List Arg), l.all (fun y => y.2.isNone) = true → ∃ qs : List Pass, gather l = .ret qs ∧ qs.all (fun y => y.2.isNone) = true
  | [], _ => ⟨[], rfl, rfl⟩
  | (x, none) :: l, h => by
    obtain ⟨qs, h1, h2⟩ := gather_flat l (by simpa using h)
    exact ⟨(x, none) :: qs, by simp only [gather, h1, RW.bind], by simpa using h2⟩
  | (x, some y) :: l, h => by simp at h
theorem putB_flat (qs : List Pass) (Sc : Subs) : ∀ (l : List Pass) (j : Nat), l.all (fun y => y.2.isNone) = true → putB qs Sc l j = .ret ()
  | [], _, _ => rfl
  | (x, none) :: l, j, h => by simp only [putB]; exact putB_flat qs Sc l (j + 1) (by simpa using h)
  | (x, some y) :: l, j, h => by simp at h
theorem aCall_flat (F : FnA) (md : List Bool) (args : List AV) (h : args.all flatA = true) (S : Subs) : (aCall F md args).reach S = ([], []) := by
  obtain ⟨ys, h1, h2⟩ := prepA_flat args md h
  obtain ⟨qs, h3, h4⟩ := gather_flat ys h2
  simp only [aCall, h1, RW.bind, h3]
  split
  · split
    · rename_i res Sc _
      rw [putB_flat qs Sc qs 0 h4]; rfl
    · rfl
  · rfl
section
variable (G : Gl) (P : Program) (T : Tbl) (sl : List AV) (S : Subs) (dst : Option Tmp) (ty : TypeId) (pos : String) (af : Array Edge) (gd : Option (Nat × Bool))
def callFlat (v : AV) (args : List AV) : Bool := match v with
  | .clo _ first caps => (first ++ (args ++ caps)).all flatA
  | _ => true
@[simp] theorem callFlat_fn (f : FuncId) (args : List AV) : callFlat (.clo f [] []) args = args.all flatA := by simp [callFlat]
@[simp] theorem flatA_v (x : Value) : flatA (.v x) = true := rfl
@[simp] theorem flatA_sl (n : Bool) (l : List AV) : flatA (.sl n l) = true := rfl
@[simp] theorem flatA_ref (l : List AV) : flatA (.ref l) = true := rfl
@[simp] theorem flatA_agg (l : List AV) : flatA (.agg l) = l.all flat := rfl
@[simp] theorem flat_v (x : Value) : flat (.v x) = true := rfl
@[simp] theorem flat_sl (n : Bool) (l : List AV) : flat (.sl n l) = true := rfl
@[simp] theorem flat_ref (l : List AV) : flat (.ref l) = true := rfl
@[simp] theorem fpC_callF (f : Operand) (args : Array Operand) (ats : Array TypeId) (h : callFlat (opd G sl f) (args.toList.map (opd G sl)) = true) : fpC G (carry P T) ⟨dst, .call ⟨.value f, args, ats⟩, ty, pos, af, gd⟩ ⟨sl, S⟩ = ([], []) := by
  unfold fpC
  simp only [carry]
  cases hf : opd G sl f <;> try rfl
  rename_i g first caps
  simp only []
  cases hT : T g with
  | none => rfl
  | some x =>
    obtain ⟨md, F⟩ := x
    rw [hf] at h
    exact aCall_flat F md _ h S
@[simp] theorem fpC_build (t : TypeId) (ps : Array (Nat × Operand)) (h : ((ps.toList.map fun q => (q.1, opd G sl q.2)).all fun q => plainAV q.2) = true) : fpC G (carry P T) ⟨dst, .build t ps, ty, pos, af, gd⟩ ⟨sl, S⟩ = ([], []) := by
  unfold fpC
  simp only [carry, aop, aBuild]
  split
  · rfl
  · rw [live1s_plain_eq _ h]
    simp only [RW.bind]
    split <;> rfl
@[simp] theorem fpC_box (t : TypeId) (x : Operand) (h : (cellsS (opd G sl x)).all plainAV = true) : fpC G (carry P T) ⟨dst, .box t x, ty, pos, af, gd⟩ ⟨sl, S⟩ = ([dst.getD 0], [dst.getD 0]) := by
  unfold fpC
  simp only [carry, aop, aBox, settle_plain_eq _ _ _ _ h, RW.bind, newBox]
  rfl
@[simp] theorem fpC_assign (x : Operand) : fpC G (carry P T) ⟨dst, .assign x, ty, pos, af, gd⟩ ⟨sl, S⟩ = (aAssign (dst.getD 0) (opd G sl x)).reach S := rfl
@[simp] theorem reach_assign_v (d : Nat) (x : Value) : (aAssign d (.v x)).reach S = ([], []) := rfl
@[simp] theorem reach_assign_sl (d : Nat) (n : Bool) (l : List AV) : (aAssign d (.sl n l)).reach S = ([], []) := rfl
@[simp] theorem reach_assign_ifc (d : Nat) (t : TypeId) (x : AV) : (aAssign d (.ifc t x)).reach S = ([], []) := rfl
@[simp] theorem reach_assign_ref (d : Nat) (l : List AV) : (aAssign d (.ref l)).reach S = ([], []) := rfl
@[simp] theorem reach_assign_agg (d : Nat) (l : List AV) : (aAssign d (.agg l)).reach S = ([], []) := rfl
@[simp] theorem reach_assign_loc (d r : Nat) (p : List Nat) (v o : Nat) : (aAssign d (.loc r p v o)).reach S = ([], []) := rfl
def fpStB (o : Option Ob) (off n r : Nat) : FP := match o with
  | some (.box false cells) => if off + n ≤ cells.length then ([r], [r]) else ([r], [])
  | _ => ([r], [])
@[simp] theorem fpStB_some (cells : List AV) (off n r : Nat) : fpStB (some (.box false cells)) off n r = if off + n ≤ cells.length then ([r], [r]) else ([r], []) := rfl
def fpSt (P : Program) (t : TypeId) (S : Subs) (a x : AV) : Option FP := match a with
  | .loc r p ver off => (szT P t).bind fun n => if (cellsS x).length = n ∧ (cellsS x).all plainAV = true then some (fpStB ((sub S r).live p ver) off n r) else none
  | _ => none
@[simp] theorem fpSt_loc (t : TypeId) (r : Nat) (p : List Nat) (ver off : Nat) (x : AV) : fpSt P t S (.loc r p ver off) x = (szT P t).bind fun n => if (cellsS x).length = n ∧ (cellsS x).all plainAV = true then some (fpStB ((sub S r).live p ver) off n r) else none := rfl
theorem fpC_store (t : TypeId) (a x : Operand) {f : FP} (h : fpSt P t S (opd G sl a) (opd G sl x) = some f) : fpC G (carry P T) ⟨dst, .store t a x, ty, pos, af, gd⟩ ⟨sl, S⟩ = f := by
  unfold fpC
  simp only [carry, aop]
  cases ha : opd G sl a <;> rw [ha] at h <;> try (simp [fpSt] at h; done)
  rename_i r p ver off
  simp only [fpSt] at h
  obtain ⟨n, h1, h2⟩ := Option.bind_eq_some_iff.1 h
  split at h2
  · rename_i hc
    simp only [Option.some.injEq] at h2
    subst h2
    simp only [aStore, h1, hc.1, if_true, settle_plain_eq _ _ _ _ hc.2, RW.bind, RW.reach]
    cases hl : (sub S r).live p ver with
    | none => rfl
    | some o =>
      cases o with
      | box fz cells =>
        cases fz with
        | true => rfl
        | false =>
          simp only [fpStB_some]
          split <;> rfl
      | _ => rfl
  · cases h2
@[simp] theorem fpC_conv (a b : TypeId) (x : Operand) (h : (conc (opd G sl x)).isSome = true) : fpC G (carry P T) ⟨dst, .convert a b x, ty, pos, af, gd⟩ ⟨sl, S⟩ = ([], []) := by
  unfold fpC
  simp only [carry, aop, h, if_true]
  exact ofO_reach _ _
end
end Go.Proofs.YtmekfllddifglaaDoor.AM

/- The relax seat: labels. Conditions: none. -/
set_option linter.unusedVariables false
set_option linter.unusedSimpArgs false
set_option maxRecDepth 10000
namespace Go.Proofs.YtmekfllddifglaaDoor.AM
open Go
variable (G : Gl) (N : Nats) (k : Nat)
@[simp] theorem mapK118 : mapK Tryd.prog 118 = some 9 := by simp [mapK]
@[simp] theorem mapE118 : mapE Tryd.prog 118 = some 4 := by simp [mapE]
@[simp] theorem mapK120 : mapK Tryd.prog 120 = some 9 := by simp [mapK]
@[simp] theorem mapE120 : mapE Tryd.prog 120 = some 122 := by simp [mapE]
theorem sameN_eq (a b : ByteArray) : sameN a b = decide (a = b) := toList_beq a b
def hasN (n : ByteArray) : List Sy → Bool
  | [] => false
  | s :: l => decide (s.name = n) || hasN n l
theorem hasN_append (n : ByteArray) : ∀ a b : List Sy, hasN n (a ++ b) = (hasN n a || hasN n b)
  | [], b => rfl
  | s :: a, b => by simp [hasN, hasN_append n a b, Bool.or_assoc]
/-- The labels; or one that stands twice. -/
def labelsP (at_ : List Int) (sy : List Sy) : Nat → List It → List Sy → Except Flt (List Sy)
  | _, [], seen => .ok seen
  | i, x :: r, seen => if x.kind = 1 then (if hasN x.name sy || hasN x.name seen then .error (x.line, x.col, 10) else labelsP at_ sy (i + 1) r (seen ++ [⟨x.name, at_.getD i 0, 1⟩])) else labelsP at_ sy (i + 1) r seen
def errOf (f : Flt) : AV := errA f.1 f.2.1 f.2.2
def labelsA (r : Except Flt (List Sy)) : AV := match r with
  | .ok l => .tup [.sl l.isEmpty (syms l), .v .nilIface]
  | .error f => .tup [.sl true [], errOf f]
theorem labelsA_ok (l : List Sy) : labelsA (.ok l) = .tup [.sl l.isEmpty (syms l), .v .nilIface] := rfl
theorem labelsA_err (a b c : Int) : labelsA (.error (a, b, c)) = .tup [.sl true [], errA a b c] := rfl
def st37a (nl na ns : Bool) (l : List It) (at_ : List Int) (sy : List Sy) (en : List (Value × AV)) (i : Nat) : St :=
  ⟨[.sl nl (items l), .sl na (words at_), .dead, .dead, .dead, .dead, .dead, .dead, .mp 15 [] 1, .dead, .dead, .dead, .dead, .dead, .dead, .dead, .sl ns (syms sy), .v (.int .i64 sy.length), .v (.int .i64 i)] ++ List.replicate 44 .dead,
   List.replicate 15 [] ++ [([], (1, some (.map 118 en)))] :: List.replicate 47 []⟩
def st37b (nl na : Bool) (l : List It) (at_ : List Int) (q : List Sy) (en : List (Value × AV)) (i : Nat) : St :=
  ⟨[.dead, .sl na (words at_), .dead, .dead, .dead, .dead, .dead, .dead, .mp 15 [] 1, .dead, .dead, .own 11 [] 1 0 q.length, .dead, .dead, .dead, .dead, .dead, .dead, .dead, .dead, .dead, .dead, .dead, .dead, .dead, .dead, .sl nl (items l), .v (.int .i64 l.length), .v (.int .i64 i)] ++ List.replicate 34 .dead,
   List.replicate 11 [] ++ [([], (1, some (.arr q.isEmpty false 3 74 (syms q))))] :: [] :: [] :: [] :: [([], (1, some (.map 118 en)))] :: List.replicate 47 []⟩
set_option maxHeartbeats 8000000 in
theorem labels_rn (nl na ns : Bool) (l : List It) (at_ : List Int) (sy : List Sy) (hl : l.length < 1000000) (ha : at_.length < 4611686018427387904) (hs : sy.length < 1000000) :
    rn (DR G N) (k + 2) 37 [.sl nl (items l), .sl na (words at_), .sl ns (syms sy)] [[], [], []] = some (labelsA (labelsP at_ sy 0 l []), [[], [], []]) := by
  rw [run37]
  simp -implicitDefEqProofs [Tryd.f37, endF, argsIn, subsIn, acode_loop]
  refine aloop_ind (Q := fun r => finF _ _ _ (thenA (blockA r 0) _) = _) (I := fun r st => ∃ p en, sy = p ++ r ∧ strK en ∧ (∀ n, mget en n = if hasN n p then some (.v (.bool true)) else none) ∧ i37.hints.nm 0 st = some (st37a nl na ns l at_ sy en p.length)) ?_ ?_ sy _ ⟨[], [], rfl, by simp [strK], by simp [hasN, mget], by simp -implicitDefEqProofs [NormD.run, norm, st37a, List.lookup]⟩
  · rintro st ⟨p, en, hp, hk, hm, hst⟩ K
    rw [List.append_nil] at hp
    subst hp
    rw [hst]
    simp -implicitDefEqProofs [st37a, endF, acode_loop]
    refine aloop_ind (Q := fun r => finF _ _ _ (thenA (blockA r 2) _) = _) (I := fun r st => ∃ p q en, l = p ++ r ∧ q.length ≤ p.length ∧ strK en ∧ (∀ n, mget en n = if hasN n sy || hasN n q then some (.v (.bool true)) else none) ∧ labelsP at_ sy p.length r q = labelsP at_ sy 0 l [] ∧ i37.hints.nm 2 st = some (st37b nl na l at_ q en p.length)) ?_ ?_ l _ ⟨[], [], en, rfl, Nat.le_refl _, hk, by simpa [hasN] using hm, rfl, by simp -implicitDefEqProofs [NormD.run, norm, st37b, List.lookup, coSs, coS, setEnt, Sub.put, ctr, sub, Sub.ent, syms]⟩
    · rintro st ⟨p, q, en, hp, hq, hk, hm, hi, hst⟩ K
      rw [List.append_nil] at hp
      subst hp
      rw [hst, ← hi]
      simp -implicitDefEqProofs [st37b, endF, labelsP, labelsA_ok, List.take_of_length_le]
    · rintro x r st ⟨p, q, en, hp, hq, hk, hm, hi, hst⟩ K hK
      have h1 : p.length < l.length := by rw [hp]; simp
      have h2 : l[p.length] = x := by simp [hp]
      have h3 := wrap64 p.length (by omega)
      have hf := fault_rn G N k x 10
      rw [hst]
      by_cases c1 : x.kind = 1
      · have hg := hm x.name
        cases c2 : (hasN x.name sy || hasN x.name q) with
        | true =>
          rw [c2] at hg
          simp only [if_true] at hg
          simp only [labelsP, c1, c2, if_true] at hi
          rw [← hi]
          simp -implicitDefEqProofs [st37b, h1, h2, h3, c1, endF, labelsA_err, lookF_mget, hk, hg, argsIn, subsIn, hf, errA]
        | false =>
          rw [c2] at hg
          simp only [Bool.false_eq_true, if_false] at hg
          simp only [labelsP, c1, c2, if_true, Bool.false_eq_true, if_false] at hi
          obtain ⟨en', u1, u2, u3⟩ := updA_mget en x.name (.v (.bool true)) hk
          have h6 : (q.length + 1) * 33 ≤ 140737488355328 := by omega
          by_cases c3 : p.length < at_.length
          · simp -implicitDefEqProofs [st37b, h1, h2, h3, c1, c3, lookF_mget, hk, hg, u1, setAll, cellAV, h6, List.take_of_length_le]
            refine hK _ ⟨p ++ [x], q ++ [⟨x.name, at_.getD p.length 0, 1⟩], en', by simp [hp], by simp; omega, u2, fun n => by rw [u3, hm, hasN_append]; simp only [hasN]; by_cases e : x.name = n <;> simp [e], by rw [← hi]; simp, ?_⟩
            simp -implicitDefEqProofs [NormD.run, norm, st37b, List.lookup, coSs, coS, syms_snoc, Sy.cells, c3]
          · simp -implicitDefEqProofs [st37b, h1, h2, h3, c1, c3, lookF_mget, hk, hg, u1, setAll, cellAV, h6, List.take_of_length_le]
            refine hK _ ⟨p ++ [x], q ++ [⟨x.name, at_.getD p.length 0, 1⟩], en', by simp [hp], by simp; omega, u2, fun n => by rw [u3, hm, hasN_append]; simp only [hasN]; by_cases e : x.name = n <;> simp [e], by rw [← hi]; simp, ?_⟩
            simp -implicitDefEqProofs [NormD.run, norm, st37b, List.lookup, coSs, coS, syms_snoc, Sy.cells, List.getElem?_eq_none (show at_.length ≤ p.length by omega)]
      · simp only [labelsP, c1, if_false] at hi
        simp -implicitDefEqProofs [st37b, h1, h2, h3, c1]
        refine hK _ ⟨p ++ [x], q, en, by simp [hp], by simp; omega, hk, hm, by rw [← hi]; simp, ?_⟩
        simp -implicitDefEqProofs [NormD.run, norm, st37b, List.lookup, coSs, coS]
  · rintro s r st ⟨p, en, hp, hk, hm, hst⟩ K hK
    have h1 : p.length < sy.length := by rw [hp]; simp
    have h2 : sy[p.length] = s := by simp [hp]
    have h3 := wrap64 p.length (by omega)
    obtain ⟨en', u1, u2, u3⟩ := updA_mget en s.name (.v (.bool true)) hk
    rw [hst]
    simp -implicitDefEqProofs [st37a, h1, h2, h3, u1]
    refine hK _ ⟨p ++ [s], en', by simp [hp], u2, fun n => by rw [u3, hm, hasN_append]; simp only [hasN]; by_cases e : s.name = n <;> simp [e], ?_⟩
    simp -implicitDefEqProofs [NormD.run, norm, st37a, List.lookup]
end Go.Proofs.YtmekfllddifglaaDoor.AM
