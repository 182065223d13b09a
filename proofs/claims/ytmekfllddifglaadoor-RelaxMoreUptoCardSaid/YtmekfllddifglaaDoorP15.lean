/- The relax seat: Ru, Rv, Rx, Ry, Sa. Conditions: none. -/
import Derived.Test.YtmekfllddifglaaDoorP14
set_option linter.unusedVariables false
set_option linter.unusedSimpArgs false
/- The relax seat: goals. Conditions: none. -/
set_option linter.unusedVariables false
set_option linter.unusedSimpArgs false
set_option maxRecDepth 10000
namespace Go.Proofs.YtmekfllddifglaaDoor.AM
open Go
variable (G : Gl) (N : Nats) (k : Nat)
/-- An item that has a target: its place; the label's, or -1; the target's value. -/
structure Gl' where
  at_ : Int
  label : Int
  value : Int
def Gl'.cells (g : Gl') : List AV := [.v (.int .i64 g.at_), .v (.int .i64 g.label), .v (.int .u32 g.value)]
@[simp] theorem Gl'.len (x : Gl') : x.cells.length = 3 := rfl
@[simp] theorem Gl'.c0 (x : Gl') : x.cells[0]? = some (.v (.int .i64 x.at_)) := rfl
@[simp] theorem Gl'.c1 (x : Gl') : x.cells[1]? = some (.v (.int .i64 x.label)) := rfl
@[simp] theorem Gl'.c2 (x : Gl') : x.cells[2]? = some (.v (.int .u32 x.value)) := rfl
@[simp] theorem Gl'.g0 (x : Gl') (h : 0 < x.cells.length) : x.cells[0]'h = .v (.int .i64 x.at_) := rfl
@[simp] theorem Gl'.g1 (x : Gl') (h : 1 < x.cells.length) : x.cells[1]'h = .v (.int .i64 x.label) := rfl
@[simp] theorem Gl'.g2 (x : Gl') (h : 2 < x.cells.length) : x.cells[2]'h = .v (.int .u32 x.value) := rfl
@[simp] theorem Gl'.hd (x : Gl') : x.cells.head? = some (.v (.int .i64 x.at_)) := rfl
@[simp] theorem Gl'.tk (x : Gl') : x.cells.take 3 = x.cells := rfl
@[simp] theorem Gl'.dn (x : Gl') : x.cells.drop 3 = [] := rfl
@[simp] theorem Gl'.st (x : Gl') (d : Nat) (p : List Nat) (off : Nat) (S : Subs) : (settle d p off x.cells).run S = some (x.cells, S) := settle_plain d p _ off S rfl
@[simp] theorem Gl'.pb (x : Gl') (n : Nat) (S : Subs) : mapR (pub (n + 1)) x.cells S = some (x.cells, S) := by simp [Gl'.cells]
@[simp] theorem Gl'.pb3 (x : Gl') (S : Subs) : mapR (pub 3) x.cells S = some (x.cells, S) := Gl'.pb x 2 S
@[simp] theorem Gl'.pb4 (x : Gl') (S : Subs) : mapR (pub 4) x.cells S = some (x.cells, S) := Gl'.pb x 3 S
@[simp] theorem Gl'.pb59 (x : Gl') (S : Subs) : mapR (pub 59) x.cells S = some (x.cells, S) := Gl'.pb x 58 S
@[simp] theorem Gl'.rn (x : Gl') (φ : Ren) : rens φ x.cells = x.cells := rfl
@[simp] theorem Gl'.al (x : Gl') : x.cells.all cellAV = true := rfl
def goalsL (l : List Gl') : List AV := l.map fun s => .agg s.cells
@[simp] theorem goalsL_length (l : List Gl') : (goalsL l).length = l.length := by simp [goalsL]
@[simp] theorem goalsL_get (l : List Gl') (n : Nat) (h : n < (goalsL l).length) : (goalsL l)[n] = .agg (l[n]'(by simpa using h)).cells := by simp [goalsL]
theorem goalsL_snoc (l : List Gl') (s : Gl') : goalsL (l ++ [s]) = goalsL l ++ [.agg s.cells] := by simp [goalsL]
theorem symF_append (n : ByteArray) : ∀ a b : List Sy, symF n (a ++ b) = (symF n a).or (symF n b)
  | [], b => rfl
  | s :: a, b => by
    simp only [List.cons_append, symF, symF_append n a b]
    split <;> simp
/-- The first label of that name, as its item's place. -/
def hereF (n : ByteArray) : Nat → List It → Option Nat
  | _, [] => none
  | i, x :: r => if x.kind = 1 then (if x.name = n then some i else hereF n (i + 1) r) else hereF n (i + 1) r
theorem hereF_append (n : ByteArray) : ∀ (a b : List It) (i : Nat), hereF n i (a ++ b) = (hereF n i a).or (hereF n (i + a.length) b)
  | [], b, i => rfl
  | x :: a, b, i => by
    have e : i + 1 + a.length = i + (a.length + 1) := by omega
    simp only [List.cons_append, hereF, hereF_append n a b, List.length_cons, e]
    split
    · split <;> simp
    · rfl
/-- Of a name: the label's place, or -1; the value. -/
def tgtF (n : ByteArray) (sy : List Sy) (l : List It) : Option (Int × Int) := match symF n sy with
  | some v => some (-1, v)
  | none => (hereF n 0 l).map fun (i : Nat) => ((i : Int), (0 : Int))
def tgtA (r : Option (Int × Int)) : Option AV := r.map fun g => .agg (⟨0, g.1, g.2⟩ : Gl').cells
def goalsP (sy : List Sy) (l0 : List It) : Nat → List It → List Gl' → Except Flt (List Gl')
  | _, [], acc => .ok acc
  | i, x :: r, acc => if x.grows then (match tgtF x.name sy l0 with
      | none => .error (x.line, x.col, 11)
      | some g => goalsP sy l0 (i + 1) r (acc ++ [⟨i, g.1, g.2⟩])) else goalsP sy l0 (i + 1) r acc
def goalsA (r : Except Flt (List Gl')) : AV := match r with
  | .ok l => .tup [.sl l.isEmpty (goalsL l), .v .nilIface]
  | .error f => .tup [.sl true [], errOf f]
theorem goalsA_ok (l : List Gl') : goalsA (.ok l) = .tup [.sl l.isEmpty (goalsL l), .v .nilIface] := rfl
theorem goalsA_err (a b c : Int) : goalsA (.error (a, b, c)) = .tup [.sl true [], errA a b c] := rfl
def st38a (nl ns : Bool) (l : List It) (sy : List Sy) (en : List (Value × AV)) (i : Nat) : St :=
  ⟨[.sl nl (items l), .dead, .dead, .dead, .dead, .dead, .mp 20 [] 1] ++ (List.replicate 14 .dead ++ [.sl ns (syms sy), .v (.int .i64 sy.length), .v (.int .i64 i)] ++ List.replicate 79 .dead),
   List.replicate 20 [] ++ [([], (1, some (.map 120 en)))] :: List.replicate 82 []⟩
def st38b (nl : Bool) (l : List It) (en : List (Value × AV)) (i : Nat) : St :=
  ⟨[.sl nl (items l), .dead, .dead, .dead, .dead, .dead, .mp 20 [] 1] ++ (List.replicate 36 .dead ++ [.sl nl (items l), .v (.int .i64 l.length), .v (.int .i64 i)] ++ List.replicate 57 .dead),
   List.replicate 20 [] ++ [([], (1, some (.map 120 en)))] :: List.replicate 82 []⟩
def st38c (nl : Bool) (l : List It) (q : List Gl') (en : List (Value × AV)) (i : Nat) : St :=
  ⟨[.dead, .dead, .dead, .dead, .dead, .dead, .mp 20 [] 1] ++ (List.replicate 8 .dead ++ [.own 15 [] 1 0 q.length] ++ List.replicate 52 .dead ++ [.sl nl (items l), .v (.int .i64 l.length), .v (.int .i64 i)] ++ List.replicate 32 .dead),
   List.replicate 15 [] ++ [([], (1, some (.arr q.isEmpty false 3 122 (goalsL q))))] :: (List.replicate 4 [] ++ [([], (1, some (.map 120 en)))] :: List.replicate 82 [])⟩
set_option maxHeartbeats 16000000 in
theorem goals_rn (nl ns : Bool) (l : List It) (sy : List Sy) (hl : l.length < 1000000) (hs : sy.length < 1000000) :
    rn (DR G N) (k + 2) 38 [.sl nl (items l), .sl ns (syms sy)] [[], []] = some (goalsA (goalsP sy l 0 l []), [[], []]) := by
  rw [run38]
  simp -implicitDefEqProofs [Tryd.f38, endF, argsIn, subsIn, acode_loop]
  refine aloop_ind (Q := fun r => finF _ _ _ (thenA (blockA r 0) _) = _) (I := fun r st => ∃ p en, sy = p ++ r ∧ strK en ∧ (∀ n, mget en n = tgtA ((symF n p).map fun v => (-1, v))) ∧ i38.hints.nm 0 st = some (st38a nl ns l sy en p.length)) ?_ ?_ sy _ ⟨[], [], rfl, by simp [strK], by simp [symF, mget, tgtA], by simp -implicitDefEqProofs [NormD.run, norm, st38a, List.lookup]⟩
  · rintro st ⟨p, en, hp, hk, hm, hst⟩ K
    rw [List.append_nil] at hp
    subst hp
    rw [hst]
    simp -implicitDefEqProofs [st38a, endF, acode_loop]
    refine aloop_ind (Q := fun r => finF _ _ _ (thenA (blockA r 2) _) = _) (I := fun r st => ∃ p en, l = p ++ r ∧ strK en ∧ (∀ n, mget en n = tgtA (tgtF n sy p)) ∧ i38.hints.nm 2 st = some (st38b nl l en p.length)) ?_ ?_ l _ ⟨[], en, rfl, hk, fun n => by rw [hm]; simp only [tgtF, hereF]; cases symF n sy <;> rfl, by simp -implicitDefEqProofs [NormD.run, norm, st38b, List.lookup]⟩
    · rintro st ⟨p, en, hp, hk, hm, hst⟩ K
      rw [List.append_nil] at hp
      subst hp
      rw [hst]
      simp -implicitDefEqProofs [st38b, endF, acode_loop]
      refine aloop_ind (Q := fun r => finF _ _ _ (thenA (blockA r 4) _) = _) (I := fun r st => ∃ p q, l = p ++ r ∧ q.length ≤ p.length ∧ goalsP sy l p.length r q = goalsP sy l 0 l [] ∧ i38.hints.nm 4 st = some (st38c nl l q en p.length)) ?_ ?_ l _ ⟨[], [], rfl, Nat.le_refl _, rfl, by simp -implicitDefEqProofs [NormD.run, norm, st38c, List.lookup, coSs, coS, setEnt, Sub.put, ctr, sub, Sub.ent, goalsL]⟩
      · rintro st ⟨p, q, hp, hq, hi, hst⟩ K
        rw [List.append_nil] at hp
        subst hp
        rw [hst, ← hi]
        simp -implicitDefEqProofs [st38c, endF, goalsP, goalsA_ok, List.take_of_length_le]
      · rintro x r st ⟨p, q, hp, hq, hi, hst⟩ K hK
        have h1 : p.length < l.length := by rw [hp]; simp
        have h2 : l[p.length] = x := by simp [hp]
        have h3 := wrap64 p.length (by omega)
        have ht := hasTarget_rn G N k x
        rw [hst]
        cases c1 : x.grows with
        | false =>
          rw [c1] at ht
          simp only [goalsP, c1, Bool.false_eq_true, if_false] at hi
          simp -implicitDefEqProofs [st38c, h1, h2, h3, ht, argsIn, subsIn]
          refine hK _ ⟨p ++ [x], q, by simp [hp], by simp; omega, by rw [← hi]; simp, ?_⟩
          simp -implicitDefEqProofs [NormD.run, norm, st38c, List.lookup, coSs, coS]
        | true =>
          rw [c1] at ht
          have hg := hm x.name
          cases c2 : tgtF x.name sy l with
          | none =>
            rw [c2] at hg
            simp only [tgtA, Option.map_none] at hg
            simp only [goalsP, c1, c2, if_true] at hi
            rw [← hi]
            simp -implicitDefEqProofs [st38c, h1, h2, h3, ht, argsIn, subsIn, endF, goalsA_err, lookF_mget, hk, hg, errA, drawD_cons, Susp.at, Susp.keeps, List.lookup]
          | some g =>
            obtain ⟨lb, v⟩ := g
            rw [c2] at hg
            simp only [tgtA, Option.map_some, Gl'.cells] at hg
            simp only [goalsP, c1, c2, if_true] at hi
            have h6 : (q.length + 1) * 25 ≤ 140737488355328 := by omega
            simp -implicitDefEqProofs [st38c, h1, h2, h3, ht, argsIn, subsIn, lookF_mget, hk, hg, setAll, cellAV, h6, List.take_of_length_le]
            refine hK _ ⟨p ++ [x], q ++ [⟨p.length, lb, v⟩], by simp [hp], by simp; omega, by rw [← hi]; simp, ?_⟩
            simp -implicitDefEqProofs [NormD.run, norm, st38c, List.lookup, coSs, coS, goalsL_snoc, Gl'.cells]
    · rintro x r st ⟨p, en, hp, hk, hm, hst⟩ K hK
      have h1 : p.length < l.length := by rw [hp]; simp
      have h2 : l[p.length] = x := by simp [hp]
      have h3 := wrap64 p.length (by omega)
      have hg := hm x.name
      rw [hst]
      by_cases c1 : x.kind = 1
      · cases c2 : tgtF x.name sy p with
        | some g =>
          rw [c2] at hg
          simp only [tgtA, Option.map_some] at hg
          simp -implicitDefEqProofs [st38b, h1, h2, h3, c1, lookF_mget, hk, hg]
          refine hK _ ⟨p ++ [x], en, by simp [hp], hk, fun n => ?_, ?_⟩
          · rw [hm]
            congr 1
            simp only [tgtF] at c2 ⊢
            cases hsn : symF n sy with
            | some v => rfl
            | none =>
              simp only [hereF_append, hereF, c1, if_true]
              by_cases e : x.name = n
              · subst e
                rw [hsn] at c2
                simp only [] at c2
                cases hh : hereF x.name 0 p with
                | none => rw [hh] at c2; cases c2
                | some j => rfl
              · simp [e]
          · simp -implicitDefEqProofs [NormD.run, norm, st38b, List.lookup]
        | none =>
          rw [c2] at hg
          simp only [tgtA, Option.map_none] at hg
          obtain ⟨en', u1, u2, u3⟩ := updA_mget en x.name (.agg (⟨0, p.length, 0⟩ : Gl').cells) hk
          simp only [Gl'.cells] at u1
          simp -implicitDefEqProofs [st38b, h1, h2, h3, c1, lookF_mget, hk, hg, u1]
          refine hK _ ⟨p ++ [x], en', by simp [hp], u2, fun n => ?_, ?_⟩
          · rw [u3, hm]
            simp only [tgtF] at c2 ⊢
            by_cases e : x.name = n
            · subst e
              cases hsn : symF x.name sy with
              | some v => rw [hsn] at c2; cases c2
              | none =>
                rw [hsn] at c2
                simp only [Option.map_eq_none_iff] at c2
                have e2 : hereF x.name 0 (p ++ [x]) = some p.length := by rw [hereF_append, c2]; simp [hereF, c1]
                simp [e2, tgtA]
            · cases hsn : symF n sy with
              | some v => simp [e]
              | none => simp [hereF_append, hereF, c1, e]
          · simp -implicitDefEqProofs [NormD.run, norm, st38b, List.lookup]
      · simp -implicitDefEqProofs [st38b, h1, h2, h3, c1]
        refine hK _ ⟨p ++ [x], en, by simp [hp], hk, fun n => ?_, ?_⟩
        · rw [hm]
          simp only [tgtF]
          cases symF n sy with
          | some v => rfl
          | none => simp [hereF_append, hereF, c1]
        · simp -implicitDefEqProofs [NormD.run, norm, st38b, List.lookup]
  · rintro s r st ⟨p, en, hp, hk, hm, hst⟩ K hK
    have h1 : p.length < sy.length := by rw [hp]; simp
    have h2 : sy[p.length] = s := by simp [hp]
    have h3 := wrap64 p.length (by omega)
    have hg := hm s.name
    rw [hst]
    cases c2 : symF s.name p with
    | some v =>
      rw [c2] at hg
      simp only [tgtA, Option.map_some] at hg
      simp -implicitDefEqProofs [st38a, h1, h2, h3, lookF_mget, hk, hg]
      refine hK _ ⟨p ++ [s], en, by simp [hp], hk, fun n => ?_, ?_⟩
      · rw [hm, symF_append]
        cases hsn : symF n p with
        | some v => rfl
        | none =>
          simp only [symF, sameN_eq]
          by_cases e : s.name = n
          · subst e; rw [hsn] at c2; cases c2
          · simp [e]
      · simp -implicitDefEqProofs [NormD.run, norm, st38a, List.lookup]
    | none =>
      rw [c2] at hg
      simp only [tgtA, Option.map_none] at hg
      obtain ⟨en', u1, u2, u3⟩ := updA_mget en s.name (.agg (⟨0, -1, s.val⟩ : Gl').cells) hk
      simp only [Gl'.cells] at u1
      simp -implicitDefEqProofs [st38a, h1, h2, h3, lookF_mget, hk, hg, u1]
      refine hK _ ⟨p ++ [s], en', by simp [hp], u2, fun n => ?_, ?_⟩
      · rw [u3, hm, symF_append]
        by_cases e : s.name = n
        · subst e; simp [c2, symF, sameN_eq, tgtA]
        · simp [symF, sameN_eq, e]
      · simp -implicitDefEqProofs [NormD.run, norm, st38a, List.lookup]
end Go.Proofs.YtmekfllddifglaaDoor.AM

/- The relax seat: a pass's growing. Conditions: none. -/
set_option linter.unusedVariables false
set_option linter.unusedSimpArgs false
set_option maxRecDepth 10000
namespace Go.Proofs.YtmekfllddifglaaDoor.AM
open Go
variable (G : Gl) (N : Nats) (k : Nat)
def farP (g : Gl') (at_ : List Int) : Int := IntKind.wrap .i32 (IntKind.wrap .u32 ((if 0 ≤ g.label then at_.getD g.label.toNat 0 else g.value) - at_.getD g.at_.toNat 0))
/-- One goal. -/
def grow1 (l : List It) (at_ : List Int) (g : Gl') (sz : List Int) : Option Int := match l[g.at_.toNat]? with
  | none => none
  | some i => if reachesP i (sz.getD g.at_.toNat 0) (farP g at_) then none else if (nextP i (sz.getD g.at_.toNat 0)).2 then some (nextP i (sz.getD g.at_.toNat 0)).1 else none
def growP (l : List It) (at_ : List Int) : List Gl' → List Int → Bool → List Int × Bool
  | [], sz, more => (sz, more)
  | g :: r, sz, more => match grow1 l at_ g sz with
    | none => growP l at_ r sz more
    | some n => growP l at_ r (sz.set g.at_.toNat n) true
/-- A goal that is what it says. -/
def GoOk (l : List It) (at_ : List Int) (g : Gl') : Prop := (∃ a : Nat, g.at_ = a ∧ a < l.length) ∧ (g.label = -1 ∨ ∃ b : Nat, g.label = b ∧ b < l.length)
def layC (ni ns : Bool) (l : List It) (sy : List Sy) (base : Int) (n : Nat) (gs : AV) : List AV := [.sl ni (items l), .sl ns (syms sy), .v (.int .u32 base), .own 0 [3] 0 0 n, gs]
/-- The items that are being laid out, as they are lent. -/
def layS (ni ns nz : Bool) (l : List It) (sy : List Sy) (base : Int) (sz : List Int) (gs : AV) : Sub := [([3], (0, some (.arr nz false 1 3 (ints sz)))), ([], (0, some (.box false (layC ni ns l sy base sz.length gs))))]
def st39 (ni ns nz ng na : Bool) (l : List It) (sy : List Sy) (base : Int) (gs : List Gl') (at_ : List Int) (sz : List Int) (more : Bool) (i : Nat) : St :=
  ⟨[.loc 0 [] 0 0, .sl na (words at_), .dead, .dead, .dead, .v (.bool more)] ++ (List.replicate 10 .dead ++ [.sl ng (goalsL gs), .v (.int .i64 gs.length), .v (.int .i64 i)] ++ List.replicate 57 .dead), layS ni ns nz l sy base sz (.sl ng (goalsL gs)) :: List.replicate 75 []⟩
@[simp] theorem cells_plain (x : It) : x.cells.all plainAV = true := by simp [It.cells, plainAV]
set_option maxHeartbeats 6000000 in
theorem grow_rn (ni ns nz ng na : Bool) (l : List It) (sy : List Sy) (base : Int) (gs : List Gl') (at_ : List Int) (sz : List Int) (hg : gs.length < 1000000) (hgo : ∀ g ∈ gs, GoOk l at_ g) (ha : at_.length = l.length + 1) (hz : sz.length = l.length) :
    rn (DR G N) (k + 9) 39 [.loc 0 [] 0 0, .sl na (words at_)] [layS ni ns nz l sy base sz (.sl ng (goalsL gs)), []] = some (.v (.bool (growP l at_ gs sz false).2), [layS ni ns nz l sy base (growP l at_ gs sz false).1 (.sl ng (goalsL gs)), []]) := by
  rw [run39]
  simp -implicitDefEqProofs [Tryd.f39, endF, argsIn, subsIn, acode_loop, layS, layC]
  refine aloop_ind (Q := fun r => finF _ _ _ (thenA (blockA r 0) _) = _) (I := fun r st => ∃ p z m, gs = p ++ r ∧ z.length = l.length ∧ growP l at_ r z m = growP l at_ gs sz false ∧ i39.hints.nm 0 st = some (st39 ni ns nz ng na l sy base gs at_ z m p.length)) ?_ ?_ gs _ ⟨[], sz, false, rfl, hz, rfl, by simp -implicitDefEqProofs [NormD.run, norm, st39, layS, layC, List.lookup]⟩
  · rintro st ⟨p, z, m, hp, hzl, hi, hst⟩ K
    rw [List.append_nil] at hp
    subst hp
    rw [hst, ← hi]
    simp -implicitDefEqProofs [st39, layS, layC, endF, growP]
  · rintro g r st ⟨p, z, m, hp, hzl, hi, hst⟩ K hK
    have h1 : p.length < gs.length := by rw [hp]; simp
    have h2 : gs[p.length] = g := by simp [hp]
    have h3 := wrap64 p.length (by omega)
    obtain ⟨⟨a, ga, hal⟩, hlb⟩ := hgo g (by rw [hp]; simp)
    obtain ⟨x, hx⟩ : ∃ x, l[a] = x := ⟨_, rfl⟩
    have hx' : l[a]? = some x := by rw [← hx]; simp [hal]
    have h4 : a < at_.length := by omega
    have h5 : a < z.length := by omega
    have hz5 : a < (ints z).length := by simpa using h5
    have hn := next_rn G N k x z[a]
    have hr := reaches_rn G N k x z[a] (farP g at_)
    have e1 : z.getD a 0 = z[a] := by simp [h5]
    simp only [growP, grow1, ga, Int.toNat_natCast, hx', e1] at hi
    rw [hst]
    rcases hlb with hb | ⟨b, hb, hbl⟩
    · have ef : farP g at_ = IntKind.wrap .i32 (IntKind.wrap .u32 (g.value - at_[a])) := by simp [farP, hb, ga, h4]
      rw [ef] at hr hi
      cases c1 : reachesP x z[a] (IntKind.wrap .i32 (IntKind.wrap .u32 (g.value - at_[a]))) with
      | true =>
        rw [c1] at hr
        simp only [c1, if_true] at hi
        simp -implicitDefEqProofs [st39, layS, layC, h1, h2, h3, h4, h5, ga, hal, hx, hb, hr, drawD_cons, drawD_nil, Susp.at, Susp.keeps, List.lookup, FP.offB, fpC_store, argsIn, subsIn]
        refine hK _ ⟨p ++ [g], z, m, by simp [hp], hzl, hi, ?_⟩
        simp -implicitDefEqProofs [NormD.run, norm, st39, layS, layC, List.lookup]
      | false =>
        rw [c1] at hr
        cases c2 : (nextP x z[a]).2 with
        | true =>
          rw [c2] at hn
          simp only [c1, c2, Bool.false_eq_true, if_false, if_true] at hi
          simp -implicitDefEqProofs [st39, layS, layC, h1, h2, h3, h4, h5, ga, hal, hx, hb, hr, hn, drawD_cons, drawD_nil, Susp.at, Susp.keeps, List.lookup, FP.offB, fpC_store, argsIn, subsIn, setEl, cellAV]
          refine hK _ ⟨p ++ [g], z.set a (nextP x z[a]).1, true, by simp [hp], by simpa using hzl, hi, ?_⟩
          simp -implicitDefEqProofs [NormD.run, norm, st39, layS, layC, List.lookup, ints, List.map_set]
        | false =>
          rw [c2] at hn
          simp only [c1, c2, Bool.false_eq_true, if_false] at hi
          simp -implicitDefEqProofs [st39, layS, layC, h1, h2, h3, h4, h5, ga, hal, hx, hb, hr, hn, drawD_cons, drawD_nil, Susp.at, Susp.keeps, List.lookup, FP.offB, fpC_store, argsIn, subsIn]
          refine hK _ ⟨p ++ [g], z, m, by simp [hp], hzl, hi, ?_⟩
          simp -implicitDefEqProofs [NormD.run, norm, st39, layS, layC, List.lookup]
    · have hbl' : b < at_.length := by omega
      have ef : farP g at_ = IntKind.wrap .i32 (IntKind.wrap .u32 (at_[b] - at_[a])) := by simp [farP, hb, ga, h4, hbl']
      rw [ef] at hr hi
      cases c1 : reachesP x z[a] (IntKind.wrap .i32 (IntKind.wrap .u32 (at_[b] - at_[a]))) with
      | true =>
        rw [c1] at hr
        simp only [c1, if_true] at hi
        simp -implicitDefEqProofs [st39, layS, layC, h1, h2, h3, h4, h5, ga, hal, hx, hb, hbl', hr, drawD_cons, drawD_nil, Susp.at, Susp.keeps, List.lookup, FP.offB, fpC_store, argsIn, subsIn]
        refine hK _ ⟨p ++ [g], z, m, by simp [hp], hzl, hi, ?_⟩
        simp -implicitDefEqProofs [NormD.run, norm, st39, layS, layC, List.lookup]
      | false =>
        rw [c1] at hr
        cases c2 : (nextP x z[a]).2 with
        | true =>
          rw [c2] at hn
          simp only [c1, c2, Bool.false_eq_true, if_false, if_true] at hi
          simp -implicitDefEqProofs [st39, layS, layC, h1, h2, h3, h4, h5, ga, hal, hx, hb, hbl', hr, hn, drawD_cons, drawD_nil, Susp.at, Susp.keeps, List.lookup, FP.offB, fpC_store, argsIn, subsIn, setEl, cellAV]
          refine hK _ ⟨p ++ [g], z.set a (nextP x z[a]).1, true, by simp [hp], by simpa using hzl, hi, ?_⟩
          simp -implicitDefEqProofs [NormD.run, norm, st39, layS, layC, List.lookup, ints, List.map_set]
        | false =>
          rw [c2] at hn
          simp only [c1, c2, Bool.false_eq_true, if_false] at hi
          simp -implicitDefEqProofs [st39, layS, layC, h1, h2, h3, h4, h5, ga, hal, hx, hb, hbl', hr, hn, drawD_cons, drawD_nil, Susp.at, Susp.keeps, List.lookup, FP.offB, fpC_store, argsIn, subsIn]
          refine hK _ ⟨p ++ [g], z, m, by simp [hp], hzl, hi, ?_⟩
          simp -implicitDefEqProofs [NormD.run, norm, st39, layS, layC, List.lookup]
end Go.Proofs.YtmekfllddifglaaDoor.AM

/- The relax seat: where the program says that items lie. Conditions: none. -/
set_option linter.unusedVariables false
set_option linter.unusedSimpArgs false
set_option maxRecDepth 10000
namespace Go.Proofs.YtmekfllddifglaaDoor.AM
open Go
variable (G : Gl) (N : Nats) (k : Nat)
@[simp] theorem inl50_58 : i50.inlT Tryd.prog 58 = some (⟨44, susL []⟩, Tryd.f58, bodyOf Tryd.f58) := rfl
theorem inl50_51 : i50.inlT Tryd.prog 51 = none := rfl
theorem inl50_74 : i50.inlT Tryd.prog 74 = none := rfl
theorem inl50_75 : i50.inlT Tryd.prog 75 = none := rfl
theorem inl50_24 : i50.inlT Tryd.prog 24 = none := rfl
@[simp] theorem plain_nilS : plainAV (.v (.slice none 0 0)) = true := rfl
@[simp] theorem plain_nilI : plainAV (.v .nilIface) = true := rfl
@[simp] theorem plain_ifc (t : TypeId) (x : AV) : plainAV (.ifc t x) = true := rfl
/-- What the natives answer. -/
structure Nats.Ok (N : Nats) : Prop where
  asOk : ∀ (G : Gl) (k : Nat) (fc : List AV) (x : AV), rn (DR G N) (k + 1) 24 [.ifc 67 (.ref fc), .ifc 69 (.loc 1 [] 0 0)] [[], [([], (0, some (.box false [x])))]] = some (.v (.bool true), [[], [([], (0, some (.box false [.ref fc])))]])
/-- Where the next one lies, as the program reckons; or a code. -/
def stepQ (x : It) (size at_ base : Int) : Except Int Int :=
  if x.instr = true ∧ ¬ at_.tmod 2 = 0 then .error 16
  else match bytesP x size at_ base with
    | none => .error 12
    | some n => if 65536 < IntKind.wrap .u64 (IntKind.wrap .u64 (at_ + n) - base) ∨ 4294967295 < IntKind.wrap .u64 (at_ + n) then .error 12 else .ok (IntKind.wrap .u64 (at_ + n))
def placeQ (base : Int) (sz : List Int) : Nat → List It → Int → Except Flt (List Int)
  | _, [], _ => .ok []
  | i, x :: r, at_ => match stepQ x (sz.getD i 0) at_ base with
    | .error c => .error (x.line, x.col, c)
    | .ok e => (placeQ base sz (i + 1) r e).map (IntKind.wrap .u32 e :: ·)
theorem placeQ_err {base : Int} {sz : List Int} {i : Nat} {x : It} {r : List It} {at_ c : Int} (h : stepQ x (sz.getD i 0) at_ base = .error c) : placeQ base sz i (x :: r) at_ = .error (x.line, x.col, c) := by simp only [placeQ, h]
theorem placeQ_ok {base : Int} {sz : List Int} {i : Nat} {x : It} {r : List It} {at_ e : Int} (h : stepQ x (sz.getD i 0) at_ base = .ok e) : placeQ base sz i (x :: r) at_ = (placeQ base sz (i + 1) r e).map (IntKind.wrap .u32 e :: ·) := by simp only [placeQ, h]
def placeB (base : Int) (r : Except Flt (List Int)) : AV := match r with
  | .ok l => .tup [.sl false (words (base :: l)), .v .nilIface]
  | .error f => .tup [.sl true [], errA f.1 f.2.1 f.2.2]
theorem placeB_err (base : Int) (f : Flt) : placeB base (.error f) = .tup [.sl true [], errA f.1 f.2.1 f.2.2] := rfl
theorem placeB_ok (base : Int) (l : List Int) : placeB base (.ok l) = .tup [.sl false (words (base :: l)), .v .nilIface] := rfl
/-- What the frame remembers of the list before it first grew. -/
def s16 (n : Nat) : AV := match n with | 0 => .own 8 [0] 1 0 1 | _ => .dead
def s18 (n : Nat) : AV := match n with | 0 => .elt 8 [0] 1 0 0 | _ => .dead
@[simp] theorem s16_0 : s16 0 = .own 8 [0] 1 0 1 := rfl
@[simp] theorem s18_0 : s18 0 = .elt 8 [0] 1 0 0 := rfl
@[simp] theorem s16_1 (n : Nat) : s16 (n + 1) = .dead := rfl
@[simp] theorem s18_1 (n : Nat) : s18 (n + 1) = .dead := rfl
theorem ren_s16 {φ : Ren} (h : φ 8 [0] 1 = none) (n : Nat) : ren φ (s16 n) = .dead := by cases n <;> simp [h]
theorem ren_s18 {φ : Ren} (h : φ 8 [0] 1 = none) (n : Nat) : ren φ (s18 n) = .dead := by cases n <;> simp [h]
noncomputable def fr50 (nl : Bool) (l : List It) (sizes : List Int) (base : Int) (n : Nat) : List AV :=
  [.sl nl (items l), .own 1 [] 0 0 sizes.length, .v (.int .u32 base), .dead, .dead, .dead, .loc 6 [] 1 0, .loc 7 [] 1 0, .loc 8 [] 1 0, .dead, .dead, .dead, .sl nl (items l), .v (.int .i64 l.length), .v (.int .i64 (l.length + 1 : Nat)), .dead, s16 n, .v (.int .u32 base), s18 n, .sl nl (items l), .own 1 [] 0 0 sizes.length, .v (.int .u32 base), .clo 73 [] [.loc 49 [] 1 0, .loc 47 [] 1 0, .loc 48 [] 1 0]] ++ List.replicate 20 .dead
noncomputable def st73 (nl nz : Bool) (l : List It) (sizes : List Int) (base at_ : Int) (out : List Int) (i : Nat) : St :=
  ⟨[.yld 43 [] 1, .loc 49 [] 1 0, .loc 47 [] 1 0, .loc 48 [] 1 0, .dead, .v (.int .u64 at_)] ++ List.replicate 8 .dead ++ [.sl nl (items l), .v (.int .i64 l.length), .v (.int .i64 i)] ++ List.replicate 66 .dead,
   [[], [([], (0, some (.arr nz false 1 3 (ints sizes))))], [], [], [], [], [([], (1, some (.box false [.v (.slice none 0 0)])))], [([], (1, some (.box false [.v .nilIface])))], [([], (1, some (.box false [.own 8 [0] 1 0 out.length]))), ([0], (1, some (.arr false false 1 24 (words out))))]] ++ List.replicate 34 [] ++
   [[([], (1, some (.loop .ready none (fr50 nl l sizes base i) lc50)))], [], [], [], [([], (1, some (.box false [.sl nl (items l)])))], [([], (1, some (.box false [.own 1 [] 0 0 sizes.length])))], [([], (1, some (.box false [.v (.int .u32 base)])))]] ++ List.replicate 85 []⟩
set_option maxHeartbeats 8000000 in
theorem place_rn (ok : N.Ok) (nl nz : Bool) (l : List It) (sizes : List Int) (base : Int) (hl : l.length < 1000000) (hsz : sizes.length < 4611686018427387904) (hb0 : 0 ≤ base) (hb1 : base < 4294967296) :
    rn (DR G N) (k + 12) 50 [.sl nl (items l), .own 1 [] 0 0 sizes.length, .v (.int .u32 base)] [[], [([], (0, some (.arr nz false 1 3 (ints sizes))))], []] = some (placeB base (placeQ base sizes 0 l base), [[], [([], (0, some (.arr nz false 1 3 (ints sizes))))], []]) := by
  rw [run50]
  have h3 := wrap64 l.length (by omega)
  have hb : (l.length + 1) * 5 ≤ 140737488355328 := by omega
  have h0 : (1 : Int) ≤ (l.length : Int) + 1 := by omega
  have hw : IntKind.wrap .u64 base = base := by simp [IntKind.wrap, IntKind.bits, IntKind.signed]; omega
  simp -implicitDefEqProofs [Tryd.f50, Tryd.f58, endF, argsIn, subsIn, h0, h3, hb, callI_yes (h := inl50_58), aInl_run, setAll, cellAV, setEl]
  rw [range_run (d := rg50) (fn := Tryd.f73) (first := []) (caps := [.loc 49 [] 1 0, .loc 47 [] 1 0, .loc 48 [] 1 0]) (by simp [rgs50]) Tryd.func73 _ (by simp [rg50]) (by simp [rg50]) (by simp [rg50])]
  simp -implicitDefEqProofs [rg50, Tryd.f73, endF, argsIn, subsIn, acode_loop, hw]
  refine aloop_ind (Q := fun r => finF _ _ _ (thenA (blockA (outR _ (blockA r 0)) 0) _) = _) (I := fun r st => ∃ p at_ acc, l = p ++ r ∧ acc.length = p.length ∧ (placeQ base sizes p.length r at_).map (fun es => acc ++ es) = placeQ base sizes 0 l base ∧ nmY 43 [(0, ⟨[0, 1, 2, 3, 5, 14, 15, 16], [1, 6, 7, 8, 43, 47, 48, 49], [], []⟩)] 0 st = some (st73 nl nz l sizes base at_ (base :: acc) p.length)) ?_ ?_ l _ ⟨[], base, [], rfl, rfl, by simp, ?_⟩
  · rintro st ⟨p, at_, acc, hp, hq, hi, hst⟩ K
    rw [List.append_nil] at hp
    subst hp
    rw [hst, ← hi]
    simp -implicitDefEqProofs [st73, fr50, endF, placeQ, placeB_ok, List.take_of_length_le, jumpAX, endR_run (s := .ready) (j := none) (sl := fr50 nl l sizes base l.length) (c := lc50)]
  · rintro x r st ⟨p, at_, acc, hp, hq, hi, hst⟩ K hK
    have h1 : p.length < l.length := by rw [hp]; simp
    have h2 : l[p.length] = x := by simp [hp]
    have h5 := wrap64 p.length (by omega)
    have hbb : (p.length + 1 + 1) * 5 ≤ 140737488355328 := by rw [hp] at hl; simp at hl; omega
    have hI := instruction_rn G N (k + 10) x
    have hf16 := fault_rn G N (k + 10) x 16
    have hf12 := fault_rn G N (k + 10) x 12
    have asR : ∀ fc x, rn (DR G N) (k + 11) 24 [.ifc 67 (.ref fc), .ifc 69 (.loc 1 [] 0 0)] [[], [([], (0, some (.box false [x])))]] = some (.v (.bool true), [[], [([], (0, some (.box false [.ref fc])))]]) := ok.asOk G (k + 10)
    have hby := bytes_rn G N (k + 3) x (sizes.getD p.length 0) at_ base
    rw [hst]
    have goodS : ∀ (c1 : x.instr = false ∨ at_.tmod 2 = 0) (n : Int), bytesP x (sizes.getD p.length 0) at_ base = some n → ¬ 65536 < IntKind.wrap .u64 (IntKind.wrap .u64 (at_ + n) - base) → ¬ 4294967295 < IntKind.wrap .u64 (at_ + n) → stepQ x (sizes.getD p.length 0) at_ base = .ok (IntKind.wrap .u64 (at_ + n)) := by
      intro c1 n b1 b2 b3
      rcases c1 with c1 | c1 <;> simp only [stepQ, c1, b1, b2, b3, Bool.false_eq_true, not_true, false_and, and_false, if_false, or_self]
    have bad1 : ∀ (c1 : x.instr = false ∨ at_.tmod 2 = 0), bytesP x (sizes.getD p.length 0) at_ base = none → stepQ x (sizes.getD p.length 0) at_ base = .error 12 := by
      intro c1 b1
      rcases c1 with c1 | c1 <;> simp only [stepQ, c1, b1, Bool.false_eq_true, not_true, false_and, and_false, if_false]
    have bad2 : ∀ (c1 : x.instr = false ∨ at_.tmod 2 = 0) (n : Int), bytesP x (sizes.getD p.length 0) at_ base = some n → (65536 < IntKind.wrap .u64 (IntKind.wrap .u64 (at_ + n) - base) ∨ 4294967295 < IntKind.wrap .u64 (at_ + n)) → stepQ x (sizes.getD p.length 0) at_ base = .error 12 := by
      intro c1 n b1 b2
      rcases c1 with c1 | c1 <;> simp only [stepQ, c1, b1, b2, Bool.false_eq_true, not_true, false_and, and_false, if_false, if_true]
    cases c1 : x.instr with
    | true =>
      rw [c1] at hI
      by_cases c2 : at_.tmod 2 = 0
      · by_cases c4 : p.length < sizes.length
        · have e4 : sizes.getD p.length 0 = sizes[p.length] := by simp [c4]
          have c4' : p.length < (ints sizes).length := by simpa using c4
          cases b1 : bytesP x (sizes.getD p.length 0) at_ base with
          | none =>
            rw [b1, e4] at hby
            rw [← hi, placeQ_err (c := 12) (bad1 (.inr c2) b1)]
            simp -implicitDefEqProofs [st73, fr50, h1, h2, h5, hw, hq, hbb, callI_no (h := inl50_51), callI_no (h := inl50_74), callI_no (h := inl50_75), hI, endF, argsIn, subsIn, yield_run (sl := fr50 nl l sizes base p.length), turnL_run (sl := fr50 nl l sizes base p.length), acode_lcA, acode_lcB, lcAU, lcBU, Tryd.f50, rangeIn, putPs, setAll, cellAV, c1, c2, c4, hby, bytesA', hf12, hf16, callI_no (h := inl50_24), asR, susL, subIn, subOut, keyIn, φin, φout, who, strip, live, drawD_cons, drawD_nil, Susp.at, Susp.keeps, List.lookup, FP.offB, fpC_store, jumpAX, endR_run (s := .done) (j := some .ret) (sl := fr50 nl l sizes base p.length) (c := lc50), placeB_err, errA]
          | some n =>
            rw [b1, e4] at hby
            by_cases b2 : 65536 < IntKind.wrap .u64 (IntKind.wrap .u64 (at_ + n) - base)
            · skip
              rw [← hi, placeQ_err (c := 12) (bad2 (.inr c2) n b1 (.inl b2))]
              simp -implicitDefEqProofs [st73, fr50, h1, h2, h5, hw, hq, hbb, callI_no (h := inl50_51), callI_no (h := inl50_74), callI_no (h := inl50_75), hI, endF, argsIn, subsIn, yield_run (sl := fr50 nl l sizes base p.length), turnL_run (sl := fr50 nl l sizes base p.length), acode_lcA, acode_lcB, lcAU, lcBU, Tryd.f50, rangeIn, putPs, setAll, cellAV, c1, c2, c4, hby, bytesA', b2, hf12, hf16, callI_no (h := inl50_24), asR, susL, subIn, subOut, keyIn, φin, φout, who, strip, live, drawD_cons, drawD_nil, Susp.at, Susp.keeps, List.lookup, FP.offB, fpC_store, jumpAX, endR_run (s := .done) (j := some .ret) (sl := fr50 nl l sizes base p.length) (c := lc50), placeB_err, errA]
            · by_cases b3 : 4294967295 < IntKind.wrap .u64 (at_ + n)
              · skip
                rw [← hi, placeQ_err (c := 12) (bad2 (.inr c2) n b1 (.inr b3))]
                simp -implicitDefEqProofs [st73, fr50, h1, h2, h5, hw, hq, hbb, callI_no (h := inl50_51), callI_no (h := inl50_74), callI_no (h := inl50_75), hI, endF, argsIn, subsIn, yield_run (sl := fr50 nl l sizes base p.length), turnL_run (sl := fr50 nl l sizes base p.length), acode_lcA, acode_lcB, lcAU, lcBU, Tryd.f50, rangeIn, putPs, setAll, cellAV, c1, c2, c4, hby, bytesA', b2, b3, hf12, hf16, callI_no (h := inl50_24), asR, susL, subIn, subOut, keyIn, φin, φout, who, strip, live, drawD_cons, drawD_nil, Susp.at, Susp.keeps, List.lookup, FP.offB, fpC_store, jumpAX, endR_run (s := .done) (j := some .ret) (sl := fr50 nl l sizes base p.length) (c := lc50), placeB_err, errA]
              · simp -implicitDefEqProofs [st73, fr50, h1, h2, h5, hw, hq, hbb, callI_no (h := inl50_51), callI_no (h := inl50_74), callI_no (h := inl50_75), hI, endF, argsIn, subsIn, yield_run (sl := fr50 nl l sizes base p.length), turnL_run (sl := fr50 nl l sizes base p.length), acode_lcA, acode_lcB, lcAU, lcBU, Tryd.f50, rangeIn, putPs, setAll, cellAV, c1, c2, c4, hby, bytesA', b2, b3, List.take_of_length_le]
                refine hK _ ⟨p ++ [x], IntKind.wrap .u64 (at_ + n), acc ++ [IntKind.wrap .u32 (IntKind.wrap .u64 (at_ + n))], by simp [hp], by simp [hq], by rw [← hi, placeQ_ok (goodS (.inr c2) n b1 b2 b3)]; simp, ?_⟩
                simp -implicitDefEqProofs [nmY, norm, NormD.run, NormD.keeps, live, st73, fr50, List.lookup, words, hq, ren_s16, ren_s18]
        · have e4 : sizes.getD p.length 0 = 0 := by simp [List.getElem?_eq_none (show sizes.length ≤ p.length by omega)]
          cases b1 : bytesP x (sizes.getD p.length 0) at_ base with
          | none =>
            rw [b1, e4] at hby
            rw [← hi, placeQ_err (c := 12) (bad1 (.inr c2) b1)]
            simp -implicitDefEqProofs [st73, fr50, h1, h2, h5, hw, hq, hbb, callI_no (h := inl50_51), callI_no (h := inl50_74), callI_no (h := inl50_75), hI, endF, argsIn, subsIn, yield_run (sl := fr50 nl l sizes base p.length), turnL_run (sl := fr50 nl l sizes base p.length), acode_lcA, acode_lcB, lcAU, lcBU, Tryd.f50, rangeIn, putPs, setAll, cellAV, c1, c2, c4, hby, bytesA', hf12, hf16, callI_no (h := inl50_24), asR, susL, subIn, subOut, keyIn, φin, φout, who, strip, live, drawD_cons, drawD_nil, Susp.at, Susp.keeps, List.lookup, FP.offB, fpC_store, jumpAX, endR_run (s := .done) (j := some .ret) (sl := fr50 nl l sizes base p.length) (c := lc50), placeB_err, errA]
          | some n =>
            rw [b1, e4] at hby
            by_cases b2 : 65536 < IntKind.wrap .u64 (IntKind.wrap .u64 (at_ + n) - base)
            · skip
              rw [← hi, placeQ_err (c := 12) (bad2 (.inr c2) n b1 (.inl b2))]
              simp -implicitDefEqProofs [st73, fr50, h1, h2, h5, hw, hq, hbb, callI_no (h := inl50_51), callI_no (h := inl50_74), callI_no (h := inl50_75), hI, endF, argsIn, subsIn, yield_run (sl := fr50 nl l sizes base p.length), turnL_run (sl := fr50 nl l sizes base p.length), acode_lcA, acode_lcB, lcAU, lcBU, Tryd.f50, rangeIn, putPs, setAll, cellAV, c1, c2, c4, hby, bytesA', b2, hf12, hf16, callI_no (h := inl50_24), asR, susL, subIn, subOut, keyIn, φin, φout, who, strip, live, drawD_cons, drawD_nil, Susp.at, Susp.keeps, List.lookup, FP.offB, fpC_store, jumpAX, endR_run (s := .done) (j := some .ret) (sl := fr50 nl l sizes base p.length) (c := lc50), placeB_err, errA]
            · by_cases b3 : 4294967295 < IntKind.wrap .u64 (at_ + n)
              · skip
                rw [← hi, placeQ_err (c := 12) (bad2 (.inr c2) n b1 (.inr b3))]
                simp -implicitDefEqProofs [st73, fr50, h1, h2, h5, hw, hq, hbb, callI_no (h := inl50_51), callI_no (h := inl50_74), callI_no (h := inl50_75), hI, endF, argsIn, subsIn, yield_run (sl := fr50 nl l sizes base p.length), turnL_run (sl := fr50 nl l sizes base p.length), acode_lcA, acode_lcB, lcAU, lcBU, Tryd.f50, rangeIn, putPs, setAll, cellAV, c1, c2, c4, hby, bytesA', b2, b3, hf12, hf16, callI_no (h := inl50_24), asR, susL, subIn, subOut, keyIn, φin, φout, who, strip, live, drawD_cons, drawD_nil, Susp.at, Susp.keeps, List.lookup, FP.offB, fpC_store, jumpAX, endR_run (s := .done) (j := some .ret) (sl := fr50 nl l sizes base p.length) (c := lc50), placeB_err, errA]
              · simp -implicitDefEqProofs [st73, fr50, h1, h2, h5, hw, hq, hbb, callI_no (h := inl50_51), callI_no (h := inl50_74), callI_no (h := inl50_75), hI, endF, argsIn, subsIn, yield_run (sl := fr50 nl l sizes base p.length), turnL_run (sl := fr50 nl l sizes base p.length), acode_lcA, acode_lcB, lcAU, lcBU, Tryd.f50, rangeIn, putPs, setAll, cellAV, c1, c2, c4, hby, bytesA', b2, b3, List.take_of_length_le]
                refine hK _ ⟨p ++ [x], IntKind.wrap .u64 (at_ + n), acc ++ [IntKind.wrap .u32 (IntKind.wrap .u64 (at_ + n))], by simp [hp], by simp [hq], by rw [← hi, placeQ_ok (goodS (.inr c2) n b1 b2 b3)]; simp, ?_⟩
                simp -implicitDefEqProofs [nmY, norm, NormD.run, NormD.keeps, live, st73, fr50, List.lookup, words, hq, ren_s16, ren_s18]
      · skip
        rw [← hi, placeQ_err (c := 16) (by simp only [stepQ, c1, c2, not_false_eq_true, and_self, if_true])]
        simp -implicitDefEqProofs [st73, fr50, h1, h2, h5, hw, hq, hbb, callI_no (h := inl50_51), callI_no (h := inl50_74), callI_no (h := inl50_75), hI, endF, argsIn, subsIn, yield_run (sl := fr50 nl l sizes base p.length), turnL_run (sl := fr50 nl l sizes base p.length), acode_lcA, acode_lcB, lcAU, lcBU, Tryd.f50, rangeIn, putPs, setAll, cellAV, c1, c2, hf12, hf16, callI_no (h := inl50_24), asR, susL, subIn, subOut, keyIn, φin, φout, who, strip, live, drawD_cons, drawD_nil, Susp.at, Susp.keeps, List.lookup, FP.offB, fpC_store, jumpAX, endR_run (s := .done) (j := some .ret) (sl := fr50 nl l sizes base p.length) (c := lc50), placeB_err, errA]
    | false =>
      rw [c1] at hI
      by_cases c4 : p.length < sizes.length
      · have e4 : sizes.getD p.length 0 = sizes[p.length] := by simp [c4]
        have c4' : p.length < (ints sizes).length := by simpa using c4
        cases b1 : bytesP x (sizes.getD p.length 0) at_ base with
        | none =>
          rw [b1, e4] at hby
          rw [← hi, placeQ_err (c := 12) (bad1 (.inl c1) b1)]
          simp -implicitDefEqProofs [st73, fr50, h1, h2, h5, hw, hq, hbb, callI_no (h := inl50_51), callI_no (h := inl50_74), callI_no (h := inl50_75), hI, endF, argsIn, subsIn, yield_run (sl := fr50 nl l sizes base p.length), turnL_run (sl := fr50 nl l sizes base p.length), acode_lcA, acode_lcB, lcAU, lcBU, Tryd.f50, rangeIn, putPs, setAll, cellAV, c1, c4, hby, bytesA', hf12, hf16, callI_no (h := inl50_24), asR, susL, subIn, subOut, keyIn, φin, φout, who, strip, live, drawD_cons, drawD_nil, Susp.at, Susp.keeps, List.lookup, FP.offB, fpC_store, jumpAX, endR_run (s := .done) (j := some .ret) (sl := fr50 nl l sizes base p.length) (c := lc50), placeB_err, errA]
        | some n =>
          rw [b1, e4] at hby
          by_cases b2 : 65536 < IntKind.wrap .u64 (IntKind.wrap .u64 (at_ + n) - base)
          · skip
            rw [← hi, placeQ_err (c := 12) (bad2 (.inl c1) n b1 (.inl b2))]
            simp -implicitDefEqProofs [st73, fr50, h1, h2, h5, hw, hq, hbb, callI_no (h := inl50_51), callI_no (h := inl50_74), callI_no (h := inl50_75), hI, endF, argsIn, subsIn, yield_run (sl := fr50 nl l sizes base p.length), turnL_run (sl := fr50 nl l sizes base p.length), acode_lcA, acode_lcB, lcAU, lcBU, Tryd.f50, rangeIn, putPs, setAll, cellAV, c1, c4, hby, bytesA', b2, hf12, hf16, callI_no (h := inl50_24), asR, susL, subIn, subOut, keyIn, φin, φout, who, strip, live, drawD_cons, drawD_nil, Susp.at, Susp.keeps, List.lookup, FP.offB, fpC_store, jumpAX, endR_run (s := .done) (j := some .ret) (sl := fr50 nl l sizes base p.length) (c := lc50), placeB_err, errA]
          · by_cases b3 : 4294967295 < IntKind.wrap .u64 (at_ + n)
            · skip
              rw [← hi, placeQ_err (c := 12) (bad2 (.inl c1) n b1 (.inr b3))]
              simp -implicitDefEqProofs [st73, fr50, h1, h2, h5, hw, hq, hbb, callI_no (h := inl50_51), callI_no (h := inl50_74), callI_no (h := inl50_75), hI, endF, argsIn, subsIn, yield_run (sl := fr50 nl l sizes base p.length), turnL_run (sl := fr50 nl l sizes base p.length), acode_lcA, acode_lcB, lcAU, lcBU, Tryd.f50, rangeIn, putPs, setAll, cellAV, c1, c4, hby, bytesA', b2, b3, hf12, hf16, callI_no (h := inl50_24), asR, susL, subIn, subOut, keyIn, φin, φout, who, strip, live, drawD_cons, drawD_nil, Susp.at, Susp.keeps, List.lookup, FP.offB, fpC_store, jumpAX, endR_run (s := .done) (j := some .ret) (sl := fr50 nl l sizes base p.length) (c := lc50), placeB_err, errA]
            · simp -implicitDefEqProofs [st73, fr50, h1, h2, h5, hw, hq, hbb, callI_no (h := inl50_51), callI_no (h := inl50_74), callI_no (h := inl50_75), hI, endF, argsIn, subsIn, yield_run (sl := fr50 nl l sizes base p.length), turnL_run (sl := fr50 nl l sizes base p.length), acode_lcA, acode_lcB, lcAU, lcBU, Tryd.f50, rangeIn, putPs, setAll, cellAV, c1, c4, hby, bytesA', b2, b3, List.take_of_length_le]
              refine hK _ ⟨p ++ [x], IntKind.wrap .u64 (at_ + n), acc ++ [IntKind.wrap .u32 (IntKind.wrap .u64 (at_ + n))], by simp [hp], by simp [hq], by rw [← hi, placeQ_ok (goodS (.inl c1) n b1 b2 b3)]; simp, ?_⟩
              simp -implicitDefEqProofs [nmY, norm, NormD.run, NormD.keeps, live, st73, fr50, List.lookup, words, hq, ren_s16, ren_s18]
      · have e4 : sizes.getD p.length 0 = 0 := by simp [List.getElem?_eq_none (show sizes.length ≤ p.length by omega)]
        cases b1 : bytesP x (sizes.getD p.length 0) at_ base with
        | none =>
          rw [b1, e4] at hby
          rw [← hi, placeQ_err (c := 12) (bad1 (.inl c1) b1)]
          simp -implicitDefEqProofs [st73, fr50, h1, h2, h5, hw, hq, hbb, callI_no (h := inl50_51), callI_no (h := inl50_74), callI_no (h := inl50_75), hI, endF, argsIn, subsIn, yield_run (sl := fr50 nl l sizes base p.length), turnL_run (sl := fr50 nl l sizes base p.length), acode_lcA, acode_lcB, lcAU, lcBU, Tryd.f50, rangeIn, putPs, setAll, cellAV, c1, c4, hby, bytesA', hf12, hf16, callI_no (h := inl50_24), asR, susL, subIn, subOut, keyIn, φin, φout, who, strip, live, drawD_cons, drawD_nil, Susp.at, Susp.keeps, List.lookup, FP.offB, fpC_store, jumpAX, endR_run (s := .done) (j := some .ret) (sl := fr50 nl l sizes base p.length) (c := lc50), placeB_err, errA]
        | some n =>
          rw [b1, e4] at hby
          by_cases b2 : 65536 < IntKind.wrap .u64 (IntKind.wrap .u64 (at_ + n) - base)
          · skip
            rw [← hi, placeQ_err (c := 12) (bad2 (.inl c1) n b1 (.inl b2))]
            simp -implicitDefEqProofs [st73, fr50, h1, h2, h5, hw, hq, hbb, callI_no (h := inl50_51), callI_no (h := inl50_74), callI_no (h := inl50_75), hI, endF, argsIn, subsIn, yield_run (sl := fr50 nl l sizes base p.length), turnL_run (sl := fr50 nl l sizes base p.length), acode_lcA, acode_lcB, lcAU, lcBU, Tryd.f50, rangeIn, putPs, setAll, cellAV, c1, c4, hby, bytesA', b2, hf12, hf16, callI_no (h := inl50_24), asR, susL, subIn, subOut, keyIn, φin, φout, who, strip, live, drawD_cons, drawD_nil, Susp.at, Susp.keeps, List.lookup, FP.offB, fpC_store, jumpAX, endR_run (s := .done) (j := some .ret) (sl := fr50 nl l sizes base p.length) (c := lc50), placeB_err, errA]
          · by_cases b3 : 4294967295 < IntKind.wrap .u64 (at_ + n)
            · skip
              rw [← hi, placeQ_err (c := 12) (bad2 (.inl c1) n b1 (.inr b3))]
              simp -implicitDefEqProofs [st73, fr50, h1, h2, h5, hw, hq, hbb, callI_no (h := inl50_51), callI_no (h := inl50_74), callI_no (h := inl50_75), hI, endF, argsIn, subsIn, yield_run (sl := fr50 nl l sizes base p.length), turnL_run (sl := fr50 nl l sizes base p.length), acode_lcA, acode_lcB, lcAU, lcBU, Tryd.f50, rangeIn, putPs, setAll, cellAV, c1, c4, hby, bytesA', b2, b3, hf12, hf16, callI_no (h := inl50_24), asR, susL, subIn, subOut, keyIn, φin, φout, who, strip, live, drawD_cons, drawD_nil, Susp.at, Susp.keeps, List.lookup, FP.offB, fpC_store, jumpAX, endR_run (s := .done) (j := some .ret) (sl := fr50 nl l sizes base p.length) (c := lc50), placeB_err, errA]
            · simp -implicitDefEqProofs [st73, fr50, h1, h2, h5, hw, hq, hbb, callI_no (h := inl50_51), callI_no (h := inl50_74), callI_no (h := inl50_75), hI, endF, argsIn, subsIn, yield_run (sl := fr50 nl l sizes base p.length), turnL_run (sl := fr50 nl l sizes base p.length), acode_lcA, acode_lcB, lcAU, lcBU, Tryd.f50, rangeIn, putPs, setAll, cellAV, c1, c4, hby, bytesA', b2, b3, List.take_of_length_le]
              refine hK _ ⟨p ++ [x], IntKind.wrap .u64 (at_ + n), acc ++ [IntKind.wrap .u32 (IntKind.wrap .u64 (at_ + n))], by simp [hp], by simp [hq], by rw [← hi, placeQ_ok (goodS (.inl c1) n b1 b2 b3)]; simp, ?_⟩
              simp -implicitDefEqProofs [nmY, norm, NormD.run, NormD.keeps, live, st73, fr50, List.lookup, words, hq, ren_s16, ren_s18]
  · simp -implicitDefEqProofs [nmY, norm, NormD.run, NormD.keeps, live, st73, fr50, List.lookup, words]
end Go.Proofs.YtmekfllddifglaaDoor.AM

/- The relax seat: the passes. Conditions: none. -/
set_option linter.unusedVariables false
set_option linter.unusedSimpArgs false
set_option maxRecDepth 10000
namespace Go.Proofs.YtmekfllddifglaaDoor.AM
open Go
variable (G : Gl) (N : Nats) (k : Nat)
@[simp] theorem inl23_36 : i23.inlT Tryd.prog 36 = some (⟨95, susL []⟩, Tryd.f36, bodyOf Tryd.f36) := rfl
theorem inl23_37 : i23.inlT Tryd.prog 37 = none := rfl
theorem inl23_38 : i23.inlT Tryd.prog 38 = none := rfl
theorem inl23_39 : i23.inlT Tryd.prog 39 = none := rfl
theorem inl23_50 : i23.inlT Tryd.prog 50 = none := rfl
structure Lay where
  sz : List Int
  at_ : List Int
  labs : List Sy
  n : Nat
def endP (l : List It) (sy : List Sy) (at_ sz : List Int) (n : Nat) : Except Flt Lay := (labelsP at_ sy 0 l []).map fun labs => ⟨sz, at_, labs, n⟩
/-- The passes: no more than so many; the sizes, the goals (none ahead of the first), the passes that were. -/
def layP (l : List It) (sy : List Sy) (base : Int) : Nat → List Int → Option (List Gl') → Nat → Option (Except Flt Lay)
  | 0, _, _, _ => none
  | m + 1, sz, gs, n => match placeQ base sz 0 l base with
    | .error f => some (.error f)
    | .ok es => match gs with
      | some g => if (growP l (base :: es) g sz false).2 then layP l sy base m (growP l (base :: es) g sz false).1 (some g) (n + 1) else some (endP l sy (base :: es) (growP l (base :: es) g sz false).1 (n + 1))
      | none => match labelsP (base :: es) sy 0 l [] with
        | .error f => some (.error f)
        | .ok _ => match goalsP sy l 0 l [] with
          | .error f => some (.error f)
          | .ok g => if (growP l (base :: es) g sz false).2 then layP l sy base m (growP l (base :: es) g sz false).1 (some g) (n + 1) else some (endP l sy (base :: es) (growP l (base :: es) g sz false).1 (n + 1))
noncomputable def fr23 : List AV := [.loc 0 [] 0 0, .loc 1 [] 1 0, .loc 2 [] 1 0, .loc 3 [] 1 0, .loc 4 [] 1 0, .dead, .dead, .dead, .dead, .dead, .dead, .loc 0 [] 0 0, .clo 49 [] [.loc 96 [] 1 0]] ++ List.replicate 81 .dead
noncomputable def st49 (ni ns nz : Bool) (l : List It) (sy : List Sy) (base : Int) (sz : List Int) (gs at_ : AV) (n : Nat) : St :=
  ⟨[.yld 94 [] 1, .loc 96 [] 1 0] ++ List.replicate 19 .dead,
   [layS ni ns nz l sy base sz gs, [([], (1, some (.box false [.loc 0 [] 0 0])))], [([], (1, some (.box false [.v (.slice none 0 0), .v (.slice none 0 0), .v (.slice none 0 0), .v (.int .i64 0)])))], [([], (1, some (.box false [.v .nilIface])))], [([], (1, some (.box false [.v (.slice none 0 0), at_, .v (.slice none 0 0), .v (.int .i64 n)])))]] ++ List.replicate 89 [] ++
   [[([], (1, some (.loop .ready none fr23 lc23)))], [], [([], (1, some (.box false [.loc 0 [] 0 0])))]] ++ List.replicate 23 []⟩
theorem fpC_callI {P : Program} {T : Tbl} {inl : InlT} {g : FuncId} (hi : inl g = none) (sl : List AV) (S : Subs) (dst : Option Tmp) (ty : TypeId) (pos : String) (af : Array Edge) (gd : Option (Nat × Bool)) (args : Array Operand) (ats : Array TypeId) (h : (args.toList.map (opd G sl)).all flatA = true) :
    fpC G (carryI P G T inl) ⟨dst, .call ⟨.value (.func g), args, ats⟩, ty, pos, af, gd⟩ ⟨sl, S⟩ = ([], []) := by
  have h1 := fpC_callF G P T sl S dst ty pos af gd (.func g) args ats (by simpa using h)
  unfold fpC at h1 ⊢
  simpa only [carryI, opd_func, hi] using h1
theorem wone : IntKind.wrap .i64 1 = 1 := by decide
theorem growP_len (l : List It) (at_ : List Int) : ∀ (gs : List Gl') (sz : List Int) (m : Bool), (growP l at_ gs sz m).1.length = sz.length
  | [], sz, m => rfl
  | g :: r, sz, m => by
    simp only [growP]
    split
    · exact growP_len l at_ r sz m
    · rw [growP_len l at_ r]; simp
theorem hereF_lt (n : ByteArray) : ∀ (l : List It) (i j : Nat), hereF n i l = some j → j < i + l.length
  | [], i, j, h => by simp [hereF] at h
  | x :: r, i, j, h => by
    simp only [hereF] at h
    split at h
    · split at h
      · cases h; simp
      · have := hereF_lt n r (i + 1) j h
        simp; omega
    · have := hereF_lt n r (i + 1) j h
      simp; omega
/-- What the goals are. -/
theorem goalsP_ok (sy : List Sy) (l0 : List It) (at_ : List Int) : ∀ (r : List It) (i : Nat) (acc g : List Gl'), goalsP sy l0 i r acc = .ok g → i + r.length = l0.length → (∀ x ∈ acc, GoOk l0 at_ x) → (∀ x ∈ g, GoOk l0 at_ x) ∧ g.length ≤ acc.length + r.length
  | [], i, acc, g, h, hl, ha => by simp only [goalsP] at h; cases h; exact ⟨ha, by simp⟩
  | x :: r, i, acc, g, h, hl, ha => by
    simp only [goalsP] at h
    simp only [List.length_cons] at hl
    split at h
    · split at h
      · cases h
      · rename_i q hq
        have hk : GoOk l0 at_ ⟨i, q.1, q.2⟩ := by
          refine ⟨⟨i, rfl, by omega⟩, ?_⟩
          unfold tgtF at hq
          split at hq
          · cases hq; exact .inl rfl
          · cases hh : hereF x.name 0 l0 with
            | none => rw [hh] at hq; cases hq
            | some j =>
              rw [hh] at hq
              cases hq
              have := hereF_lt x.name l0 0 j hh
              exact .inr ⟨j, rfl, by omega⟩
        have := goalsP_ok sy l0 at_ r (i + 1) _ g h (by omega) (by
          intro y hy
          rcases List.mem_append.1 hy with hy | hy
          · exact ha y hy
          · cases List.mem_singleton.1 hy; exact hk)
        refine ⟨this.1, ?_⟩
        have h2 := this.2
        simp at h2 ⊢
        omega
    · have := goalsP_ok sy l0 at_ r (i + 1) acc g h (by omega) ha
      refine ⟨this.1, ?_⟩
      have h2 := this.2
      simp at h2 ⊢
      omega
theorem placeQ_len {base : Int} {sz : List Int} : ∀ {i : Nat} {l : List It} {at_ : Int} {es : List Int}, placeQ base sz i l at_ = .ok es → es.length = l.length
  | _, [], _, _, h => by simp only [placeQ] at h; cases h; rfl
  | i, x :: r, at_, es, h => by
    simp only [placeQ] at h
    split at h
    · cases h
    · rename_i e he
      cases hr : placeQ base sz (i + 1) r e with
      | error g => rw [hr] at h; cases h
      | ok g => rw [hr] at h; cases h; simp [placeQ_len hr]
def gsA (g : Option (List Gl')) : AV := match g with
  | none => .v (.slice none 0 0)
  | some g => .sl g.isEmpty (goalsL g)
def atA (n : Nat) (at_ : List Int) : AV := match n with
  | 0 => .v (.slice none 0 0)
  | _ => .sl false (words at_)
def layA (nz : Bool) (r : Except Flt Lay) : AV := match r with
  | .ok y => .tup [.agg [.sl nz (ints y.sz), .sl false (words y.at_), .sl y.labs.isEmpty (syms y.labs), .v (.int .i64 y.n)], .v .nilIface]
  | .error f => .tup [.agg [.sl true [], .sl true [], .sl true [], .v (.int .i64 0)], errA f.1 f.2.1 f.2.2]
set_option maxHeartbeats 16000000 in
theorem layout_rn (ok : N.Ok) (ni ns nz : Bool) (l : List It) (sizes : List Int) (sy : List Sy) (base : Int) (hl : l.length < 1000000) (hs : sy.length < 1000000) (hsz : sizes.length = l.length) (hb0 : 0 ≤ base) (hb1 : base < 4294967296) (m : Nat) (hm4 : m ≤ 4000000) (res : Except Flt Lay) (hm : layP l sy base m sizes none 0 = some res) :
    ∃ S0, rn (DR G N) (k + 15) 23 [.loc 0 [] 0 0] [layS ni ns nz l sy base sizes (.v (.slice none 0 0))] = some (layA nz res, [S0]) := by
  rw [run23]
  simp -implicitDefEqProofs [Tryd.f23, Tryd.f36, layS, layC, endF, argsIn, subsIn, callI_yes (h := inl23_36), aInl_run, setAll, cellAV, setEl]
  rw [range_run (d := rg23) (fn := Tryd.f49) (first := []) (caps := [.loc 96 [] 1 0]) (by simp [rgs23]) Tryd.func49 _ (by simp [rg23]) (by simp [rg23]) (by simp [rg23])]
  simp -implicitDefEqProofs [rg23, Tryd.f49, endF, argsIn, subsIn, acode_loop]
  refine aloop_nat (Q := fun r => ∃ S0, finF _ _ _ (thenA (blockA (outR _ (blockA r 0)) 0) _) = some (_, [S0])) (I := fun m st => ∃ sz gs at_ n, sz.length = l.length ∧ layP l sy base m sz gs n = some res ∧ (n = 0 ↔ gs = none) ∧ n + m ≤ 4000000 ∧ (∀ g, gs = some g → g.length < 1000000 ∧ ∀ x ∈ g, GoOk l [] x) ∧ nmY 94 [(0, ⟨[0, 1], [0, 1, 2, 3, 4, 94, 96], [], []⟩)] 0 st = some (st49 ni ns nz l sy base sz (gsA gs) (atA n at_) n)) ?_ m _ ⟨sizes, none, [], 0, hsz, hm, by simp, by omega, by simp, ?_⟩
  · rintro m st ⟨sz, gs, at_, n, hzl, hm, hgn, hn4, hgg, hst⟩ K hK
    have hp := place_rn G N (k + 2) ok ni nz l sz base hl (by omega) hb0 hb1
    rw [hst]
    cases m with
    | zero => simp [layP] at hm
    | succ m =>
    cases hP : placeQ base sz 0 l base with
    | error f =>
      simp only [layP, hP, Option.some.injEq] at hm
      rw [hP] at hp
      rw [← hm]
      simp -implicitDefEqProofs [layA, st49, fr23, layS, layC, susL, jumpAX, endR_run (s := .done) (j := some .ret) (sl := fr23) (c := lc23), drawD_cons, Susp.at, Susp.keeps, List.lookup, FP.offB, fpC_store, hp, placeB_err, errA, argsIn, subsIn, subIn, subOut, keyIn, φin, φout, who, strip, live, drawD_nil, endF, yield_run (sl := fr23), turnL_run (sl := fr23), acode_lcA, acode_lcB, lcAU, lcBU, Tryd.f23, rangeIn, putPs, setAll, cellAV]
    | ok es =>
      rw [hP] at hp
      have hel := placeQ_len hP
      cases gs with
      | none =>
        have hn0 : n = 0 := hgn.2 rfl
        subst hn0
        have hlb := labels_rn G N (k + 12) ni false ns l (base :: es) sy hl (by simp; omega) hs
        cases hL : labelsP (base :: es) sy 0 l [] with
        | error f =>
          obtain ⟨fa, fb, fc⟩ := f
          simp only [layP, hP, hL, Option.some.injEq] at hm
          rw [hL, labelsA_err] at hlb
          rw [← hm]
          simp -implicitDefEqProofs [gsA, atA, st49, fr23, layS, layC, susL, jumpAX, drawD_cons, Susp.at, Susp.keeps, List.lookup, FP.offB, fpC_store, hp, placeB_ok, argsIn, subsIn, subIn, subOut, keyIn, φin, φout, who, strip, live, drawD_nil, endF, yield_run (sl := fr23), turnL_run (sl := fr23), acode_lcA, acode_lcB, lcAU, lcBU, Tryd.f23, rangeIn, putPs, setAll, cellAV, List.take_of_length_le, wone, fpC_callI G (T := tbl (DR G N) (k + 14)) inl23_38, callI_no (h := inl23_37), callI_no (h := inl23_38), callI_no (h := inl23_39), layA, errA, hlb, endR_run (s := .done) (j := some .ret) (sl := fr23) (c := lc23)]
        | ok labs =>
          rw [hL, labelsA_ok] at hlb
          have hgl := goals_rn G N (k + 12) ni ns l sy hl hs
          cases hG : goalsP sy l 0 l [] with
          | error f =>
            obtain ⟨fa, fb, fc⟩ := f
            simp only [layP, hP, hL, hG, Option.some.injEq] at hm
            rw [hG, goalsA_err] at hgl
            rw [← hm]
            simp -implicitDefEqProofs [gsA, atA, st49, fr23, layS, layC, susL, jumpAX, drawD_cons, Susp.at, Susp.keeps, List.lookup, FP.offB, fpC_store, hp, placeB_ok, argsIn, subsIn, subIn, subOut, keyIn, φin, φout, who, strip, live, drawD_nil, endF, yield_run (sl := fr23), turnL_run (sl := fr23), acode_lcA, acode_lcB, lcAU, lcBU, Tryd.f23, rangeIn, putPs, setAll, cellAV, List.take_of_length_le, wone, fpC_callI G (T := tbl (DR G N) (k + 14)) inl23_38, callI_no (h := inl23_37), callI_no (h := inl23_38), callI_no (h := inl23_39), layA, errA, hlb, hgl, endR_run (s := .done) (j := some .ret) (sl := fr23) (c := lc23)]
          | ok g =>
            rw [hG, goalsA_ok] at hgl
            have hgo := goalsP_ok sy l [] l 0 [] g hG (by simp) (by simp)
            have hg1 : g.length < 1000000 := by have := hgo.2; simp at this; omega
            have hg2 := hgo.1
            have hgr := grow_rn G N (k + 5) ni ns nz g.isEmpty false l sy base g (base :: es) sz hg1 hg2 (by simp [hel]) hzl
            simp only [layP, hP, hL, hG] at hm
            cases hmo : (growP l (base :: es) g sz false).2 with
            | true =>
              rw [hmo] at hgr
              simp only [hmo, if_true] at hm
              simp only [layS, layC] at hgr
              simp -implicitDefEqProofs [gsA, atA, st49, fr23, layS, layC, susL, jumpAX, drawD_cons, Susp.at, Susp.keeps, List.lookup, FP.offB, fpC_store, hp, placeB_ok, argsIn, subsIn, subIn, subOut, keyIn, φin, φout, who, strip, live, drawD_nil, endF, yield_run (sl := fr23), turnL_run (sl := fr23), acode_lcA, acode_lcB, lcAU, lcBU, Tryd.f23, rangeIn, putPs, setAll, cellAV, List.take_of_length_le, wone, fpC_callI G (T := tbl (DR G N) (k + 14)) inl23_38, callI_no (h := inl23_37), callI_no (h := inl23_38), callI_no (h := inl23_39), hlb, hgl, hgr]
              refine hK m _ (Nat.lt_succ_self m) ⟨(growP l (base :: es) g sz false).1, some g, base :: es, 1, by rw [growP_len, hzl], hm, by simp, by omega, fun g' e => by cases e; exact ⟨hg1, hg2⟩, ?_⟩
              simp -implicitDefEqProofs [gsA, atA, nmY, norm, NormD.run, NormD.keeps, live, st49, fr23, layS, layC, List.lookup]
            | false =>
              rw [hmo] at hgr
              simp only [hmo, endP, hL, Bool.false_eq_true, if_false, map_ok, Option.some.injEq] at hm
              simp only [layS, layC] at hgr
              rw [← hm]
              simp -implicitDefEqProofs [gsA, atA, st49, fr23, layS, layC, susL, jumpAX, drawD_cons, Susp.at, Susp.keeps, List.lookup, FP.offB, fpC_store, hp, placeB_ok, argsIn, subsIn, subIn, subOut, keyIn, φin, φout, who, strip, live, drawD_nil, endF, yield_run (sl := fr23), turnL_run (sl := fr23), acode_lcA, acode_lcB, lcAU, lcBU, Tryd.f23, rangeIn, putPs, setAll, cellAV, List.take_of_length_le, wone, fpC_callI G (T := tbl (DR G N) (k + 14)) inl23_38, callI_no (h := inl23_37), callI_no (h := inl23_38), callI_no (h := inl23_39), layA, hlb, hgl, hgr, endR_run (s := .done) (j := some (.exit 0)) (sl := fr23) (c := lc23)]
      | some g =>
        obtain ⟨hg1, hg2⟩ := hgg g rfl
        have hgr := grow_rn G N (k + 5) ni ns nz g.isEmpty false l sy base g (base :: es) sz hg1 hg2 (by simp [hel]) hzl
        simp only [layP, hP] at hm
        obtain ⟨n', rfl⟩ : ∃ n', n = n' + 1 := by
          cases n with
          | zero => exact absurd (hgn.1 rfl) (by simp)
          | succ n' => exact ⟨n', rfl⟩
        have hw : IntKind.wrap .i64 ((n' : Int) + 1 + 1) = (n' : Int) + 1 + 1 := by have := wrap64 (n' + 1) (by omega); simpa using this
        have h8 : ¬ (n' : Int) + 1 + 1 = 1 := by omega
        cases hmo : (growP l (base :: es) g sz false).2 with
        | true =>
          rw [hmo] at hgr
          simp only [hmo, if_true] at hm
          simp only [layS, layC] at hgr
          simp -implicitDefEqProofs [gsA, atA, st49, fr23, layS, layC, susL, jumpAX, drawD_cons, Susp.at, Susp.keeps, List.lookup, FP.offB, fpC_store, hp, placeB_ok, argsIn, subsIn, subIn, subOut, keyIn, φin, φout, who, strip, live, drawD_nil, endF, yield_run (sl := fr23), turnL_run (sl := fr23), acode_lcA, acode_lcB, lcAU, lcBU, Tryd.f23, rangeIn, putPs, setAll, cellAV, List.take_of_length_le, wone, fpC_callI G (T := tbl (DR G N) (k + 14)) inl23_38, callI_no (h := inl23_37), callI_no (h := inl23_38), callI_no (h := inl23_39), hgr, hw, h8]
          refine hK m _ (Nat.lt_succ_self m) ⟨(growP l (base :: es) g sz false).1, some g, base :: es, n' + 1 + 1, by rw [growP_len, hzl], hm, by simp, by omega, fun g' e => by cases e; exact ⟨hg1, hg2⟩, ?_⟩
          simp -implicitDefEqProofs [gsA, atA, nmY, norm, NormD.run, NormD.keeps, live, st49, fr23, layS, layC, List.lookup]
        | false =>
          rw [hmo] at hgr
          simp only [layS, layC] at hgr
          have hlb := labels_rn G N (k + 12) ni false ns l (base :: es) sy hl (by simp; omega) hs
          cases hL : labelsP (base :: es) sy 0 l [] with
          | error f =>
            obtain ⟨fa, fb, fc⟩ := f
            rw [hL, labelsA_err] at hlb
            simp only [hmo, endP, hL, Bool.false_eq_true, if_false, map_err, Option.some.injEq] at hm
            rw [← hm]
            simp -implicitDefEqProofs [gsA, atA, st49, fr23, layS, layC, susL, jumpAX, drawD_cons, Susp.at, Susp.keeps, List.lookup, FP.offB, fpC_store, hp, placeB_ok, argsIn, subsIn, subIn, subOut, keyIn, φin, φout, who, strip, live, drawD_nil, endF, yield_run (sl := fr23), turnL_run (sl := fr23), acode_lcA, acode_lcB, lcAU, lcBU, Tryd.f23, rangeIn, putPs, setAll, cellAV, List.take_of_length_le, wone, fpC_callI G (T := tbl (DR G N) (k + 14)) inl23_38, callI_no (h := inl23_37), callI_no (h := inl23_38), callI_no (h := inl23_39), layA, errA, hlb, hgr, hw, h8, endR_run (s := .done) (j := some (.exit 0)) (sl := fr23) (c := lc23)]
          | ok labs =>
            rw [hL, labelsA_ok] at hlb
            simp only [hmo, endP, hL, Bool.false_eq_true, if_false, map_ok, Option.some.injEq] at hm
            rw [← hm]
            simp -implicitDefEqProofs [gsA, atA, st49, fr23, layS, layC, susL, jumpAX, drawD_cons, Susp.at, Susp.keeps, List.lookup, FP.offB, fpC_store, hp, placeB_ok, argsIn, subsIn, subIn, subOut, keyIn, φin, φout, who, strip, live, drawD_nil, endF, yield_run (sl := fr23), turnL_run (sl := fr23), acode_lcA, acode_lcB, lcAU, lcBU, Tryd.f23, rangeIn, putPs, setAll, cellAV, List.take_of_length_le, wone, fpC_callI G (T := tbl (DR G N) (k + 14)) inl23_38, callI_no (h := inl23_37), callI_no (h := inl23_38), callI_no (h := inl23_39), layA, hlb, hgr, hw, h8, endR_run (s := .done) (j := some (.exit 0)) (sl := fr23) (c := lc23)]
  · simp -implicitDefEqProofs [gsA, atA, nmY, norm, NormD.run, NormD.keeps, live, st49, fr23, layS, layC, List.lookup]
end Go.Proofs.YtmekfllddifglaaDoor.AM

/- The relax seat: Relax. Conditions: none. -/
set_option linter.unusedVariables false
set_option linter.unusedSimpArgs false
set_option maxRecDepth 10000
namespace Go.Proofs.YtmekfllddifglaaDoor.AM
open Go
variable (G : Gl) (N : Nats) (k : Nat)
/-- The first sizes. -/
def szP : Nat → List It → List Int → List Int
  | _, [], sz => sz
  | i, x :: r, sz => szP (i + 1) r (if x.grows then sz.set i ((classesP x).headD 0) else sz)
theorem szP_len : ∀ (i : Nat) (l : List It) (sz : List Int), (szP i l sz).length = sz.length
  | _, [], _ => rfl
  | i, x :: r, sz => by rw [szP, szP_len]; split <;> simp
@[simp] theorem cells_flat (x : It) : x.cells.all flat = true := by simp [It.cells]
@[simp] theorem plain_int (k : IntKind) (n : Int) : plainAV (.v (.int k n)) = true := rfl
def st9 (ni ns : Bool) (l : List It) (sy : List Sy) (base : Int) (sz : List Int) (i : Nat) : St :=
  ⟨[.dead, .dead, .dead, .dead, .dead, .dead, .loc 6 [] 1 0, .v .nilIface, .loc 21 [] 1 0] ++ List.replicate 13 .dead ++ [.sl ni (items l), .v (.int .i64 l.length), .v (.int .i64 i)] ++ List.replicate 33 .dead,
   List.replicate 6 [] ++ [([], (1, some (.box false [.v (.slice none 0 0), .v (.slice none 0 0), .v (.slice none 0 0), .v (.int .i64 0)])))] :: List.replicate 14 [] ++ [([3], (1, some (.arr false false 1 3 (ints sz)))), ([], (1, some (.box false [.sl ni (items l), .sl ns (syms sy), .v (.int .u32 base), .own 21 [3] 1 0 sz.length, .v (.slice none 0 0)])))] :: List.replicate 36 []⟩
set_option maxHeartbeats 4000000 in
theorem relax_rn (ok : N.Ok) (ni ns : Bool) (l : List It) (sy : List Sy) (base : Int) (hl : l.length < 1000000) (hs : sy.length < 1000000) (hb0 : 0 ≤ base) (hb1 : base < 4294967296) (m : Nat) (hm4 : m ≤ 4000000) (res : Except Flt Lay) (hm : layP l sy base m (szP 0 l (List.replicate l.length 0)) none 0 = some res) :
    rn (DR G N) (k + 16) 9 [.sl ni (items l), .sl ns (syms sy), .v (.int .u32 base)] [[], [], []] = some (layA false res, [[], [], []]) := by
  rw [run9]
  have hb : l.length * 9 ≤ 140737488355328 := by omega
  have h0 : (0 : Int) ≤ (l.length : Int) := by omega
  simp -implicitDefEqProofs [Tryd.f9, endF, argsIn, subsIn, acode_loop, hb, h0]
  refine aloop_ind (Q := fun r => finF _ _ _ (thenA (blockA r 0) _) = _) (I := fun r st => ∃ p z, l = p ++ r ∧ z.length = l.length ∧ szP p.length r z = szP 0 l (List.replicate l.length 0) ∧ i9.hints.nm 0 st = some (st9 ni ns l sy base z p.length)) ?_ ?_ l _ ⟨[], List.replicate l.length 0, rfl, by simp, rfl, by simp -implicitDefEqProofs [NormD.run, norm, st9, List.lookup, ints]⟩
  · rintro st ⟨p, z, hp, hz, hi, hst⟩ K
    rw [List.append_nil] at hp
    subst hp
    simp only [szP] at hi
    rw [← hi] at hm
    obtain ⟨S0, hS⟩ := layout_rn G N k ok ni ns false l z sy base hl hs hz hb0 hb1 m hm4 res hm
    simp only [layS, layC] at hS
    rw [hst]
    cases res with
    | ok y =>
      simp only [layA] at hS
      simp -implicitDefEqProofs [st9, endF, argsIn, subsIn, subIn, keyIn, φin, who, strip, live, hS, layA]
    | error f =>
      have asR : ∀ fc x, rn (DR G N) (k + 15) 24 [.ifc 67 (.ref fc), .ifc 69 (.loc 1 [] 0 0)] [[], [([], (0, some (.box false [x])))]] = some (.v (.bool true), [[], [([], (0, some (.box false [.ref fc])))]]) := ok.asOk G (k + 14)
      simp only [layA, errA] at hS
      simp -implicitDefEqProofs [st9, endF, argsIn, subsIn, subIn, subOut, keyIn, φin, φout, who, strip, live, hS, layA, errA, asR, drawD_cons, drawD_nil, Susp.at, Susp.keeps, List.lookup, FP.offB, fpC_store, cellsS]
  · rintro x r st ⟨p, z, hp, hz, hi, hst⟩ K hK
    have h1 : p.length < l.length := by rw [hp]; simp
    have h2 : l[p.length] = x := by simp [hp]
    have h3 := wrap64 p.length (by omega)
    have ht := hasTarget_rn G N (k + 14) x
    have hc := classes_rn G N (k + 8) x
    have h5 : p.length < z.length := by omega
    rw [hst]
    cases c1 : x.grows with
    | false =>
      rw [c1] at ht
      simp only [szP, c1, Bool.false_eq_true, if_false] at hi
      simp -implicitDefEqProofs [st9, h1, h2, h3, ht, argsIn, subsIn]
      refine hK _ ⟨p ++ [x], z, by simp [hp], hz, by rw [← hi]; simp, ?_⟩
      simp -implicitDefEqProofs [NormD.run, norm, st9, List.lookup]
    | true =>
      rw [c1] at ht
      obtain ⟨a, t, hat⟩ : ∃ a t, classesP x = a :: t := by
        cases h : classesP x with
        | nil => exact (classes_ne x h).elim
        | cons a t => exact ⟨a, t, rfl⟩
      simp only [szP, c1, if_true, hat, List.headD_cons] at hi
      simp only [hat, ints, List.map_cons] at hc
      simp -implicitDefEqProofs [st9, h1, h2, h3, h5, ht, hc, argsIn, subsIn, drawD_cons, drawD_nil, Susp.at, Susp.keeps, List.lookup, FP.offB, fpC_store, setEl, cellAV]
      refine hK _ ⟨p ++ [x], z.set p.length a, by simp [hp], by simpa using hz, by rw [← hi]; simp, ?_⟩
      simp -implicitDefEqProofs [NormD.run, norm, st9, List.lookup, ints, List.map_set]
end Go.Proofs.YtmekfllddifglaaDoor.AM
