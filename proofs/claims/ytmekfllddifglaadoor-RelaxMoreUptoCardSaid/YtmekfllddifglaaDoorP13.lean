/- The relax seat: Rc, Rd, Re, Rf, Rg, Rh, Ri, Rj, Rk, Rl, Rm, Rn, Ro. Conditions: none. -/
import Derived.Test.YtmekfllddifglaaDoorP12
set_option linter.unusedVariables false
set_option linter.unusedSimpArgs false
/- The relax seat: items, and the functions of one item. Conditions: none. -/
set_option linter.unusedVariables false
set_option linter.unusedSimpArgs false
set_option maxRecDepth 10000
namespace Go.Proofs.YtmekfllddifglaaDoor.AM
open Go

/-- An item, told by its fields. -/
structure It where
  kind : Int
  line : Int
  col : Int
  name : ByteArray
  op : Int
  rd : Int
  rs1 : Int
  rs2 : Int
  imm : Int
  short : ByteArray
  size : Int
  nn : Bool
  nodes : List AV
  num : Int
  grow : Bool
  rvc : Bool
def It.cells (x : It) : List AV := [.v (.int .i64 x.kind), .v (.int .i64 x.line), .v (.int .i64 x.col), .v (.string x.name), .v (.int .i64 x.op), .v (.int .i64 x.rd), .v (.int .i64 x.rs1), .v (.int .i64 x.rs2), .v (.int .i32 x.imm), .v (.string x.short), .v (.int .i64 x.size), .sl x.nn x.nodes, .v (.int .u32 x.num), .v (.bool x.grow), .v (.bool x.rvc)]
@[simp] theorem It.len (x : It) : x.cells.length = 15 := rfl
@[simp] theorem It.c0 (x : It) : x.cells[0]? = some (.v (.int .i64 x.kind)) := rfl
@[simp] theorem It.g0 (x : It) (h : 0 < x.cells.length) : x.cells[0]'h = .v (.int .i64 x.kind) := rfl
@[simp] theorem It.d0 (x : It) : (x.cells.drop 0).head? = some (.v (.int .i64 x.kind)) := rfl
@[simp] theorem It.c1 (x : It) : x.cells[1]? = some (.v (.int .i64 x.line)) := rfl
@[simp] theorem It.g1 (x : It) (h : 1 < x.cells.length) : x.cells[1]'h = .v (.int .i64 x.line) := rfl
@[simp] theorem It.d1 (x : It) : (x.cells.drop 1).head? = some (.v (.int .i64 x.line)) := rfl
@[simp] theorem It.c2 (x : It) : x.cells[2]? = some (.v (.int .i64 x.col)) := rfl
@[simp] theorem It.g2 (x : It) (h : 2 < x.cells.length) : x.cells[2]'h = .v (.int .i64 x.col) := rfl
@[simp] theorem It.d2 (x : It) : (x.cells.drop 2).head? = some (.v (.int .i64 x.col)) := rfl
@[simp] theorem It.c3 (x : It) : x.cells[3]? = some (.v (.string x.name)) := rfl
@[simp] theorem It.g3 (x : It) (h : 3 < x.cells.length) : x.cells[3]'h = .v (.string x.name) := rfl
@[simp] theorem It.d3 (x : It) : (x.cells.drop 3).head? = some (.v (.string x.name)) := rfl
@[simp] theorem It.c4 (x : It) : x.cells[4]? = some (.v (.int .i64 x.op)) := rfl
@[simp] theorem It.g4 (x : It) (h : 4 < x.cells.length) : x.cells[4]'h = .v (.int .i64 x.op) := rfl
@[simp] theorem It.d4 (x : It) : (x.cells.drop 4).head? = some (.v (.int .i64 x.op)) := rfl
@[simp] theorem It.c5 (x : It) : x.cells[5]? = some (.v (.int .i64 x.rd)) := rfl
@[simp] theorem It.g5 (x : It) (h : 5 < x.cells.length) : x.cells[5]'h = .v (.int .i64 x.rd) := rfl
@[simp] theorem It.d5 (x : It) : (x.cells.drop 5).head? = some (.v (.int .i64 x.rd)) := rfl
@[simp] theorem It.c6 (x : It) : x.cells[6]? = some (.v (.int .i64 x.rs1)) := rfl
@[simp] theorem It.g6 (x : It) (h : 6 < x.cells.length) : x.cells[6]'h = .v (.int .i64 x.rs1) := rfl
@[simp] theorem It.d6 (x : It) : (x.cells.drop 6).head? = some (.v (.int .i64 x.rs1)) := rfl
@[simp] theorem It.c7 (x : It) : x.cells[7]? = some (.v (.int .i64 x.rs2)) := rfl
@[simp] theorem It.g7 (x : It) (h : 7 < x.cells.length) : x.cells[7]'h = .v (.int .i64 x.rs2) := rfl
@[simp] theorem It.d7 (x : It) : (x.cells.drop 7).head? = some (.v (.int .i64 x.rs2)) := rfl
@[simp] theorem It.c8 (x : It) : x.cells[8]? = some (.v (.int .i32 x.imm)) := rfl
@[simp] theorem It.g8 (x : It) (h : 8 < x.cells.length) : x.cells[8]'h = .v (.int .i32 x.imm) := rfl
@[simp] theorem It.d8 (x : It) : (x.cells.drop 8).head? = some (.v (.int .i32 x.imm)) := rfl
@[simp] theorem It.c9 (x : It) : x.cells[9]? = some (.v (.string x.short)) := rfl
@[simp] theorem It.g9 (x : It) (h : 9 < x.cells.length) : x.cells[9]'h = .v (.string x.short) := rfl
@[simp] theorem It.d9 (x : It) : (x.cells.drop 9).head? = some (.v (.string x.short)) := rfl
@[simp] theorem It.c10 (x : It) : x.cells[10]? = some (.v (.int .i64 x.size)) := rfl
@[simp] theorem It.g10 (x : It) (h : 10 < x.cells.length) : x.cells[10]'h = .v (.int .i64 x.size) := rfl
@[simp] theorem It.d10 (x : It) : (x.cells.drop 10).head? = some (.v (.int .i64 x.size)) := rfl
@[simp] theorem It.c11 (x : It) : x.cells[11]? = some (.sl x.nn x.nodes) := rfl
@[simp] theorem It.g11 (x : It) (h : 11 < x.cells.length) : x.cells[11]'h = .sl x.nn x.nodes := rfl
@[simp] theorem It.d11 (x : It) : (x.cells.drop 11).head? = some (.sl x.nn x.nodes) := rfl
@[simp] theorem It.c12 (x : It) : x.cells[12]? = some (.v (.int .u32 x.num)) := rfl
@[simp] theorem It.g12 (x : It) (h : 12 < x.cells.length) : x.cells[12]'h = .v (.int .u32 x.num) := rfl
@[simp] theorem It.d12 (x : It) : (x.cells.drop 12).head? = some (.v (.int .u32 x.num)) := rfl
@[simp] theorem It.c13 (x : It) : x.cells[13]? = some (.v (.bool x.grow)) := rfl
@[simp] theorem It.g13 (x : It) (h : 13 < x.cells.length) : x.cells[13]'h = .v (.bool x.grow) := rfl
@[simp] theorem It.d13 (x : It) : (x.cells.drop 13).head? = some (.v (.bool x.grow)) := rfl
@[simp] theorem It.c14 (x : It) : x.cells[14]? = some (.v (.bool x.rvc)) := rfl
@[simp] theorem It.g14 (x : It) (h : 14 < x.cells.length) : x.cells[14]'h = .v (.bool x.rvc) := rfl
@[simp] theorem It.d14 (x : It) : (x.cells.drop 14).head? = some (.v (.bool x.rvc)) := rfl
@[simp] theorem It.h (x : It) : x.cells.head? = some (.v (.int .i64 x.kind)) := rfl
@[simp] theorem It.tk (x : It) : x.cells.take 15 = x.cells := rfl
@[simp] theorem It.dn (x : It) : x.cells.drop 15 = [] := rfl
@[simp] theorem It.st (x : It) (d : Nat) (p : List Nat) (off : Nat) (S : Subs) : (settle d p off x.cells).run S = some (x.cells, S) := settle_plain d p _ off S rfl
@[simp] theorem It.pb (x : It) (n : Nat) (S : Subs) : mapR (pub (n + 1)) x.cells S = some (x.cells, S) := by simp [It.cells]
@[simp] theorem It.pb1 (x : It) (S : Subs) : mapR (pub 1) x.cells S = some (x.cells, S) := It.pb x 0 S
@[simp] theorem It.pb2 (x : It) (S : Subs) : mapR (pub 2) x.cells S = some (x.cells, S) := It.pb x 1 S
@[simp] theorem It.pb3 (x : It) (S : Subs) : mapR (pub 3) x.cells S = some (x.cells, S) := It.pb x 2 S
@[simp] theorem It.pb4 (x : It) (S : Subs) : mapR (pub 4) x.cells S = some (x.cells, S) := It.pb x 3 S
@[simp] theorem It.pb5 (x : It) (S : Subs) : mapR (pub 5) x.cells S = some (x.cells, S) := It.pb x 4 S
@[simp] theorem It.pb6 (x : It) (S : Subs) : mapR (pub 6) x.cells S = some (x.cells, S) := It.pb x 5 S
@[simp] theorem It.pb7 (x : It) (S : Subs) : mapR (pub 7) x.cells S = some (x.cells, S) := It.pb x 6 S
@[simp] theorem It.pb59 (x : It) (S : Subs) : mapR (pub 59) x.cells S = some (x.cells, S) := It.pb x 58 S
@[simp] theorem It.pb58 (x : It) (S : Subs) : mapR (pub 58) x.cells S = some (x.cells, S) := It.pb x 57 S
@[simp] theorem It.rn (x : It) (φ : Ren) : rens φ x.cells = x.cells := rfl
@[simp] theorem It.al (x : It) : x.cells.all cellAV = true := rfl
variable (G : Gl) (N : Nats) (k : Nat)

def It.grows (x : It) : Bool := decide (x.kind = 4) || decide (x.kind = 5) || decide (x.kind = 6)
@[simp] theorem hasTarget_rn (x : It) : rn (DR G N) (k + 1) 21 [.agg x.cells] [[]] = some (.v (.bool x.grows), [[]]) := by
  rw [run21]
  by_cases h4 : x.kind = 4
  · simp -implicitDefEqProofs [Tryd.f21, It.cells, It.grows, endF, h4]
  · by_cases h5 : x.kind = 5
    · simp -implicitDefEqProofs [Tryd.f21, It.cells, It.grows, endF, h4, h5]
    · by_cases h6 : x.kind = 6
      · simp -implicitDefEqProofs [Tryd.f21, It.cells, It.grows, endF, h4, h5, h6]
      · simp -implicitDefEqProofs [Tryd.f21, It.cells, It.grows, endF, h4, h5, h6]
@[simp] theorem grows_rn (x : It) : rn (DR G N) (k + 1) 11 [.agg x.cells] [[]] = some (.v (.bool x.grows), [[]]) := by
  rw [run11]
  by_cases h4 : x.kind = 4
  · simp -implicitDefEqProofs [Tryd.f11, It.cells, It.grows, endF, h4]
  · by_cases h5 : x.kind = 5
    · simp -implicitDefEqProofs [Tryd.f11, It.cells, It.grows, endF, h4, h5]
    · by_cases h6 : x.kind = 6
      · simp -implicitDefEqProofs [Tryd.f11, It.cells, It.grows, endF, h4, h5, h6]
      · simp -implicitDefEqProofs [Tryd.f11, It.cells, It.grows, endF, h4, h5, h6]
def slimP (op rs1 rs2 : Int) : Bool := (decide (op = 5) || decide (op = 6)) && decide (rs2 = 0) && decide (8 ≤ rs1) && decide (rs1 ≤ 15)
@[simp] theorem slim_rn (op rd rs1 rs2 imm : Int) : rn (DR G N) (k + 1) 47 [.agg [.v (.int .i64 op), .v (.int .i64 rd), .v (.int .i64 rs1), .v (.int .i64 rs2), .v (.int .i32 imm)]] [[]] = some (.v (.bool (slimP op rs1 rs2)), [[]]) := by
  rw [run47]
  by_cases h5 : op = 5 <;> by_cases h6 : op = 6 <;> by_cases h2 : rs2 = 0 <;> by_cases h8 : 8 ≤ rs1 <;> by_cases h15 : rs1 ≤ 15 <;>
    simp -implicitDefEqProofs [Tryd.f47, slimP, endF, h5, h6, h2, h8, h15]
end Go.Proofs.YtmekfllddifglaaDoor.AM

/- The relax seat: words, classes. Conditions: none. -/
set_option linter.unusedVariables false
set_option linter.unusedSimpArgs false
set_option maxRecDepth 10000
namespace Go.Proofs.YtmekfllddifglaaDoor.AM
open Go
variable (G : Gl) (N : Nats) (k : Nat)

@[simp] theorem within_rn (x a b : Int) : rn (DR G N) (k + 1) 84 [.v (.int .i64 x), .v (.int .i64 a), .v (.int .i64 b)] [[], [], []] = some (.v (.int .i64 (if b < (if x < a then a else x) then b else (if x < a then a else x))), [[], [], []]) := by
  rw [run84]
  simp -implicitDefEqProofs [Tryd.f84, endF]
def signP (x : Int) (b : Nat) : Int := (IntKind.wrap .i32 (IntKind.wrap .u32 (x * 2 ^ (32 - b)))).fdiv (2 ^ (32 - b))
theorem wrap_nat {k : IntKind} (n : Nat) (h : (n : Int) < 2147483648) (hk : k = .i64 ∨ k = .u64) : k.wrap (n : Int) = n := by
  rcases hk with rfl | rfl <;> simp [IntKind.wrap, IntKind.bits, IntKind.signed] <;> omega
@[simp] theorem sign_rn (x : Int) (b : Nat) (hb : b ≤ 32) : rn (DR G N) (k + 2) 77 [.v (.int .u32 x), .v (.int .i64 b)] [[], []] = some (.v (.int .i32 (signP x b)), [[], []]) := by
  rw [run77]
  have h1 : ¬ ((b : Int) < 0) := by omega
  have h2 : ¬ ((32 : Int) < b) := by omega
  have h3 : IntKind.wrap .i64 (32 - (b : Int)) = ((32 - b : Nat) : Int) := by
    rw [show (32 - (b : Int)) = ((32 - b : Nat) : Int) by omega]; exact wrap_nat _ (by omega) (.inl rfl)
  have h4 : IntKind.wrap .u64 (((32 - b : Nat)) : Int) = ((32 - b : Nat) : Int) := wrap_nat _ (by omega) (.inr rfl)
  have h5 : min (32 - b) 32 = 32 - b := by omega
  have h6 : ¬ (((32 - b : Nat) : Int) < 0) := by omega
  simp -implicitDefEqProofs [Tryd.f77, endF, argsIn, subsIn, h1, h2, h3, h4, h5, h6, signP, IntKind.bits]
end Go.Proofs.YtmekfllddifglaaDoor.AM

/- The relax seat: the next class. Conditions: none. -/
set_option linter.unusedVariables false
set_option linter.unusedSimpArgs false
set_option maxRecDepth 10000
namespace Go.Proofs.YtmekfllddifglaaDoor.AM
open Go
variable (G : Gl) (N : Nats) (k : Nat)
theorem fits_rn (x : Int) (b : Nat) (hb : b ≤ 32) : rn (DR G N) (k + 3) 60 [.v (.int .i32 x), .v (.int .i64 b)] [[], []] = some (.v (.bool (decide (signP (IntKind.wrap .u32 x) b = x))), [[], []]) := by
  rw [run60]
  simp -implicitDefEqProofs [Tryd.f60, endF, argsIn, subsIn, sign_rn, hb]

def ints (l : List Int) : List AV := l.map fun n => .v (.int .i64 n)
@[simp] theorem ints_length (l : List Int) : (ints l).length = l.length := by simp [ints]
@[simp] theorem ints_get (l : List Int) (n : Nat) (h : n < (ints l).length) : (ints l)[n] = .v (.int .i64 (l[n]'(by simpa using h))) := by simp [ints]
def leastF (a : Int) : List Int → Int → Bool → Int × Bool
  | [], b, o => (b, o)
  | x :: l, b, o => if a < x ∧ (o = false ∨ x < b) then leastF a l x true else leastF a l b o

def st61 (nl : Bool) (l : List Int) (a : Int) (i : Nat) (b : Int) (o : Bool) (j14 : AV) : St :=
  ⟨[.dead, .v (.int .i64 a), .dead, .dead, .dead, .dead, .v (.int .i64 b), .v (.bool o), .dead, .dead, .dead, .sl nl (ints l), .v (.int .i64 l.length), .v (.int .i64 i), j14] ++ List.replicate 18 .dead, List.replicate 33 []⟩
theorem wrap64 (n : Nat) (h : n < 4611686018427387904) : IntKind.wrap .i64 ((n : Int) + 1) = ((n + 1 : Nat) : Int) := by
  simp [IntKind.wrap, IntKind.bits, IntKind.signed]; omega
theorem loop61 (T : Tbl) (nl : Bool) (l : List Int) (a : Int) (hl : l.length < 4611686018427387904) : ∀ (r p : List Int) (b : Int) (o : Bool) (st : St), l = p ++ r → i61.hints.nm 0 st = some (st61 nl l a p.length b o .dead) →
    aloop (i61.hints.nm 0) (acode G (carry Tryd.prog T) i61.hints 0 (lp Tryd.f61 0)) st = some (.exit 0, st61 nl l a l.length (leastF a r b o).1 (leastF a r b o).2 (.v (.bool false))) := by
  intro r
  induction r with
  | nil =>
    intro p b o st hp hst
    rw [List.append_nil] at hp
    subst hp
    rw [aloop_eq, hst]
    simp -implicitDefEqProofs [st61, acode_lp, lpU, loopIn, Tryd.f61, leastF]
  | cons x r ih =>
    intro p b o st hp hst
    have h1 : p.length < l.length := by rw [hp]; simp
    have h2 : l[p.length] = x := by simp [hp]
    have h3 := wrap64 p.length (by omega)
    have ih1 := fun st => ih (p ++ [x]) x true st (by simp [hp])
    have ih2 := fun st => ih (p ++ [x]) b o st (by simp [hp])
    rw [aloop_eq, hst]
    generalize aloop (i61.hints.nm 0) (acode G (carry Tryd.prog T) i61.hints 0 (lp Tryd.f61 0)) = K at ih1 ih2 ⊢
    by_cases c1 : a < x
    · cases o with
      | false =>
        simp -implicitDefEqProofs [st61, acode_lp, lpU, loopIn, Tryd.f61, leastF, h1, h3, h2, c1]
        refine ih1 _ ?_
        simp -implicitDefEqProofs [NormD.run, norm, normV, normL, coSs, coCs, ren, st61, List.lookup]
      | true =>
        by_cases c2 : x < b
        · simp -implicitDefEqProofs [st61, acode_lp, lpU, loopIn, Tryd.f61, leastF, h1, h3, h2, c1, c2]
          refine ih1 _ ?_
          simp -implicitDefEqProofs [NormD.run, norm, normV, normL, coSs, coCs, ren, st61, List.lookup]
        · simp -implicitDefEqProofs [st61, acode_lp, lpU, loopIn, Tryd.f61, leastF, h1, h3, h2, c1, c2]
          refine ih2 _ ?_
          simp -implicitDefEqProofs [NormD.run, norm, normV, normL, coSs, coCs, ren, st61, List.lookup]
    · simp -implicitDefEqProofs [st61, acode_lp, lpU, loopIn, Tryd.f61, leastF, h1, h3, h2, c1]
      refine ih2 _ ?_
      simp -implicitDefEqProofs [NormD.run, norm, normV, normL, coSs, coCs, ren, st61, List.lookup]
theorem least_rn (nl : Bool) (l : List Int) (a : Int) (hl : l.length < 4611686018427387904) : rn (DR G N) (k + 1) 61 [.sl nl (ints l), .v (.int .i64 a)] [[], []] = some (.tup [.v (.int .i64 (leastF a l a false).1), .v (.bool (leastF a l a false).2)], [[], []]) := by
  rw [run61]
  have h := fun st => loop61 G (tbl (DR G N) k) nl l a hl l [] a false st rfl
  simp -implicitDefEqProofs [Tryd.f61, endF, argsIn, subsIn, acode_loop]
  erw [h _ (by simp -implicitDefEqProofs [NormD.run, norm, normV, normL, coSs, coCs, ren, st61, List.lookup])]
  simp -implicitDefEqProofs [st61, endF]
end Go.Proofs.YtmekfllddifglaaDoor.AM

/- The relax seat: the sort of few numbers. Conditions: none. -/
set_option linter.unusedVariables false
set_option linter.unusedSimpArgs false
set_option maxRecDepth 10000
namespace Go.Proofs.YtmekfllddifglaaDoor.AM
open Go
variable (G : Gl) (N : Nats) (k : Nat)
@[simp] theorem isNaN_rn (x : Int) : rn (DR G N) (k + 1) 83 [.v (.int .i64 x)] [[]] = some (.v (.bool false), [[]]) := by
  rw [run83]
  simp -implicitDefEqProofs [Tryd.f83, endF]
@[simp] theorem less_rn (x y : Int) : rn (DR G N) (k + 2) 68 [.v (.int .i64 x), .v (.int .i64 y)] [[], []] = some (.v (.bool (decide (x < y))), [[], []]) := by
  rw [run68]
  simp -implicitDefEqProofs [Tryd.f68, endF, argsIn, subsIn]
def arrS (nl : Bool) (l : List Int) : Sub := [([], (0, some (.arr nl false 1 3 (ints l))))]
set_option maxHeartbeats 2000000 in
theorem ins4_rn (nl : Bool) : rn (DR G N) (k + 3) 62 [.own 0 [] 0 0 1, .v (.int .i64 0), .v (.int .i64 1)] [arrS nl [4], [], []] = some (.tup [], [arrS nl [4], [], []]) := by
  rw [run62]
  simp -implicitDefEqProofs [Tryd.f62, endF, argsIn, subsIn, arrS, ints, acode_loop, aloop_eq, drawD_cons, Susp.at, Susp.keeps, List.lookup, IntKind.wrap, IntKind.bits, IntKind.signed, stArr, stBox, setEl, cellAV]
set_option maxHeartbeats 2000000 in
theorem ins8_rn (nl : Bool) : rn (DR G N) (k + 3) 62 [.own 0 [] 0 0 1, .v (.int .i64 0), .v (.int .i64 1)] [arrS nl [8], [], []] = some (.tup [], [arrS nl [8], [], []]) := by
  rw [run62]
  simp -implicitDefEqProofs [Tryd.f62, endF, argsIn, subsIn, arrS, ints, acode_loop, aloop_eq, drawD_cons, Susp.at, Susp.keeps, List.lookup, IntKind.wrap, IntKind.bits, IntKind.signed, stArr, stBox, setEl, cellAV]
set_option maxHeartbeats 2000000 in
theorem ins42_rn (nl : Bool) : rn (DR G N) (k + 3) 62 [.own 0 [] 0 0 2, .v (.int .i64 0), .v (.int .i64 2)] [arrS nl [4, 2], [], []] = some (.tup [], [arrS nl [2, 4], [], []]) := by
  rw [run62]
  simp -implicitDefEqProofs [Tryd.f62, endF, argsIn, subsIn, arrS, ints, acode_loop, aloop_eq, drawD_cons, Susp.at, Susp.keeps, List.lookup, IntKind.wrap, IntKind.bits, IntKind.signed, stArr, stBox, setEl, cellAV]
set_option maxHeartbeats 2000000 in
theorem ins84_rn (nl : Bool) : rn (DR G N) (k + 3) 62 [.own 0 [] 0 0 2, .v (.int .i64 0), .v (.int .i64 2)] [arrS nl [8, 4], [], []] = some (.tup [], [arrS nl [4, 8], [], []]) := by
  rw [run62]
  simp -implicitDefEqProofs [Tryd.f62, endF, argsIn, subsIn, arrS, ints, acode_loop, aloop_eq, drawD_cons, Susp.at, Susp.keeps, List.lookup, IntKind.wrap, IntKind.bits, IntKind.signed, stArr, stBox, setEl, cellAV]
set_option maxHeartbeats 2000000 in
theorem ins842_rn (nl : Bool) : rn (DR G N) (k + 3) 62 [.own 0 [] 0 0 3, .v (.int .i64 0), .v (.int .i64 3)] [arrS nl [8, 4, 2], [], []] = some (.tup [], [arrS nl [2, 4, 8], [], []]) := by
  rw [run62]
  simp -implicitDefEqProofs [Tryd.f62, endF, argsIn, subsIn, arrS, ints, acode_loop, aloop_eq, drawD_cons, Susp.at, Susp.keeps, List.lookup, IntKind.wrap, IntKind.bits, IntKind.signed, stArr, stBox, setEl, cellAV]
@[simp] theorem len64_1 : rn (DR G N) (k + 1) 72 [.v (.int .u64 1)] [[]] = some (.v (.int .i64 1), [[]]) := by
  rw [run72]
  simp -implicitDefEqProofs [Tryd.f72, endF, argsIn, subsIn, IntKind.wrap, IntKind.bits, IntKind.signed]
@[simp] theorem blen_1 : rn (DR G N) (k + 2) 57 [.v (.int .u64 1)] [[]] = some (.v (.int .i64 1), [[]]) := by
  rw [run57]
  simp -implicitDefEqProofs [Tryd.f57, endF, argsIn, subsIn, IntKind.wrap, IntKind.bits, IntKind.signed]
@[simp] theorem len64_2 : rn (DR G N) (k + 1) 72 [.v (.int .u64 2)] [[]] = some (.v (.int .i64 2), [[]]) := by
  rw [run72]
  simp -implicitDefEqProofs [Tryd.f72, endF, argsIn, subsIn, IntKind.wrap, IntKind.bits, IntKind.signed]
@[simp] theorem blen_2 : rn (DR G N) (k + 2) 57 [.v (.int .u64 2)] [[]] = some (.v (.int .i64 2), [[]]) := by
  rw [run57]
  simp -implicitDefEqProofs [Tryd.f57, endF, argsIn, subsIn, IntKind.wrap, IntKind.bits, IntKind.signed]
@[simp] theorem len64_3 : rn (DR G N) (k + 1) 72 [.v (.int .u64 3)] [[]] = some (.v (.int .i64 2), [[]]) := by
  rw [run72]
  simp -implicitDefEqProofs [Tryd.f72, endF, argsIn, subsIn, IntKind.wrap, IntKind.bits, IntKind.signed]
@[simp] theorem blen_3 : rn (DR G N) (k + 2) 57 [.v (.int .u64 3)] [[]] = some (.v (.int .i64 2), [[]]) := by
  rw [run57]
  simp -implicitDefEqProofs [Tryd.f57, endF, argsIn, subsIn, IntKind.wrap, IntKind.bits, IntKind.signed]
set_option maxHeartbeats 2000000 in
theorem pdq4_rn (nl : Bool) : rn (DR G N) (k + 4) 56 [.own 0 [] 0 0 1, .v (.int .i64 0), .v (.int .i64 1), .v (.int .i64 1)] [arrS nl [4], [], [], []] = some (.tup [], [arrS nl [4], [], [], []]) := by
  rw [run56]
  have h := ins4_rn G N k nl
  simp only [arrS, ints, List.map] at h
  simp -implicitDefEqProofs [Tryd.f56, endF, argsIn, subsIn, subIn, subOut, keyIn, arrS, ints, acode_loop, aloop_eq, List.lookup, IntKind.wrap, IntKind.bits, IntKind.signed, ren, renOb, φin, φout, who, live, h]
set_option maxHeartbeats 2000000 in
theorem sort4_rn (nl : Bool) : rn (DR G N) (k + 5) 48 [.own 0 [] 0 0 1] [arrS nl [4]] = some (.tup [], [arrS nl [4]]) := by
  rw [run48]
  have h := pdq4_rn G N k nl
  simp only [arrS, ints, List.map] at h
  simp -implicitDefEqProofs [Tryd.f48, endF, argsIn, subsIn, subIn, subOut, keyIn, arrS, ints, List.lookup, IntKind.wrap, IntKind.bits, IntKind.signed, ren, renOb, φin, φout, who, live, h]
set_option maxHeartbeats 2000000 in
theorem pdq8_rn (nl : Bool) : rn (DR G N) (k + 4) 56 [.own 0 [] 0 0 1, .v (.int .i64 0), .v (.int .i64 1), .v (.int .i64 1)] [arrS nl [8], [], [], []] = some (.tup [], [arrS nl [8], [], [], []]) := by
  rw [run56]
  have h := ins8_rn G N k nl
  simp only [arrS, ints, List.map] at h
  simp -implicitDefEqProofs [Tryd.f56, endF, argsIn, subsIn, subIn, subOut, keyIn, arrS, ints, acode_loop, aloop_eq, List.lookup, IntKind.wrap, IntKind.bits, IntKind.signed, ren, renOb, φin, φout, who, live, h]
set_option maxHeartbeats 2000000 in
theorem sort8_rn (nl : Bool) : rn (DR G N) (k + 5) 48 [.own 0 [] 0 0 1] [arrS nl [8]] = some (.tup [], [arrS nl [8]]) := by
  rw [run48]
  have h := pdq8_rn G N k nl
  simp only [arrS, ints, List.map] at h
  simp -implicitDefEqProofs [Tryd.f48, endF, argsIn, subsIn, subIn, subOut, keyIn, arrS, ints, List.lookup, IntKind.wrap, IntKind.bits, IntKind.signed, ren, renOb, φin, φout, who, live, h]
set_option maxHeartbeats 2000000 in
theorem pdq42_rn (nl : Bool) : rn (DR G N) (k + 4) 56 [.own 0 [] 0 0 2, .v (.int .i64 0), .v (.int .i64 2), .v (.int .i64 2)] [arrS nl [4, 2], [], [], []] = some (.tup [], [arrS nl [2, 4], [], [], []]) := by
  rw [run56]
  have h := ins42_rn G N k nl
  simp only [arrS, ints, List.map] at h
  simp -implicitDefEqProofs [Tryd.f56, endF, argsIn, subsIn, subIn, subOut, keyIn, arrS, ints, acode_loop, aloop_eq, List.lookup, IntKind.wrap, IntKind.bits, IntKind.signed, ren, renOb, φin, φout, who, live, h]
set_option maxHeartbeats 2000000 in
theorem sort42_rn (nl : Bool) : rn (DR G N) (k + 5) 48 [.own 0 [] 0 0 2] [arrS nl [4, 2]] = some (.tup [], [arrS nl [2, 4]]) := by
  rw [run48]
  have h := pdq42_rn G N k nl
  simp only [arrS, ints, List.map] at h
  simp -implicitDefEqProofs [Tryd.f48, endF, argsIn, subsIn, subIn, subOut, keyIn, arrS, ints, List.lookup, IntKind.wrap, IntKind.bits, IntKind.signed, ren, renOb, φin, φout, who, live, h]
set_option maxHeartbeats 2000000 in
theorem pdq84_rn (nl : Bool) : rn (DR G N) (k + 4) 56 [.own 0 [] 0 0 2, .v (.int .i64 0), .v (.int .i64 2), .v (.int .i64 2)] [arrS nl [8, 4], [], [], []] = some (.tup [], [arrS nl [4, 8], [], [], []]) := by
  rw [run56]
  have h := ins84_rn G N k nl
  simp only [arrS, ints, List.map] at h
  simp -implicitDefEqProofs [Tryd.f56, endF, argsIn, subsIn, subIn, subOut, keyIn, arrS, ints, acode_loop, aloop_eq, List.lookup, IntKind.wrap, IntKind.bits, IntKind.signed, ren, renOb, φin, φout, who, live, h]
set_option maxHeartbeats 2000000 in
theorem sort84_rn (nl : Bool) : rn (DR G N) (k + 5) 48 [.own 0 [] 0 0 2] [arrS nl [8, 4]] = some (.tup [], [arrS nl [4, 8]]) := by
  rw [run48]
  have h := pdq84_rn G N k nl
  simp only [arrS, ints, List.map] at h
  simp -implicitDefEqProofs [Tryd.f48, endF, argsIn, subsIn, subIn, subOut, keyIn, arrS, ints, List.lookup, IntKind.wrap, IntKind.bits, IntKind.signed, ren, renOb, φin, φout, who, live, h]
set_option maxHeartbeats 2000000 in
theorem pdq842_rn (nl : Bool) : rn (DR G N) (k + 4) 56 [.own 0 [] 0 0 3, .v (.int .i64 0), .v (.int .i64 3), .v (.int .i64 2)] [arrS nl [8, 4, 2], [], [], []] = some (.tup [], [arrS nl [2, 4, 8], [], [], []]) := by
  rw [run56]
  have h := ins842_rn G N k nl
  simp only [arrS, ints, List.map] at h
  simp -implicitDefEqProofs [Tryd.f56, endF, argsIn, subsIn, subIn, subOut, keyIn, arrS, ints, acode_loop, aloop_eq, List.lookup, IntKind.wrap, IntKind.bits, IntKind.signed, ren, renOb, φin, φout, who, live, h]
set_option maxHeartbeats 2000000 in
theorem sort842_rn (nl : Bool) : rn (DR G N) (k + 5) 48 [.own 0 [] 0 0 3] [arrS nl [8, 4, 2]] = some (.tup [], [arrS nl [2, 4, 8]]) := by
  rw [run48]
  have h := pdq842_rn G N k nl
  simp only [arrS, ints, List.map] at h
  simp -implicitDefEqProofs [Tryd.f48, endF, argsIn, subsIn, subIn, subOut, keyIn, arrS, ints, List.lookup, IntKind.wrap, IntKind.bits, IntKind.signed, ren, renOb, φin, φout, who, live, h]
end Go.Proofs.YtmekfllddifglaaDoor.AM

/- The relax seat: the classes of an item. Conditions: none. -/
set_option linter.unusedVariables false
set_option linter.unusedSimpArgs false
set_option maxRecDepth 10000
namespace Go.Proofs.YtmekfllddifglaaDoor.AM
open Go
variable (G : Gl) (N : Nats) (k : Nat)
def grownP (x : It) : List Int :=
  if x.kind = 4 then (if x.grow then (if x.rvc && slimP x.op x.rs1 x.rs2 then [2, 4, 8] else [4, 8]) else [4])
  else if x.kind = 5 then (if x.grow && x.rvc then [2, 4] else [4])
  else (if x.grow then (if x.rvc then [2, 4, 8] else [4, 8]) else [8])
set_option maxHeartbeats 2000000 in
theorem grown4_rn (x : It) (h4 : x.kind = 4) (hg : x.grow = false) : rn (DR G N) (k + 6) 35 [.agg x.cells] [[]] = some (.sl false (ints (grownP x)), [[]]) := by
  rw [run35]
  simp -implicitDefEqProofs [Tryd.f35, It.cells, grownP, endF, argsIn, subsIn, h4, hg, ints, setAll, cellAV]
set_option maxHeartbeats 2000000 in
theorem grown4b_rn (x : It) (h4 : x.kind = 4) (hg : x.grow = true) (hr : x.rvc = false) : rn (DR G N) (k + 6) 35 [.agg x.cells] [[]] = some (.sl false (ints (grownP x)), [[]]) := by
  rw [run35]
  have h := sort84_rn G N k false
  simp only [arrS, ints, List.map] at h
  simp -implicitDefEqProofs [Tryd.f35, It.cells, grownP, endF, argsIn, subsIn, subIn, subOut, keyIn, h4, hg, hr, ints, setAll, cellAV, ren, renOb, φin, φout, who, live, h]
set_option maxHeartbeats 2000000 in
theorem grown4c_rn (x : It) (h4 : x.kind = 4) (hg : x.grow = true) (hr : x.rvc = true) (hs : slimP x.op x.rs1 x.rs2 = false) : rn (DR G N) (k + 6) 35 [.agg x.cells] [[]] = some (.sl false (ints (grownP x)), [[]]) := by
  rw [run35]
  have h := sort84_rn G N k false
  simp only [arrS, ints, List.map] at h
  simp -implicitDefEqProofs [Tryd.f35, It.cells, grownP, endF, argsIn, subsIn, subIn, subOut, keyIn, h4, hg, hr, hs, ints, setAll, cellAV, ren, renOb, φin, φout, who, live, h]
set_option maxHeartbeats 2000000 in
theorem grown4d_rn (x : It) (h4 : x.kind = 4) (hg : x.grow = true) (hr : x.rvc = true) (hs : slimP x.op x.rs1 x.rs2 = true) : rn (DR G N) (k + 6) 35 [.agg x.cells] [[]] = some (.sl false (ints (grownP x)), [[]]) := by
  rw [run35]
  have h := sort842_rn G N k false
  simp only [arrS, ints, List.map] at h
  simp -implicitDefEqProofs [Tryd.f35, It.cells, grownP, endF, argsIn, subsIn, subIn, subOut, keyIn, h4, hg, hr, hs, ints, setAll, cellAV, ren, renOb, φin, φout, who, live, h]
set_option maxHeartbeats 2000000 in
theorem grown5a_rn (x : It) (h5 : x.kind = 5) (hg : x.grow = false) : rn (DR G N) (k + 6) 35 [.agg x.cells] [[]] = some (.sl false (ints (grownP x)), [[]]) := by
  rw [run35]
  have h := sort4_rn G N k false
  simp only [arrS, ints, List.map] at h
  simp -implicitDefEqProofs [Tryd.f35, It.cells, grownP, endF, argsIn, subsIn, subIn, subOut, keyIn, h5, hg, ints, setAll, cellAV, ren, renOb, φin, φout, who, live, h]
set_option maxHeartbeats 2000000 in
theorem grown5b_rn (x : It) (h5 : x.kind = 5) (hg : x.grow = true) (hr : x.rvc = false) : rn (DR G N) (k + 6) 35 [.agg x.cells] [[]] = some (.sl false (ints (grownP x)), [[]]) := by
  rw [run35]
  have h := sort4_rn G N k false
  simp only [arrS, ints, List.map] at h
  simp -implicitDefEqProofs [Tryd.f35, It.cells, grownP, endF, argsIn, subsIn, subIn, subOut, keyIn, h5, hg, hr, ints, setAll, cellAV, ren, renOb, φin, φout, who, live, h]
set_option maxHeartbeats 2000000 in
theorem grown5c_rn (x : It) (h5 : x.kind = 5) (hg : x.grow = true) (hr : x.rvc = true) : rn (DR G N) (k + 6) 35 [.agg x.cells] [[]] = some (.sl false (ints (grownP x)), [[]]) := by
  rw [run35]
  have h := sort42_rn G N k false
  simp only [arrS, ints, List.map] at h
  simp -implicitDefEqProofs [Tryd.f35, It.cells, grownP, endF, argsIn, subsIn, subIn, subOut, keyIn, h5, hg, hr, ints, setAll, cellAV, ren, renOb, φin, φout, who, live, h]
set_option maxHeartbeats 2000000 in
theorem grown6a_rn (x : It) (h6 : x.kind = 6) (hg : x.grow = false) : rn (DR G N) (k + 6) 35 [.agg x.cells] [[]] = some (.sl false (ints (grownP x)), [[]]) := by
  rw [run35]
  have h := sort8_rn G N k false
  simp only [arrS, ints, List.map] at h
  simp -implicitDefEqProofs [Tryd.f35, It.cells, grownP, endF, argsIn, subsIn, subIn, subOut, keyIn, h6, hg, ints, setAll, cellAV, ren, renOb, φin, φout, who, live, h]
set_option maxHeartbeats 2000000 in
theorem grown6b_rn (x : It) (h6 : x.kind = 6) (hg : x.grow = true) (hr : x.rvc = false) : rn (DR G N) (k + 6) 35 [.agg x.cells] [[]] = some (.sl false (ints (grownP x)), [[]]) := by
  rw [run35]
  have h := sort84_rn G N k false
  simp only [arrS, ints, List.map] at h
  simp -implicitDefEqProofs [Tryd.f35, It.cells, grownP, endF, argsIn, subsIn, subIn, subOut, keyIn, h6, hg, hr, ints, setAll, cellAV, ren, renOb, φin, φout, who, live, h]
set_option maxHeartbeats 2000000 in
theorem grown6c_rn (x : It) (h6 : x.kind = 6) (hg : x.grow = true) (hr : x.rvc = true) : rn (DR G N) (k + 6) 35 [.agg x.cells] [[]] = some (.sl false (ints (grownP x)), [[]]) := by
  rw [run35]
  have h := sort842_rn G N k false
  simp only [arrS, ints, List.map] at h
  simp -implicitDefEqProofs [Tryd.f35, It.cells, grownP, endF, argsIn, subsIn, subIn, subOut, keyIn, h6, hg, hr, ints, setAll, cellAV, ren, renOb, φin, φout, who, live, h]
end Go.Proofs.YtmekfllddifglaaDoor.AM

/- The relax seat: the classes of an item, and the next of them. Conditions: none. -/
set_option linter.unusedVariables false
set_option linter.unusedSimpArgs false
set_option maxRecDepth 10000
namespace Go.Proofs.YtmekfllddifglaaDoor.AM
open Go
variable (G : Gl) (N : Nats) (k : Nat)
theorem grown_rn (x : It) (h : x.kind = 4 ∨ x.kind = 5 ∨ x.kind = 6) : rn (DR G N) (k + 6) 35 [.agg x.cells] [[]] = some (.sl false (ints (grownP x)), [[]]) := by
  rcases h with h | h | h
  · cases hg : x.grow with
    | false => exact grown4_rn G N k x h hg
    | true =>
      cases hr : x.rvc with
      | false => exact grown4b_rn G N k x h hg hr
      | true =>
        cases hs : slimP x.op x.rs1 x.rs2 with
        | false => exact grown4c_rn G N k x h hg hr hs
        | true => exact grown4d_rn G N k x h hg hr hs
  · cases hg : x.grow with
    | false => exact grown5a_rn G N k x h hg
    | true =>
      cases hr : x.rvc with
      | false => exact grown5b_rn G N k x h hg hr
      | true => exact grown5c_rn G N k x h hg hr
  · cases hg : x.grow with
    | false => exact grown6a_rn G N k x h hg
    | true =>
      cases hr : x.rvc with
      | false => exact grown6b_rn G N k x h hg hr
      | true => exact grown6c_rn G N k x h hg hr
def classesP (x : It) : List Int :=
  if x.kind = 4 ∨ x.kind = 5 ∨ x.kind = 6 then grownP x
  else if x.kind = 9 then [(x.name.size : Int)]
  else if x.kind = 8 then (if x.size = 1 then [1] else if x.size = 2 then [2] else [4])
  else if x.kind = 2 ∨ x.kind = 3 then (if x.size = 2 then [2] else [4])
  else if x.kind = 7 then [8] else [0]
set_option maxHeartbeats 2000000 in
theorem classes_rn (x : It) : rn (DR G N) (k + 7) 22 [.agg x.cells] [[]] = some (.sl false (ints (classesP x)), [[]]) := by
  rw [run22]
  have hgr := fun h => grown_rn G N k x h
  simp only [It.cells] at hgr
  by_cases h4 : x.kind = 4
  · rw [h4] at hgr
    simp -implicitDefEqProofs [Tryd.f22, It.cells, classesP, endF, argsIn, subsIn, h4, hgr]
  by_cases h5 : x.kind = 5
  · rw [h5] at hgr
    simp -implicitDefEqProofs [Tryd.f22, It.cells, classesP, endF, argsIn, subsIn, h5, hgr]
  by_cases h6 : x.kind = 6
  · rw [h6] at hgr
    simp -implicitDefEqProofs [Tryd.f22, It.cells, classesP, endF, argsIn, subsIn, h6, hgr]
  clear hgr
  by_cases h9 : x.kind = 9
  · simp -implicitDefEqProofs [Tryd.f22, It.cells, classesP, endF, argsIn, subsIn, h9, ints, setAll, cellAV]
  by_cases h8 : x.kind = 8
  · by_cases s1 : x.size = 1
    · simp -implicitDefEqProofs [Tryd.f22, It.cells, classesP, endF, argsIn, subsIn, h8, s1, ints, setAll, cellAV]
    · by_cases s2 : x.size = 2
      · simp -implicitDefEqProofs [Tryd.f22, It.cells, classesP, endF, argsIn, subsIn, h8, s2, ints, setAll, cellAV]
      · simp -implicitDefEqProofs [Tryd.f22, It.cells, classesP, endF, argsIn, subsIn, h8, s1, s2, ints, setAll, cellAV]
  by_cases h2 : x.kind = 2
  · by_cases s2 : x.size = 2
    · simp -implicitDefEqProofs [Tryd.f22, It.cells, classesP, endF, argsIn, subsIn, h2, s2, ints, setAll, cellAV]
    · simp -implicitDefEqProofs [Tryd.f22, It.cells, classesP, endF, argsIn, subsIn, h2, s2, ints, setAll, cellAV]
  by_cases h3 : x.kind = 3
  · by_cases s2 : x.size = 2
    · simp -implicitDefEqProofs [Tryd.f22, It.cells, classesP, endF, argsIn, subsIn, h3, s2, ints, setAll, cellAV]
    · simp -implicitDefEqProofs [Tryd.f22, It.cells, classesP, endF, argsIn, subsIn, h3, s2, ints, setAll, cellAV]
  by_cases h7 : x.kind = 7
  · simp -implicitDefEqProofs [Tryd.f22, It.cells, classesP, endF, argsIn, subsIn, h7, ints, setAll, cellAV]
  · simp -implicitDefEqProofs [Tryd.f22, It.cells, classesP, endF, argsIn, subsIn, h2, h3, h4, h5, h6, h7, h8, h9, ints, setAll, cellAV]
end Go.Proofs.YtmekfllddifglaaDoor.AM

/- The relax seat: what is reached. Conditions: none. -/
set_option linter.unusedVariables false
set_option linter.unusedSimpArgs false
set_option maxRecDepth 10000
namespace Go.Proofs.YtmekfllddifglaaDoor.AM
open Go
variable (G : Gl) (N : Nats) (k : Nat)
theorem classes_len (x : It) : (classesP x).length ≤ 3 := by
  unfold classesP grownP
  repeat' split
  all_goals simp
def nextP (x : It) (s : Int) : Int × Bool := leastF s (classesP x) s false
theorem next_rn (x : It) (s : Int) : rn (DR G N) (k + 8) 53 [.agg x.cells, .v (.int .i64 s)] [[], []] = some (.tup [.v (.int .i64 (nextP x s).1), .v (.bool (nextP x s).2)], [[], []]) := by
  rw [run53]
  have hc := classes_rn G N k x
  have hl := least_rn G N (k + 6) false (classesP x) s (by have := classes_len x; omega)
  simp only [It.cells] at hc
  simp -implicitDefEqProofs [Tryd.f53, It.cells, nextP, endF, argsIn, subsIn, hc, hl]

def idxF (v : Int) : List Int → Nat → Int
  | [], _ => -1
  | x :: l, i => if v = x then (i : Int) else idxF v l (i + 1)
def st76 (nl : Bool) (l : List Int) (v : Int) (i : Nat) : St :=
  ⟨[.sl nl (ints l), .v (.int .i64 v), .dead, .dead, .dead, .dead, .dead, .v (.int .i64 l.length), .v (.int .i64 i)] ++ List.replicate 10 .dead, List.replicate 19 []⟩
theorem index_rn (nl : Bool) (l : List Int) (v : Int) (hl : l.length < 4611686018427387904) : rn (DR G N) (k + 1) 76 [.sl nl (ints l), .v (.int .i64 v)] [[], []] = some (.v (.int .i64 (idxF v l 0)), [[], []]) := by
  rw [run76]
  simp -implicitDefEqProofs [Tryd.f76, endF, argsIn, subsIn, acode_loop]
  refine aloop_ind (Q := fun r => finF _ _ _ (thenA (blockA r 0) _) = _) (I := fun r st => ∃ p, l = p ++ r ∧ idxF v r p.length = idxF v l 0 ∧ i76.hints.nm 0 st = some (st76 nl l v p.length)) ?_ ?_ l _ ⟨[], rfl, rfl, by simp -implicitDefEqProofs [NormD.run, norm, normV, normL, coSs, coCs, ren, st76, List.lookup]⟩
  · rintro st ⟨p, hp, hi, hst⟩ K
    rw [List.append_nil] at hp
    subst hp
    rw [hst]
    simp -implicitDefEqProofs [st76, endF, ← hi, idxF]
  · rintro x r st ⟨p, hp, hi, hst⟩ K hK
    have h1 : p.length < l.length := by rw [hp]; simp
    have h2 : l[p.length] = x := by simp [hp]
    have h3 := wrap64 p.length (by omega)
    rw [hst]
    by_cases c1 : v = x
    · rw [← hi]
      simp -implicitDefEqProofs [st76, h1, h2, h3, c1, endF, idxF]
    · simp -implicitDefEqProofs [st76, h1, h2, h3, c1]
      refine hK _ ⟨p ++ [x], by simp [hp], by rw [← hi]; simp [idxF, c1], ?_⟩
      simp -implicitDefEqProofs [NormD.run, norm, normV, normL, coSs, coCs, ren, st76, List.lookup]
end Go.Proofs.YtmekfllddifglaaDoor.AM

/- The relax seat: what is reached, on. Conditions: none. -/
set_option linter.unusedVariables false
set_option linter.unusedSimpArgs false
set_option maxRecDepth 10000
namespace Go.Proofs.YtmekfllddifglaaDoor.AM
open Go
variable (G : Gl) (N : Nats) (k : Nat)
theorem contains_rn (nl : Bool) (l : List Int) (v : Int) (hl : l.length < 4611686018427387904) : rn (DR G N) (k + 2) 59 [.sl nl (ints l), .v (.int .i64 v)] [[], []] = some (.v (.bool (decide (0 ≤ idxF v l 0))), [[], []]) := by
  rw [run59]
  have h := index_rn G N k nl l v hl
  simp -implicitDefEqProofs [Tryd.f59, endF, argsIn, subsIn, h]
def fitP (x : Int) (b : Nat) : Bool := decide (signP (IntKind.wrap .u32 x) b = x)
def reachesP (x : It) (s far : Int) : Bool :=
  if far.tmod 2 = 0 then
    if x.grows then
      if 0 ≤ idxF s (classesP x) 0 then
        if x.kind = 4 then (if s = 2 then fitP far 9 else if s = 4 then fitP far 13 else fitP (IntKind.wrap .i32 (far - 4)) 21)
        else (if s = 2 then fitP far 12 else if s = 4 then fitP far 21 else true)
      else false
    else false
  else false
set_option maxHeartbeats 2000000 in
theorem reaches_rn (x : It) (s far : Int) : rn (DR G N) (k + 8) 52 [.agg x.cells, .v (.int .i64 s), .v (.int .i32 far)] [[], [], []] = some (.v (.bool (reachesP x s far)), [[], [], []]) := by
  rw [run52]
  have hc := classes_rn G N k x
  have hn := contains_rn G N (k + 5) false (classesP x) s (by have := classes_len x; omega)
  have f9 := fits_rn G N (k + 4) far 9 (by omega)
  have f12 := fits_rn G N (k + 4) far 12 (by omega)
  have f13 := fits_rn G N (k + 4) far 13 (by omega)
  have f21 := fits_rn G N (k + 4) far 21 (by omega)
  have f21' := fits_rn G N (k + 4) (IntKind.wrap .i32 (far - 4)) 21 (by omega)
  simp only [Int.cast_ofNat_Int] at f9 f12 f13 f21 f21'
  simp only [It.cells] at hc
  by_cases he : far.tmod 2 = 0
  · by_cases h4 : x.kind = 4
    · rw [h4] at hc
      by_cases hi : 0 ≤ idxF s (classesP x) 0
      · by_cases s2 : s = 2
        · subst s2; simp -implicitDefEqProofs [Tryd.f52, It.cells, reachesP, It.grows, fitP, endF, argsIn, subsIn, he, h4, hc, hn, hi, f9]
        · by_cases s4 : s = 4
          · subst s4; simp -implicitDefEqProofs [Tryd.f52, It.cells, reachesP, It.grows, fitP, endF, argsIn, subsIn, he, h4, hc, hn, hi, f13]
          · simp -implicitDefEqProofs [Tryd.f52, It.cells, reachesP, It.grows, fitP, endF, argsIn, subsIn, he, h4, hc, hn, hi, s2, s4, f21']
      · simp -implicitDefEqProofs [Tryd.f52, It.cells, reachesP, It.grows, fitP, endF, argsIn, subsIn, he, h4, hc, hn, hi]
    · by_cases h56 : x.kind = 5 ∨ x.kind = 6
      · by_cases hi : 0 ≤ idxF s (classesP x) 0
        · rcases h56 with h5 | h5 <;> rw [h5] at hc
          all_goals
            by_cases s2 : s = 2
            · subst s2; simp -implicitDefEqProofs [Tryd.f52, It.cells, reachesP, It.grows, fitP, endF, argsIn, subsIn, he, h5, hc, hn, hi, f12]
            · by_cases s4 : s = 4
              · subst s4; simp -implicitDefEqProofs [Tryd.f52, It.cells, reachesP, It.grows, fitP, endF, argsIn, subsIn, he, h5, hc, hn, hi, f21]
              · simp -implicitDefEqProofs [Tryd.f52, It.cells, reachesP, It.grows, fitP, endF, argsIn, subsIn, he, h5, hc, hn, hi, s2, s4]
        · rcases h56 with h5 | h5 <;> rw [h5] at hc <;> simp -implicitDefEqProofs [Tryd.f52, It.cells, reachesP, It.grows, fitP, endF, argsIn, subsIn, he, h5, hc, hn, hi]
      · have h5 : ¬ x.kind = 5 := fun e => h56 (.inl e)
        have h6 : ¬ x.kind = 6 := fun e => h56 (.inr e)
        simp -implicitDefEqProofs [Tryd.f52, It.cells, reachesP, It.grows, endF, he, h4, h5, h6]
  · simp -implicitDefEqProofs [Tryd.f52, It.cells, reachesP, endF, he]
end Go.Proofs.YtmekfllddifglaaDoor.AM

/- The relax seat: where an item lies. Conditions: none. -/
set_option linter.unusedVariables false
set_option linter.unusedSimpArgs false
set_option maxRecDepth 10000
namespace Go.Proofs.YtmekfllddifglaaDoor.AM
open Go
variable (G : Gl) (N : Nats) (k : Nat)
def errA (line col code : Int) : AV := .ifc 67 (.ref [.v (.int .i64 line), .v (.int .i64 col), .ifc 87 (.v (.int .i64 code))])
theorem fault_rn (x : It) (c : Int) : rn (DR G N) (k + 1) 51 [.agg x.cells, .v (.int .i64 c)] [[], []] = some (errA x.line x.col c, [[], []]) := by
  rw [run51]
  simp -implicitDefEqProofs [Tryd.f51, It.cells, errA, endF, argsIn, subsIn]
def It.instr (x : It) : Bool := decide (x.kind = 2) || decide (x.kind = 3) || decide (x.kind = 4) || decide (x.kind = 5) || decide (x.kind = 6) || decide (x.kind = 7)
theorem instruction_rn (x : It) : rn (DR G N) (k + 1) 74 [.agg x.cells] [[]] = some (.v (.bool x.instr), [[]]) := by
  rw [run74]
  by_cases h2 : x.kind = 2
  · simp -implicitDefEqProofs [Tryd.f74, It.cells, It.instr, endF, h2]
  by_cases h3 : x.kind = 3
  · simp -implicitDefEqProofs [Tryd.f74, It.cells, It.instr, endF, h3]
  by_cases h4 : x.kind = 4
  · simp -implicitDefEqProofs [Tryd.f74, It.cells, It.instr, endF, h4]
  by_cases h5 : x.kind = 5
  · simp -implicitDefEqProofs [Tryd.f74, It.cells, It.instr, endF, h5]
  by_cases h6 : x.kind = 6
  · simp -implicitDefEqProofs [Tryd.f74, It.cells, It.instr, endF, h6]
  by_cases h7 : x.kind = 7
  · simp -implicitDefEqProofs [Tryd.f74, It.cells, It.instr, endF, h7]
  · simp -implicitDefEqProofs [Tryd.f74, It.cells, It.instr, endF, h2, h3, h4, h5, h6, h7]
theorem classes_ne (x : It) : classesP x ≠ [] := by
  unfold classesP grownP
  repeat' split
  all_goals simp
/-- How many bytes an item has; or that it cannot be. -/
def bytesP (x : It) (size at_ base : Int) : Option Int :=
  if x.kind = 4 ∨ x.kind = 5 ∨ x.kind = 6 then some (IntKind.wrap .u64 (if 8 < (if size < 0 then 0 else size) then 8 else (if size < 0 then 0 else size)))
  else if x.kind = 10 then
    let n := IntKind.wrap .u64 x.num
    if n = 0 then some 0 else some ((IntKind.wrap .u64 (n - at_.tmod n)).tmod n)
  else if x.kind = 11 then
    let n := IntKind.wrap .u64 x.num
    if n < IntKind.wrap .u64 (at_ - base) then none else some (IntKind.wrap .u64 (n - IntKind.wrap .u64 (at_ - base)))
  else some (IntKind.wrap .u64 ((classesP x).headD 0))
def bytesA' (x : It) (r : Option Int) : AV := match r with
  | some n => .tup [.v (.int .u64 n), .v .nilIface]
  | none => .tup [.v (.int .u64 0), errA x.line x.col 12]
set_option maxHeartbeats 2000000 in
theorem bytes_rn (x : It) (size at_ base : Int) : rn (DR G N) (k + 8) 75 [.agg x.cells, .v (.int .i64 size), .v (.int .u64 at_), .v (.int .u64 base)] [[], [], [], []] = some (bytesA' x (bytesP x size at_ base), [[], [], [], []]) := by
  rw [run75]
  have hc := classes_rn G N k x
  have hf := fault_rn G N (k + 6) x 12
  simp only [It.cells, errA] at hc hf
  by_cases h4 : x.kind = 4
  · simp -implicitDefEqProofs [Tryd.f75, It.cells, bytesP, bytesA', endF, argsIn, subsIn, h4]
  by_cases h5 : x.kind = 5
  · simp -implicitDefEqProofs [Tryd.f75, It.cells, bytesP, bytesA', endF, argsIn, subsIn, h5]
  by_cases h6 : x.kind = 6
  · simp -implicitDefEqProofs [Tryd.f75, It.cells, bytesP, bytesA', endF, argsIn, subsIn, h6]
  by_cases h10 : x.kind = 10
  · by_cases hn : IntKind.wrap .u64 x.num = 0
    · simp -implicitDefEqProofs [Tryd.f75, It.cells, bytesP, bytesA', endF, argsIn, subsIn, h10, hn]
    · simp -implicitDefEqProofs [Tryd.f75, It.cells, bytesP, bytesA', endF, argsIn, subsIn, h10, hn]
  by_cases h11 : x.kind = 11
  · rw [h11] at hf
    by_cases hn : IntKind.wrap .u64 x.num < IntKind.wrap .u64 (at_ - base)
    · simp -implicitDefEqProofs [Tryd.f75, It.cells, bytesP, bytesA', endF, argsIn, subsIn, h11, hn, hf, errA]
    · simp -implicitDefEqProofs [Tryd.f75, It.cells, bytesP, bytesA', endF, argsIn, subsIn, h11, hn]
  · obtain ⟨a, t, ht⟩ : ∃ a t, classesP x = a :: t := by
      cases h : classesP x with
      | nil => exact (classes_ne x h).elim
      | cons a t => exact ⟨a, t, rfl⟩
    simp only [ht, ints, List.map_cons] at hc
    simp -implicitDefEqProofs [Tryd.f75, It.cells, bytesP, bytesA', endF, argsIn, subsIn, h4, h5, h6, h10, h11, hc, ht]
end Go.Proofs.YtmekfllddifglaaDoor.AM

/- The relax seat: items and symbols in lists; targets. Conditions: none. -/
set_option linter.unusedVariables false
set_option linter.unusedSimpArgs false
set_option maxRecDepth 10000
namespace Go.Proofs.YtmekfllddifglaaDoor.AM
open Go
variable (G : Gl) (N : Nats) (k : Nat)
/-- A symbol. -/
structure Sy where
  name : ByteArray
  val : Int
  cls : Int
def Sy.cells (s : Sy) : List AV := [.v (.string s.name), .v (.int .u32 s.val), .v (.int .i64 s.cls)]
@[simp] theorem Sy.len (x : Sy) : x.cells.length = 3 := rfl
@[simp] theorem Sy.c0 (x : Sy) : x.cells[0]? = some (.v (.string x.name)) := rfl
@[simp] theorem Sy.g0 (x : Sy) (h : 0 < x.cells.length) : x.cells[0]'h = .v (.string x.name) := rfl
@[simp] theorem Sy.d0 (x : Sy) : (x.cells.drop 0).head? = some (.v (.string x.name)) := rfl
@[simp] theorem Sy.c1 (x : Sy) : x.cells[1]? = some (.v (.int .u32 x.val)) := rfl
@[simp] theorem Sy.g1 (x : Sy) (h : 1 < x.cells.length) : x.cells[1]'h = .v (.int .u32 x.val) := rfl
@[simp] theorem Sy.d1 (x : Sy) : (x.cells.drop 1).head? = some (.v (.int .u32 x.val)) := rfl
@[simp] theorem Sy.c2 (x : Sy) : x.cells[2]? = some (.v (.int .i64 x.cls)) := rfl
@[simp] theorem Sy.g2 (x : Sy) (h : 2 < x.cells.length) : x.cells[2]'h = .v (.int .i64 x.cls) := rfl
@[simp] theorem Sy.d2 (x : Sy) : (x.cells.drop 2).head? = some (.v (.int .i64 x.cls)) := rfl
@[simp] theorem Sy.h (x : Sy) : x.cells.head? = some (.v (.string x.name)) := rfl
@[simp] theorem Sy.tk (x : Sy) : x.cells.take 3 = x.cells := rfl
@[simp] theorem Sy.dn (x : Sy) : x.cells.drop 3 = [] := rfl
@[simp] theorem Sy.st (x : Sy) (d : Nat) (p : List Nat) (off : Nat) (S : Subs) : (settle d p off x.cells).run S = some (x.cells, S) := settle_plain d p _ off S rfl
@[simp] theorem Sy.pb (x : Sy) (n : Nat) (S : Subs) : mapR (pub (n + 1)) x.cells S = some (x.cells, S) := by simp [Sy.cells]
@[simp] theorem Sy.pb1 (x : Sy) (S : Subs) : mapR (pub 1) x.cells S = some (x.cells, S) := Sy.pb x 0 S
@[simp] theorem Sy.pb2 (x : Sy) (S : Subs) : mapR (pub 2) x.cells S = some (x.cells, S) := Sy.pb x 1 S
@[simp] theorem Sy.pb3 (x : Sy) (S : Subs) : mapR (pub 3) x.cells S = some (x.cells, S) := Sy.pb x 2 S
@[simp] theorem Sy.pb4 (x : Sy) (S : Subs) : mapR (pub 4) x.cells S = some (x.cells, S) := Sy.pb x 3 S
@[simp] theorem Sy.pb5 (x : Sy) (S : Subs) : mapR (pub 5) x.cells S = some (x.cells, S) := Sy.pb x 4 S
@[simp] theorem Sy.pb6 (x : Sy) (S : Subs) : mapR (pub 6) x.cells S = some (x.cells, S) := Sy.pb x 5 S
@[simp] theorem Sy.pb7 (x : Sy) (S : Subs) : mapR (pub 7) x.cells S = some (x.cells, S) := Sy.pb x 6 S
@[simp] theorem Sy.pb59 (x : Sy) (S : Subs) : mapR (pub 59) x.cells S = some (x.cells, S) := Sy.pb x 58 S
@[simp] theorem Sy.pb58 (x : Sy) (S : Subs) : mapR (pub 58) x.cells S = some (x.cells, S) := Sy.pb x 57 S
@[simp] theorem Sy.rn (x : Sy) (φ : Ren) : rens φ x.cells = x.cells := rfl
@[simp] theorem Sy.al (x : Sy) : x.cells.all cellAV = true := rfl
def syms (l : List Sy) : List AV := l.map fun s => .agg s.cells
@[simp] theorem syms_length (l : List Sy) : (syms l).length = l.length := by simp [syms]
@[simp] theorem syms_get (l : List Sy) (n : Nat) (h : n < (syms l).length) : (syms l)[n] = .agg (l[n]'(by simpa using h)).cells := by simp [syms]
def items (l : List It) : List AV := l.map fun s => .agg s.cells
@[simp] theorem items_length (l : List It) : (items l).length = l.length := by simp [items]
@[simp] theorem items_get (l : List It) (n : Nat) (h : n < (items l).length) : (items l)[n] = .agg (l[n]'(by simpa using h)).cells := by simp [items]
def words (l : List Int) : List AV := l.map fun n => .v (.int .u32 n)
@[simp] theorem words_length (l : List Int) : (words l).length = l.length := by simp [words]
@[simp] theorem words_get (l : List Int) (n : Nat) (h : n < (words l).length) : (words l)[n] = .v (.int .u32 (l[n]'(by simpa using h))) := by simp [words]
def sameN (a b : ByteArray) : Bool := a.toList == b.toList
/-- The first symbol of that name. -/
def symF (name : ByteArray) : List Sy → Option Int
  | [] => none
  | s :: l => if sameN s.name name then some s.val else symF name l
def symA (r : Option Int) : AV := match r with
  | some v => .tup [.v (.int .u32 v), .v (.bool true)]
  | none => .tup [.v (.int .u32 0), .v (.bool false)]
@[simp] theorem symA_some (v : Int) : symA (some v) = .tup [.v (.int .u32 v), .v (.bool true)] := rfl
@[simp] theorem symA_none : symA none = .tup [.v (.int .u32 0), .v (.bool false)] := rfl
def st18 (x : It) (nl : Bool) (l : List Sy) (i : Nat) : St :=
  ⟨[.dead, .dead, .loc 2 [] 1 0, .dead, .dead, .dead, .dead, .dead, .sl nl (syms l), .v (.int .i64 l.length), .v (.int .i64 i)] ++ List.replicate 11 .dead, [[], [], [([], (1, some (.box false x.cells)))]] ++ List.replicate 19 []⟩
theorem target_rn (x : It) (nl : Bool) (l : List Sy) (hl : l.length < 4611686018427387904) : rn (DR G N) (k + 1) 18 [.agg x.cells, .sl nl (syms l)] [[], []] = some (symA (symF x.name l), [[], []]) := by
  rw [run18]
  simp -implicitDefEqProofs [Tryd.f18, endF, argsIn, subsIn, acode_loop]
  refine aloop_ind (Q := fun r => finF _ _ _ (thenA (blockA r 0) _) = _) (I := fun r st => ∃ p, l = p ++ r ∧ symF x.name r = symF x.name l ∧ i18.hints.nm 0 st = some (st18 x nl l p.length)) ?_ ?_ l _ ⟨[], rfl, rfl, by simp -implicitDefEqProofs [NormD.run, norm, st18, List.lookup]⟩
  · rintro st ⟨p, hp, hi, hst⟩ K
    rw [List.append_nil] at hp
    subst hp
    rw [hst, ← hi]
    simp -implicitDefEqProofs [st18, endF, symF]
  · rintro s r st ⟨p, hp, hi, hst⟩ K hK
    have h1 : p.length < l.length := by rw [hp]; simp
    have h2 : l[p.length] = s := by simp [hp]
    have h3 := wrap64 p.length (by omega)
    rw [hst]
    by_cases c1 : (s.name.toList == x.name.toList) = true
    · rw [← hi]
      simp -implicitDefEqProofs [st18, h1, h2, h3, endF, symF, sameN, c1]
    · simp only [Bool.not_eq_true] at c1
      simp -implicitDefEqProofs [st18, h1, h2, h3, c1]
      refine hK _ ⟨p ++ [s], by simp [hp], by rw [← hi]; simp [symF, sameN, c1], ?_⟩
      simp -implicitDefEqProofs [NormD.run, norm, st18, List.lookup]
end Go.Proofs.YtmekfllddifglaaDoor.AM

/- The relax seat: the document's classes, and what goes with them. Conditions: none. -/
set_option linter.unusedVariables false
set_option linter.unusedSimpArgs false
set_option maxRecDepth 10000
namespace Go.Proofs.YtmekfllddifglaaDoor.AM
open Go
variable (G : Gl) (N : Nats) (k : Nat)
set_option maxHeartbeats 4000000 in
theorem classesR_rn (x : It) : rn (DR G N) (k + 1) 28 [.agg x.cells] [[]] = some (.sl false (ints (classesP x)), [[]]) := by
  rw [run28]
  by_cases h4 : x.kind = 4
  · cases hr : x.rvc with
    | false => cases hg : x.grow <;> simp -implicitDefEqProofs [Tryd.f28, classesP, grownP, slimP, endF, ints, setAll, cellAV, h4, hg, hr]
    | true =>
      by_cases o5 : x.op = 5
      · by_cases r2 : x.rs2 = 0
        · by_cases r8 : 8 ≤ x.rs1
          · by_cases r15 : x.rs1 ≤ 15 <;> cases hg : x.grow <;> simp -implicitDefEqProofs [Tryd.f28, classesP, grownP, slimP, endF, ints, setAll, cellAV, h4, hg, hr, o5, r2, r8, r15]
          · cases hg : x.grow <;> simp -implicitDefEqProofs [Tryd.f28, classesP, grownP, slimP, endF, ints, setAll, cellAV, h4, hg, hr, o5, r2, r8]
        · cases hg : x.grow <;> simp -implicitDefEqProofs [Tryd.f28, classesP, grownP, slimP, endF, ints, setAll, cellAV, h4, hg, hr, o5, r2]
      · by_cases o6 : x.op = 6
        · by_cases r2 : x.rs2 = 0
          · by_cases r8 : 8 ≤ x.rs1
            · by_cases r15 : x.rs1 ≤ 15 <;> cases hg : x.grow <;> simp -implicitDefEqProofs [Tryd.f28, classesP, grownP, slimP, endF, ints, setAll, cellAV, h4, hg, hr, o6, r2, r8, r15]
            · cases hg : x.grow <;> simp -implicitDefEqProofs [Tryd.f28, classesP, grownP, slimP, endF, ints, setAll, cellAV, h4, hg, hr, o6, r2, r8]
          · cases hg : x.grow <;> simp -implicitDefEqProofs [Tryd.f28, classesP, grownP, slimP, endF, ints, setAll, cellAV, h4, hg, hr, o6, r2]
        · cases hg : x.grow <;> simp -implicitDefEqProofs [Tryd.f28, classesP, grownP, slimP, endF, ints, setAll, cellAV, h4, hg, hr, o5, o6]
  by_cases h5 : x.kind = 5
  · cases hg : x.grow <;> cases hr : x.rvc <;> simp -implicitDefEqProofs [Tryd.f28, classesP, grownP, endF, ints, setAll, cellAV, h5, hg, hr]
  by_cases h6 : x.kind = 6
  · cases hg : x.grow <;> cases hr : x.rvc <;> simp -implicitDefEqProofs [Tryd.f28, classesP, grownP, endF, ints, setAll, cellAV, h6, hg, hr]
  by_cases h2 : x.kind = 2
  · by_cases s2 : x.size = 2 <;> simp -implicitDefEqProofs [Tryd.f28, classesP, endF, ints, setAll, cellAV, h2, s2]
  by_cases h3 : x.kind = 3
  · by_cases s2 : x.size = 2 <;> simp -implicitDefEqProofs [Tryd.f28, classesP, endF, ints, setAll, cellAV, h3, s2]
  by_cases h8 : x.kind = 8
  · by_cases s1 : x.size = 1
    · simp -implicitDefEqProofs [Tryd.f28, classesP, endF, ints, setAll, cellAV, h8, s1]
    · by_cases s2 : x.size = 2 <;> simp -implicitDefEqProofs [Tryd.f28, classesP, endF, ints, setAll, cellAV, h8, s1, s2]
  by_cases h9 : x.kind = 9
  · simp -implicitDefEqProofs [Tryd.f28, classesP, endF, ints, setAll, cellAV, h9]
  by_cases h7 : x.kind = 7
  · simp -implicitDefEqProofs [Tryd.f28, classesP, endF, ints, setAll, cellAV, h7]
  · simp -implicitDefEqProofs [Tryd.f28, classesP, endF, ints, setAll, cellAV, h2, h3, h4, h5, h6, h7, h8, h9]
theorem at_rn (x : It) (c : Int) : rn (DR G N) (k + 1) 29 [.agg x.cells, .v (.int .i64 c)] [[], []] = some (.agg [.v (.int .i64 x.line), .v (.int .i64 x.col), .v (.int .i64 c)], [[], []]) := by
  rw [run29]
  simp -implicitDefEqProofs [Tryd.f29, endF]

/-- The first class that is greater. -/
def nextF (s : Int) : List Int → Int × Bool
  | [] => (s, false)
  | x :: l => if s < x then (x, true) else nextF s l
def st30 (l : List Int) (s : Int) (i : Nat) : St :=
  ⟨[.dead, .v (.int .i64 s), .dead, .dead, .dead, .dead, .sl false (ints l), .v (.int .i64 i)] ++ List.replicate 19 .dead, List.replicate 27 []⟩
theorem nextR_rn (x : It) (s : Int) : rn (DR G N) (k + 2) 30 [.agg x.cells, .v (.int .i64 s)] [[], []] = some (.tup [.v (.int .i64 (nextF s (classesP x)).1), .v (.bool (nextF s (classesP x)).2)], [[], []]) := by
  rw [run30]
  have hc := classesR_rn G N k x
  have hl := classes_len x
  generalize hcl : classesP x = l at hc hl ⊢
  simp -implicitDefEqProofs [Tryd.f30, endF, argsIn, subsIn, acode_loop, hc]
  refine aloop_ind (Q := fun r => finF _ _ _ (thenA (blockA r 0) _) = _) (I := fun r st => ∃ p, l = p ++ r ∧ nextF s r = nextF s l ∧ i30.hints.nm 0 st = some (st30 l s p.length)) ?_ ?_ l _ ⟨[], rfl, rfl, by simp -implicitDefEqProofs [NormD.run, norm, st30, List.lookup]⟩
  · rintro st ⟨p, hp, hi, hst⟩ K
    rw [List.append_nil] at hp
    subst hp
    rw [hst, ← hi]
    simp -implicitDefEqProofs [st30, endF, nextF]
  · rintro y r st ⟨p, hp, hi, hst⟩ K hK
    have h1 : p.length < l.length := by rw [hp]; simp
    have h2 : l[p.length] = y := by simp [hp]
    have h3 := wrap64 p.length (by omega)
    rw [hst]
    by_cases c1 : s < y
    · rw [← hi]
      simp -implicitDefEqProofs [st30, h1, h2, h3, endF, nextF, c1]
    · simp -implicitDefEqProofs [st30, h1, h2, h3, c1]
      refine hK _ ⟨p ++ [y], by simp [hp], by rw [← hi]; simp [nextF, c1], ?_⟩
      simp -implicitDefEqProofs [NormD.run, norm, st30, List.lookup]
end Go.Proofs.YtmekfllddifglaaDoor.AM

/- The relax seat: what the document says is reached; its targets; what is said of sizes. Conditions: none. -/
set_option linter.unusedVariables false
set_option linter.unusedSimpArgs false
set_option maxRecDepth 10000
namespace Go.Proofs.YtmekfllddifglaaDoor.AM
open Go
variable (G : Gl) (N : Nats) (k : Nat)
/-- Within half of it. -/
def halfP (v h : Int) : Bool := decide (-h ≤ v) && decide (v < h)
def hasF (s : Int) : List Int → Bool
  | [] => false
  | c :: l => decide (c = s) || hasF s l
def reachesQ (x : It) (s far : Int) : Bool :=
  if hasF s (classesP x) = true then
    if x.kind < 4 then false else if 6 < x.kind then false else if (IntKind.wrap .u32 far).tmod 2 = 1 then false
    else if x.kind = 4 then (if s = 2 then halfP (IntKind.wrap .i64 far) 256 else if s = 4 then halfP (IntKind.wrap .i64 far) 4096 else halfP (IntKind.wrap .i64 (IntKind.wrap .i64 far - 4)) 1048576)
    else if s = 2 then halfP (IntKind.wrap .i64 far) 2048 else if s = 8 then true else halfP (IntKind.wrap .i64 far) 1048576
  else false
def st27 (x : It) (l : List Int) (s far : Int) (i : Nat) (has : Bool) : St :=
  ⟨[.dead, .v (.int .i64 s), .v (.int .i32 far), .loc 3 [] 1 0, .dead, .dead, .dead, .sl false (ints l), .v (.bool has), .v (.int .i64 i)] ++ List.replicate 76 .dead, [[], [], [], [([], (1, some (.box false x.cells)))]] ++ List.replicate 82 []⟩
set_option maxHeartbeats 2000000 in
theorem reachesR_rn (x : It) (s far : Int) : rn (DR G N) (k + 2) 27 [.agg x.cells, .v (.int .i64 s), .v (.int .i32 far)] [[], [], []] = some (.v (.bool (reachesQ x s far)), [[], [], []]) := by
  rw [run27]
  have hc := classesR_rn G N k x
  have hl := classes_len x
  unfold reachesQ
  generalize hcl : classesP x = l at hc hl ⊢
  simp -implicitDefEqProofs [Tryd.f27, endF, argsIn, subsIn, acode_loop, hc]
  have n1 : IntKind.wrap .i64 (-256) = -256 := by decide
  have n2 : IntKind.wrap .i64 (-4096) = -4096 := by decide
  have n3 : IntKind.wrap .i64 (-2048) = -2048 := by decide
  have n4 : IntKind.wrap .i64 (-1048576) = -1048576 := by decide
  refine aloop_ind (Q := fun r => finF _ _ _ (thenA (blockA r 0) _) = _) (I := fun r st => ∃ p has, l = p ++ r ∧ (has || hasF s r) = hasF s l ∧ i27.hints.nm 0 st = some (st27 x l s far p.length has)) ?_ ?_ l _ ⟨[], false, rfl, by simp, by simp -implicitDefEqProofs [NormD.run, norm, st27, List.lookup]⟩
  · rintro st ⟨p, has, hp, hi, hst⟩ K
    rw [List.append_nil] at hp
    subst hp
    simp only [hasF, Bool.or_false] at hi
    rw [hst, ← hi]
    cases has with
    | false => simp -implicitDefEqProofs [st27, endF]
    | true =>
      by_cases k4 : x.kind < 4
      · simp -implicitDefEqProofs [st27, endF, k4]
      by_cases k6 : 6 < x.kind
      · simp -implicitDefEqProofs [st27, endF, k4, k6]
      by_cases hf : (IntKind.wrap .u32 far).tmod 2 = 1
      · simp -implicitDefEqProofs [st27, endF, k4, k6, hf]
      by_cases e4 : x.kind = 4
      · by_cases s2 : s = 2
        · by_cases q : -256 ≤ IntKind.wrap .i64 far <;> simp -implicitDefEqProofs [st27, endF, k4, k6, hf, e4, s2, halfP, q, n1]
        · by_cases s4 : s = 4
          · by_cases q : -4096 ≤ IntKind.wrap .i64 far <;> simp -implicitDefEqProofs [st27, endF, k4, k6, hf, e4, s2, s4, halfP, q, n2]
          · by_cases q : -1048576 ≤ IntKind.wrap .i64 (IntKind.wrap .i64 far - 4) <;> simp -implicitDefEqProofs [st27, endF, k4, k6, hf, e4, s2, s4, halfP, q, n4]
      · by_cases s2 : s = 2
        · by_cases q : -2048 ≤ IntKind.wrap .i64 far <;> simp -implicitDefEqProofs [st27, endF, k4, k6, hf, e4, s2, halfP, q, n3]
        · by_cases s8 : s = 8
          · simp -implicitDefEqProofs [st27, endF, k4, k6, hf, e4, s2, s8]
          · by_cases q : -1048576 ≤ IntKind.wrap .i64 far <;> simp -implicitDefEqProofs [st27, endF, k4, k6, hf, e4, s2, s8, halfP, q, n4]
  · rintro y r st ⟨p, has, hp, hi, hst⟩ K hK
    have h1 : p.length < l.length := by rw [hp]; simp
    have h2 : l[p.length] = y := by simp [hp]
    have h3 := wrap64 p.length (by omega)
    rw [hst]
    cases has with
    | true =>
      simp -implicitDefEqProofs [st27, h1, h2, h3]
      refine hK _ ⟨p ++ [y], true, by simp [hp], by rw [← hi]; simp [hasF], ?_⟩
      simp -implicitDefEqProofs [NormD.run, norm, st27, List.lookup]
    | false =>
      simp -implicitDefEqProofs [st27, h1, h2, h3]
      refine hK _ ⟨p ++ [y], decide (y = s), by simp [hp], by rw [← hi]; simp [hasF], ?_⟩
      simp -implicitDefEqProofs [NormD.run, norm, st27, List.lookup]
def st19 (x : It) (nl : Bool) (l : List Sy) (i : Nat) : St :=
  ⟨[.dead, .sl nl (syms l), .loc 2 [] 1 0, .dead, .dead, .dead, .v (.int .i64 i)] ++ List.replicate 19 .dead, [[], [], [([], (1, some (.box false x.cells)))]] ++ List.replicate 23 []⟩
theorem targetR_rn (x : It) (nl : Bool) (l : List Sy) (hl : l.length < 4611686018427387904) : rn (DR G N) (k + 1) 19 [.agg x.cells, .sl nl (syms l)] [[], []] = some (symA (symF x.name l), [[], []]) := by
  rw [run19]
  simp -implicitDefEqProofs [Tryd.f19, endF, argsIn, subsIn, acode_loop]
  refine aloop_ind (Q := fun r => finF _ _ _ (thenA (blockA r 0) _) = _) (I := fun r st => ∃ p, l = p ++ r ∧ symF x.name r = symF x.name l ∧ i19.hints.nm 0 st = some (st19 x nl l p.length)) ?_ ?_ l _ ⟨[], rfl, rfl, by simp -implicitDefEqProofs [NormD.run, norm, st19, List.lookup]⟩
  · rintro st ⟨p, hp, hi, hst⟩ K
    rw [List.append_nil] at hp
    subst hp
    rw [hst, ← hi]
    simp -implicitDefEqProofs [st19, endF, symF]
  · rintro s r st ⟨p, hp, hi, hst⟩ K hK
    have h1 : p.length < l.length := by rw [hp]; simp
    have h2 : l[p.length] = s := by simp [hp]
    have h3 := wrap64 p.length (by omega)
    rw [hst]
    by_cases c1 : (s.name.toList == x.name.toList) = true
    · rw [← hi]
      simp -implicitDefEqProofs [st19, drawD_nil, h1, h2, h3, endF, symF, sameN, c1]
    · simp only [Bool.not_eq_true] at c1
      simp -implicitDefEqProofs [st19, drawD_nil, h1, h2, h3, c1]
      refine hK _ ⟨p ++ [s], by simp [hp], by rw [← hi]; simp [symF, sameN, c1], ?_⟩
      simp -implicitDefEqProofs [NormD.run, norm, st19, List.lookup]
/-- How many bytes are said. -/
def saidP (l : List Int) (i : Nat) : Int := if h : i < l.length then (if l[i] < 0 then 0 else if 8 < l[i] then 8 else l[i]) else 0
theorem said_rn (nl : Bool) (l : List Int) (i : Nat) (hl : l.length < 4611686018427387904) : rn (DR G N) (k + 1) 44 [.sl nl (ints l), .v (.int .i64 i)] [[], []] = some (.v (.int .i64 (saidP l i)), [[], []]) := by
  rw [run44]
  by_cases h : i < l.length
  · have h' : ¬ l.length ≤ i := by omega
    by_cases h0 : l[i] < 0
    · simp -implicitDefEqProofs [Tryd.f44, saidP, endF, h, h', h0]
    · by_cases h8 : 8 < l[i]
      · simp -implicitDefEqProofs [Tryd.f44, saidP, endF, h, h', h0, h8]
      · simp -implicitDefEqProofs [Tryd.f44, saidP, endF, h, h', h0, h8]
  · have h' : l.length ≤ i := by omega
    simp -implicitDefEqProofs [Tryd.f44, saidP, endF, h, h']
end Go.Proofs.YtmekfllddifglaaDoor.AM

/- The relax seat: lists held against each other; symbols of the document as the program's. Conditions: none. -/
set_option linter.unusedVariables false
set_option linter.unusedSimpArgs false
set_option maxRecDepth 10000
namespace Go.Proofs.YtmekfllddifglaaDoor.AM
open Go
variable (G : Gl) (N : Nats) (k : Nat)
def symC (s : Sy) : Sy := ⟨s.name, s.val, if s.cls = 0 then 0 else 1⟩
theorem syms_snoc (l : List Sy) (s : Sy) : syms (l ++ [s]) = syms l ++ [.agg s.cells] := by simp [syms]
def st10 (nl : Bool) (l q : List Sy) : St :=
  ⟨[.sl nl (syms l), .dead, .dead, .own 3 [] 1 0 q.length, .v (.int .i64 q.length)] ++ List.replicate 29 .dead, [[], [], [], [([], (1, some (.arr q.isEmpty false 3 74 (syms q))))]] ++ List.replicate 30 []⟩
set_option maxHeartbeats 2000000 in
theorem symsC_rn (nl : Bool) (l : List Sy) (hl : l.length < 1000000) : rn (DR G N) (k + 1) 10 [.sl nl (syms l)] [[]] = some (.sl l.isEmpty (syms (l.map symC)), [[]]) := by
  rw [run10]
  simp -implicitDefEqProofs [Tryd.f10, endF, argsIn, subsIn, acode_loop]
  refine aloop_ind (Q := fun r => finF _ _ _ (thenA (blockA r 0) _) = _) (I := fun r st => ∃ p, l = p ++ r ∧ i10.hints.nm 0 st = some (st10 nl l (p.map symC))) ?_ ?_ l _ ⟨[], rfl, by simp -implicitDefEqProofs [NormD.run, norm, st10, List.lookup, coSs, coS, setEnt, Sub.put, ctr, sub, Sub.ent, syms]⟩
  · rintro st ⟨p, hp, hst⟩ K
    rw [List.append_nil] at hp
    subst hp
    rw [hst]
    simp -implicitDefEqProofs [st10, endF, List.take_of_length_le]
  · rintro s r st ⟨p, hp, hst⟩ K hK
    have h1 : p.length < l.length := by rw [hp]; simp
    have h2 : l[p.length] = s := by simp [hp]
    have h3 := wrap64 p.length (by omega)
    have h6 : (p.length + 1) * 33 ≤ 140737488355328 := by omega
    rw [hst]
    by_cases c1 : s.cls = 0
    · simp -implicitDefEqProofs [st10, drawD_nil, h1, h2, h3, h6, c1, setAll, cellAV, List.take_of_length_le]
      refine hK _ ⟨p ++ [s], by simp [hp], ?_⟩
      simp -implicitDefEqProofs [NormD.run, norm, st10, List.lookup, coSs, coS, syms_snoc, symC, c1, Sy.cells]
    · simp -implicitDefEqProofs [st10, drawD_nil, h1, h2, h3, h6, c1, setAll, cellAV, List.take_of_length_le]
      refine hK _ ⟨p ++ [s], by simp [hp], ?_⟩
      simp -implicitDefEqProofs [NormD.run, norm, st10, List.lookup, coSs, coS, syms_snoc, symC, c1, Sy.cells]
end Go.Proofs.YtmekfllddifglaaDoor.AM
