/- The relax seat: Nm, Nn. Conditions: none. -/
import Derived.Test.YtmekfllddifglaaDoorP09
set_option linter.unusedVariables false
set_option linter.unusedSimpArgs false
/- The abstract machine, part Nm: operations in functions that run in their caller's store (written by gennm.py). Conditions: none. -/
set_option linter.unusedVariables false
set_option linter.unusedSimpArgs false
namespace Go.Proofs.YtmekfllddifglaaDoor.AM
open Go
section
variable (G G' : Gl) (P : Program) (T : Tbl) (inl : InlT) (c0 : LoopC) (off : Nat) (sl : List AV) (S : Subs) (st : St) (dst : Option Tmp) (ty : TypeId) (pos : String) (af : Array Edge) (gd : Option (Nat × Bool))
@[simp] theorem stepI_move (x : Operand) : stepO G (carryI P G' T inl) ⟨dst, .move x, ty, pos, af, gd⟩ st = stepO G (carry P T) ⟨dst, .move x, ty, pos, af, gd⟩ st := rfl
@[simp] theorem fpI_move (x : Operand) : fpC G (carryI P G' T inl) ⟨dst, .move x, ty, pos, af, gd⟩ st = fpC G (carry P T) ⟨dst, .move x, ty, pos, af, gd⟩ st := rfl
@[simp] theorem stepY_move (x : Operand) : stepO G (carryY P G' T inl c0 off) ⟨dst, .move x, ty, pos, af, gd⟩ st = stepO G (shiftC off (carry P T)) ⟨dst, .move x, ty, pos, af, gd⟩ st := rfl
@[simp] theorem stepS_move (x : Operand) : stepO G (shiftC off (carry P T)) ⟨dst, .move x, ty, pos, af, gd⟩ st = stepO G (carry P T) ⟨dst, .move x, ty, pos, af, gd⟩ st := rfl
@[simp] theorem fpY_move (x : Operand) : fpC G (carryY P G' T inl c0 off) ⟨dst, .move x, ty, pos, af, gd⟩ st = fpC G (carry P T) ⟨dst, .move x, ty, pos, af, gd⟩ st := rfl
@[simp] theorem fpS_move (x : Operand) : fpC G (shiftC off (carry P T)) ⟨dst, .move x, ty, pos, af, gd⟩ st = fpC G (carry P T) ⟨dst, .move x, ty, pos, af, gd⟩ st := rfl
@[simp] theorem stepI_assign (x : Operand) : stepO G (carryI P G' T inl) ⟨dst, .assign x, ty, pos, af, gd⟩ st = stepO G (carry P T) ⟨dst, .assign x, ty, pos, af, gd⟩ st := rfl
@[simp] theorem fpI_assign (x : Operand) : fpC G (carryI P G' T inl) ⟨dst, .assign x, ty, pos, af, gd⟩ st = fpC G (carry P T) ⟨dst, .assign x, ty, pos, af, gd⟩ st := rfl
@[simp] theorem stepY_assign (x : Operand) : stepO G (carryY P G' T inl c0 off) ⟨dst, .assign x, ty, pos, af, gd⟩ st = stepO G (shiftC off (carry P T)) ⟨dst, .assign x, ty, pos, af, gd⟩ st := rfl
@[simp] theorem stepI_pick (c a b : Operand) : stepO G (carryI P G' T inl) ⟨dst, .pick c a b, ty, pos, af, gd⟩ st = stepO G (carry P T) ⟨dst, .pick c a b, ty, pos, af, gd⟩ st := rfl
@[simp] theorem fpI_pick (c a b : Operand) : fpC G (carryI P G' T inl) ⟨dst, .pick c a b, ty, pos, af, gd⟩ st = fpC G (carry P T) ⟨dst, .pick c a b, ty, pos, af, gd⟩ st := rfl
@[simp] theorem stepY_pick (c a b : Operand) : stepO G (carryY P G' T inl c0 off) ⟨dst, .pick c a b, ty, pos, af, gd⟩ st = stepO G (shiftC off (carry P T)) ⟨dst, .pick c a b, ty, pos, af, gd⟩ st := rfl
@[simp] theorem stepS_pick (c a b : Operand) : stepO G (shiftC off (carry P T)) ⟨dst, .pick c a b, ty, pos, af, gd⟩ st = stepO G (carry P T) ⟨dst, .pick c a b, ty, pos, af, gd⟩ st := rfl
@[simp] theorem fpY_pick (c a b : Operand) : fpC G (carryY P G' T inl c0 off) ⟨dst, .pick c a b, ty, pos, af, gd⟩ st = fpC G (carry P T) ⟨dst, .pick c a b, ty, pos, af, gd⟩ st := rfl
@[simp] theorem fpS_pick (c a b : Operand) : fpC G (shiftC off (carry P T)) ⟨dst, .pick c a b, ty, pos, af, gd⟩ st = fpC G (carry P T) ⟨dst, .pick c a b, ty, pos, af, gd⟩ st := rfl
@[simp] theorem stepI_alloc (t : TypeId) : stepO G (carryI P G' T inl) ⟨dst, .alloc t, ty, pos, af, gd⟩ st = stepO G (carry P T) ⟨dst, .alloc t, ty, pos, af, gd⟩ st := rfl
@[simp] theorem fpI_alloc (t : TypeId) : fpC G (carryI P G' T inl) ⟨dst, .alloc t, ty, pos, af, gd⟩ st = fpC G (carry P T) ⟨dst, .alloc t, ty, pos, af, gd⟩ st := rfl
@[simp] theorem stepY_alloc (t : TypeId) : stepO G (carryY P G' T inl c0 off) ⟨dst, .alloc t, ty, pos, af, gd⟩ st = stepO G (shiftC off (carry P T)) ⟨dst, .alloc t, ty, pos, af, gd⟩ st := rfl
@[simp] theorem stepI_box (t : TypeId) (x : Operand) : stepO G (carryI P G' T inl) ⟨dst, .box t x, ty, pos, af, gd⟩ st = stepO G (carry P T) ⟨dst, .box t x, ty, pos, af, gd⟩ st := rfl
@[simp] theorem fpI_box (t : TypeId) (x : Operand) : fpC G (carryI P G' T inl) ⟨dst, .box t x, ty, pos, af, gd⟩ st = fpC G (carry P T) ⟨dst, .box t x, ty, pos, af, gd⟩ st := rfl
@[simp] theorem stepY_box (t : TypeId) (x : Operand) : stepO G (carryY P G' T inl c0 off) ⟨dst, .box t x, ty, pos, af, gd⟩ st = stepO G (shiftC off (carry P T)) ⟨dst, .box t x, ty, pos, af, gd⟩ st := rfl
@[simp] theorem stepI_build (t : TypeId) (ps : Array (Nat × Operand)) : stepO G (carryI P G' T inl) ⟨dst, .build t ps, ty, pos, af, gd⟩ st = stepO G (carry P T) ⟨dst, .build t ps, ty, pos, af, gd⟩ st := rfl
@[simp] theorem fpI_build (t : TypeId) (ps : Array (Nat × Operand)) : fpC G (carryI P G' T inl) ⟨dst, .build t ps, ty, pos, af, gd⟩ st = fpC G (carry P T) ⟨dst, .build t ps, ty, pos, af, gd⟩ st := rfl
@[simp] theorem stepY_build (t : TypeId) (ps : Array (Nat × Operand)) : stepO G (carryY P G' T inl c0 off) ⟨dst, .build t ps, ty, pos, af, gd⟩ st = stepO G (shiftC off (carry P T)) ⟨dst, .build t ps, ty, pos, af, gd⟩ st := rfl
@[simp] theorem stepS_build (t : TypeId) (ps : Array (Nat × Operand)) : stepO G (shiftC off (carry P T)) ⟨dst, .build t ps, ty, pos, af, gd⟩ st = stepO G (carry P T) ⟨dst, .build t ps, ty, pos, af, gd⟩ st := rfl
@[simp] theorem fpY_build (t : TypeId) (ps : Array (Nat × Operand)) : fpC G (carryY P G' T inl c0 off) ⟨dst, .build t ps, ty, pos, af, gd⟩ st = fpC G (carry P T) ⟨dst, .build t ps, ty, pos, af, gd⟩ st := rfl
@[simp] theorem fpS_build (t : TypeId) (ps : Array (Nat × Operand)) : fpC G (shiftC off (carry P T)) ⟨dst, .build t ps, ty, pos, af, gd⟩ st = fpC G (carry P T) ⟨dst, .build t ps, ty, pos, af, gd⟩ st := rfl
@[simp] theorem stepI_buildSlice (t : TypeId) (n : Nat) (ps : Array (Nat × Operand)) : stepO G (carryI P G' T inl) ⟨dst, .buildSlice t n ps, ty, pos, af, gd⟩ st = stepO G (carry P T) ⟨dst, .buildSlice t n ps, ty, pos, af, gd⟩ st := rfl
@[simp] theorem fpI_buildSlice (t : TypeId) (n : Nat) (ps : Array (Nat × Operand)) : fpC G (carryI P G' T inl) ⟨dst, .buildSlice t n ps, ty, pos, af, gd⟩ st = fpC G (carry P T) ⟨dst, .buildSlice t n ps, ty, pos, af, gd⟩ st := rfl
@[simp] theorem stepY_buildSlice (t : TypeId) (n : Nat) (ps : Array (Nat × Operand)) : stepO G (carryY P G' T inl c0 off) ⟨dst, .buildSlice t n ps, ty, pos, af, gd⟩ st = stepO G (shiftC off (carry P T)) ⟨dst, .buildSlice t n ps, ty, pos, af, gd⟩ st := rfl
@[simp] theorem stepI_load (t : TypeId) (x : Operand) : stepO G (carryI P G' T inl) ⟨dst, .load t x, ty, pos, af, gd⟩ st = stepO G (carry P T) ⟨dst, .load t x, ty, pos, af, gd⟩ st := rfl
@[simp] theorem fpI_load (t : TypeId) (x : Operand) : fpC G (carryI P G' T inl) ⟨dst, .load t x, ty, pos, af, gd⟩ st = fpC G (carry P T) ⟨dst, .load t x, ty, pos, af, gd⟩ st := rfl
@[simp] theorem stepY_load (t : TypeId) (x : Operand) : stepO G (carryY P G' T inl c0 off) ⟨dst, .load t x, ty, pos, af, gd⟩ st = stepO G (shiftC off (carry P T)) ⟨dst, .load t x, ty, pos, af, gd⟩ st := rfl
@[simp] theorem stepS_load (t : TypeId) (x : Operand) : stepO G (shiftC off (carry P T)) ⟨dst, .load t x, ty, pos, af, gd⟩ st = stepO G (carry P T) ⟨dst, .load t x, ty, pos, af, gd⟩ st := rfl
@[simp] theorem fpY_load (t : TypeId) (x : Operand) : fpC G (carryY P G' T inl c0 off) ⟨dst, .load t x, ty, pos, af, gd⟩ st = fpC G (carry P T) ⟨dst, .load t x, ty, pos, af, gd⟩ st := rfl
@[simp] theorem fpS_load (t : TypeId) (x : Operand) : fpC G (shiftC off (carry P T)) ⟨dst, .load t x, ty, pos, af, gd⟩ st = fpC G (carry P T) ⟨dst, .load t x, ty, pos, af, gd⟩ st := rfl
@[simp] theorem stepI_store (t : TypeId) (x y : Operand) : stepO G (carryI P G' T inl) ⟨dst, .store t x y, ty, pos, af, gd⟩ st = stepO G (carry P T) ⟨dst, .store t x y, ty, pos, af, gd⟩ st := rfl
@[simp] theorem fpI_store (t : TypeId) (x y : Operand) : fpC G (carryI P G' T inl) ⟨dst, .store t x y, ty, pos, af, gd⟩ st = fpC G (carry P T) ⟨dst, .store t x y, ty, pos, af, gd⟩ st := rfl
@[simp] theorem stepY_store (t : TypeId) (x y : Operand) : stepO G (carryY P G' T inl c0 off) ⟨dst, .store t x y, ty, pos, af, gd⟩ st = stepO G (shiftC off (carry P T)) ⟨dst, .store t x y, ty, pos, af, gd⟩ st := rfl
@[simp] theorem stepS_store (t : TypeId) (x y : Operand) : stepO G (shiftC off (carry P T)) ⟨dst, .store t x y, ty, pos, af, gd⟩ st = stepO G (carry P T) ⟨dst, .store t x y, ty, pos, af, gd⟩ st := rfl
@[simp] theorem fpY_store (t : TypeId) (x y : Operand) : fpC G (carryY P G' T inl c0 off) ⟨dst, .store t x y, ty, pos, af, gd⟩ st = fpC G (carry P T) ⟨dst, .store t x y, ty, pos, af, gd⟩ st := rfl
@[simp] theorem fpS_store (t : TypeId) (x y : Operand) : fpC G (shiftC off (carry P T)) ⟨dst, .store t x y, ty, pos, af, gd⟩ st = fpC G (carry P T) ⟨dst, .store t x y, ty, pos, af, gd⟩ st := rfl
@[simp] theorem stepI_nilCheck (x : Operand) : stepO G (carryI P G' T inl) ⟨dst, .nilCheck x, ty, pos, af, gd⟩ st = stepO G (carry P T) ⟨dst, .nilCheck x, ty, pos, af, gd⟩ st := rfl
@[simp] theorem fpI_nilCheck (x : Operand) : fpC G (carryI P G' T inl) ⟨dst, .nilCheck x, ty, pos, af, gd⟩ st = fpC G (carry P T) ⟨dst, .nilCheck x, ty, pos, af, gd⟩ st := rfl
@[simp] theorem stepY_nilCheck (x : Operand) : stepO G (carryY P G' T inl c0 off) ⟨dst, .nilCheck x, ty, pos, af, gd⟩ st = stepO G (shiftC off (carry P T)) ⟨dst, .nilCheck x, ty, pos, af, gd⟩ st := rfl
@[simp] theorem stepS_nilCheck (x : Operand) : stepO G (shiftC off (carry P T)) ⟨dst, .nilCheck x, ty, pos, af, gd⟩ st = stepO G (carry P T) ⟨dst, .nilCheck x, ty, pos, af, gd⟩ st := rfl
@[simp] theorem fpY_nilCheck (x : Operand) : fpC G (carryY P G' T inl c0 off) ⟨dst, .nilCheck x, ty, pos, af, gd⟩ st = fpC G (carry P T) ⟨dst, .nilCheck x, ty, pos, af, gd⟩ st := rfl
@[simp] theorem fpS_nilCheck (x : Operand) : fpC G (shiftC off (carry P T)) ⟨dst, .nilCheck x, ty, pos, af, gd⟩ st = fpC G (carry P T) ⟨dst, .nilCheck x, ty, pos, af, gd⟩ st := rfl
@[simp] theorem stepI_bin (op : BinOp) (t t2 : TypeId) (x y : Operand) : stepO G (carryI P G' T inl) ⟨dst, .binOp op t x y t2, ty, pos, af, gd⟩ st = stepO G (carry P T) ⟨dst, .binOp op t x y t2, ty, pos, af, gd⟩ st := rfl
@[simp] theorem fpI_bin (op : BinOp) (t t2 : TypeId) (x y : Operand) : fpC G (carryI P G' T inl) ⟨dst, .binOp op t x y t2, ty, pos, af, gd⟩ st = fpC G (carry P T) ⟨dst, .binOp op t x y t2, ty, pos, af, gd⟩ st := rfl
@[simp] theorem stepY_bin (op : BinOp) (t t2 : TypeId) (x y : Operand) : stepO G (carryY P G' T inl c0 off) ⟨dst, .binOp op t x y t2, ty, pos, af, gd⟩ st = stepO G (shiftC off (carry P T)) ⟨dst, .binOp op t x y t2, ty, pos, af, gd⟩ st := rfl
@[simp] theorem stepS_bin (op : BinOp) (t t2 : TypeId) (x y : Operand) : stepO G (shiftC off (carry P T)) ⟨dst, .binOp op t x y t2, ty, pos, af, gd⟩ st = stepO G (carry P T) ⟨dst, .binOp op t x y t2, ty, pos, af, gd⟩ st := rfl
@[simp] theorem fpY_bin (op : BinOp) (t t2 : TypeId) (x y : Operand) : fpC G (carryY P G' T inl c0 off) ⟨dst, .binOp op t x y t2, ty, pos, af, gd⟩ st = fpC G (carry P T) ⟨dst, .binOp op t x y t2, ty, pos, af, gd⟩ st := rfl
@[simp] theorem fpS_bin (op : BinOp) (t t2 : TypeId) (x y : Operand) : fpC G (shiftC off (carry P T)) ⟨dst, .binOp op t x y t2, ty, pos, af, gd⟩ st = fpC G (carry P T) ⟨dst, .binOp op t x y t2, ty, pos, af, gd⟩ st := rfl
@[simp] theorem stepI_un (op : UnOp) (t : TypeId) (x : Operand) : stepO G (carryI P G' T inl) ⟨dst, .unOp op t x, ty, pos, af, gd⟩ st = stepO G (carry P T) ⟨dst, .unOp op t x, ty, pos, af, gd⟩ st := rfl
@[simp] theorem fpI_un (op : UnOp) (t : TypeId) (x : Operand) : fpC G (carryI P G' T inl) ⟨dst, .unOp op t x, ty, pos, af, gd⟩ st = fpC G (carry P T) ⟨dst, .unOp op t x, ty, pos, af, gd⟩ st := rfl
@[simp] theorem stepY_un (op : UnOp) (t : TypeId) (x : Operand) : stepO G (carryY P G' T inl c0 off) ⟨dst, .unOp op t x, ty, pos, af, gd⟩ st = stepO G (shiftC off (carry P T)) ⟨dst, .unOp op t x, ty, pos, af, gd⟩ st := rfl
@[simp] theorem stepS_un (op : UnOp) (t : TypeId) (x : Operand) : stepO G (shiftC off (carry P T)) ⟨dst, .unOp op t x, ty, pos, af, gd⟩ st = stepO G (carry P T) ⟨dst, .unOp op t x, ty, pos, af, gd⟩ st := rfl
@[simp] theorem fpY_un (op : UnOp) (t : TypeId) (x : Operand) : fpC G (carryY P G' T inl c0 off) ⟨dst, .unOp op t x, ty, pos, af, gd⟩ st = fpC G (carry P T) ⟨dst, .unOp op t x, ty, pos, af, gd⟩ st := rfl
@[simp] theorem fpS_un (op : UnOp) (t : TypeId) (x : Operand) : fpC G (shiftC off (carry P T)) ⟨dst, .unOp op t x, ty, pos, af, gd⟩ st = fpC G (carry P T) ⟨dst, .unOp op t x, ty, pos, af, gd⟩ st := rfl
@[simp] theorem stepI_conv (a b : TypeId) (x : Operand) : stepO G (carryI P G' T inl) ⟨dst, .convert a b x, ty, pos, af, gd⟩ st = stepO G (carry P T) ⟨dst, .convert a b x, ty, pos, af, gd⟩ st := rfl
@[simp] theorem fpI_conv (a b : TypeId) (x : Operand) : fpC G (carryI P G' T inl) ⟨dst, .convert a b x, ty, pos, af, gd⟩ st = fpC G (carry P T) ⟨dst, .convert a b x, ty, pos, af, gd⟩ st := rfl
@[simp] theorem stepY_conv (a b : TypeId) (x : Operand) : stepO G (carryY P G' T inl c0 off) ⟨dst, .convert a b x, ty, pos, af, gd⟩ st = stepO G (shiftC off (carry P T)) ⟨dst, .convert a b x, ty, pos, af, gd⟩ st := rfl
@[simp] theorem stepS_conv (a b : TypeId) (x : Operand) : stepO G (shiftC off (carry P T)) ⟨dst, .convert a b x, ty, pos, af, gd⟩ st = stepO G (carry P T) ⟨dst, .convert a b x, ty, pos, af, gd⟩ st := rfl
@[simp] theorem fpY_conv (a b : TypeId) (x : Operand) : fpC G (carryY P G' T inl c0 off) ⟨dst, .convert a b x, ty, pos, af, gd⟩ st = fpC G (carry P T) ⟨dst, .convert a b x, ty, pos, af, gd⟩ st := rfl
@[simp] theorem fpS_conv (a b : TypeId) (x : Operand) : fpC G (shiftC off (carry P T)) ⟨dst, .convert a b x, ty, pos, af, gd⟩ st = fpC G (carry P T) ⟨dst, .convert a b x, ty, pos, af, gd⟩ st := rfl
@[simp] theorem stepI_mkIface (t : TypeId) (x : Operand) : stepO G (carryI P G' T inl) ⟨dst, .makeInterface t x, ty, pos, af, gd⟩ st = stepO G (carry P T) ⟨dst, .makeInterface t x, ty, pos, af, gd⟩ st := rfl
@[simp] theorem fpI_mkIface (t : TypeId) (x : Operand) : fpC G (carryI P G' T inl) ⟨dst, .makeInterface t x, ty, pos, af, gd⟩ st = fpC G (carry P T) ⟨dst, .makeInterface t x, ty, pos, af, gd⟩ st := rfl
@[simp] theorem stepY_mkIface (t : TypeId) (x : Operand) : stepO G (carryY P G' T inl c0 off) ⟨dst, .makeInterface t x, ty, pos, af, gd⟩ st = stepO G (shiftC off (carry P T)) ⟨dst, .makeInterface t x, ty, pos, af, gd⟩ st := rfl
@[simp] theorem stepS_mkIface (t : TypeId) (x : Operand) : stepO G (shiftC off (carry P T)) ⟨dst, .makeInterface t x, ty, pos, af, gd⟩ st = stepO G (carry P T) ⟨dst, .makeInterface t x, ty, pos, af, gd⟩ st := rfl
@[simp] theorem fpY_mkIface (t : TypeId) (x : Operand) : fpC G (carryY P G' T inl c0 off) ⟨dst, .makeInterface t x, ty, pos, af, gd⟩ st = fpC G (carry P T) ⟨dst, .makeInterface t x, ty, pos, af, gd⟩ st := rfl
@[simp] theorem fpS_mkIface (t : TypeId) (x : Operand) : fpC G (shiftC off (carry P T)) ⟨dst, .makeInterface t x, ty, pos, af, gd⟩ st = fpC G (carry P T) ⟨dst, .makeInterface t x, ty, pos, af, gd⟩ st := rfl
@[simp] theorem stepI_mkFunc (g : FuncId) (a b : Array Operand) : stepO G (carryI P G' T inl) ⟨dst, .makeFunc (.func g) a b, ty, pos, af, gd⟩ st = stepO G (carry P T) ⟨dst, .makeFunc (.func g) a b, ty, pos, af, gd⟩ st := rfl
@[simp] theorem fpI_mkFunc (g : FuncId) (a b : Array Operand) : fpC G (carryI P G' T inl) ⟨dst, .makeFunc (.func g) a b, ty, pos, af, gd⟩ st = fpC G (carry P T) ⟨dst, .makeFunc (.func g) a b, ty, pos, af, gd⟩ st := rfl
@[simp] theorem stepY_mkFunc (g : FuncId) (a b : Array Operand) : stepO G (carryY P G' T inl c0 off) ⟨dst, .makeFunc (.func g) a b, ty, pos, af, gd⟩ st = stepO G (shiftC off (carry P T)) ⟨dst, .makeFunc (.func g) a b, ty, pos, af, gd⟩ st := rfl
@[simp] theorem stepS_mkFunc (g : FuncId) (a b : Array Operand) : stepO G (shiftC off (carry P T)) ⟨dst, .makeFunc (.func g) a b, ty, pos, af, gd⟩ st = stepO G (carry P T) ⟨dst, .makeFunc (.func g) a b, ty, pos, af, gd⟩ st := rfl
@[simp] theorem fpY_mkFunc (g : FuncId) (a b : Array Operand) : fpC G (carryY P G' T inl c0 off) ⟨dst, .makeFunc (.func g) a b, ty, pos, af, gd⟩ st = fpC G (carry P T) ⟨dst, .makeFunc (.func g) a b, ty, pos, af, gd⟩ st := rfl
@[simp] theorem fpS_mkFunc (g : FuncId) (a b : Array Operand) : fpC G (shiftC off (carry P T)) ⟨dst, .makeFunc (.func g) a b, ty, pos, af, gd⟩ st = fpC G (carry P T) ⟨dst, .makeFunc (.func g) a b, ty, pos, af, gd⟩ st := rfl
@[simp] theorem stepI_mkMap (t : TypeId) (n : Option Operand) : stepO G (carryI P G' T inl) ⟨dst, .makeMap t n, ty, pos, af, gd⟩ st = stepO G (carry P T) ⟨dst, .makeMap t n, ty, pos, af, gd⟩ st := rfl
@[simp] theorem fpI_mkMap (t : TypeId) (n : Option Operand) : fpC G (carryI P G' T inl) ⟨dst, .makeMap t n, ty, pos, af, gd⟩ st = fpC G (carry P T) ⟨dst, .makeMap t n, ty, pos, af, gd⟩ st := rfl
@[simp] theorem stepY_mkMap (t : TypeId) (n : Option Operand) : stepO G (carryY P G' T inl c0 off) ⟨dst, .makeMap t n, ty, pos, af, gd⟩ st = stepO G (shiftC off (carry P T)) ⟨dst, .makeMap t n, ty, pos, af, gd⟩ st := rfl
@[simp] theorem stepI_mkSlice (t : TypeId) (l c : Operand) : stepO G (carryI P G' T inl) ⟨dst, .makeSlice t l c, ty, pos, af, gd⟩ st = stepO G (carry P T) ⟨dst, .makeSlice t l c, ty, pos, af, gd⟩ st := rfl
@[simp] theorem fpI_mkSlice (t : TypeId) (l c : Operand) : fpC G (carryI P G' T inl) ⟨dst, .makeSlice t l c, ty, pos, af, gd⟩ st = fpC G (carry P T) ⟨dst, .makeSlice t l c, ty, pos, af, gd⟩ st := rfl
@[simp] theorem stepY_mkSlice (t : TypeId) (l c : Operand) : stepO G (carryY P G' T inl c0 off) ⟨dst, .makeSlice t l c, ty, pos, af, gd⟩ st = stepO G (shiftC off (carry P T)) ⟨dst, .makeSlice t l c, ty, pos, af, gd⟩ st := rfl
@[simp] theorem stepI_slice (t : TypeId) (x : Operand) (lo hi mx : Option Operand) : stepO G (carryI P G' T inl) ⟨dst, .slice t x lo hi mx, ty, pos, af, gd⟩ st = stepO G (carry P T) ⟨dst, .slice t x lo hi mx, ty, pos, af, gd⟩ st := rfl
@[simp] theorem fpI_slice (t : TypeId) (x : Operand) (lo hi mx : Option Operand) : fpC G (carryI P G' T inl) ⟨dst, .slice t x lo hi mx, ty, pos, af, gd⟩ st = fpC G (carry P T) ⟨dst, .slice t x lo hi mx, ty, pos, af, gd⟩ st := rfl
@[simp] theorem stepY_slice (t : TypeId) (x : Operand) (lo hi mx : Option Operand) : stepO G (carryY P G' T inl c0 off) ⟨dst, .slice t x lo hi mx, ty, pos, af, gd⟩ st = stepO G (shiftC off (carry P T)) ⟨dst, .slice t x lo hi mx, ty, pos, af, gd⟩ st := rfl
@[simp] theorem stepS_slice (t : TypeId) (x : Operand) (lo hi mx : Option Operand) : stepO G (shiftC off (carry P T)) ⟨dst, .slice t x lo hi mx, ty, pos, af, gd⟩ st = stepO G (carry P T) ⟨dst, .slice t x lo hi mx, ty, pos, af, gd⟩ st := rfl
@[simp] theorem fpY_slice (t : TypeId) (x : Operand) (lo hi mx : Option Operand) : fpC G (carryY P G' T inl c0 off) ⟨dst, .slice t x lo hi mx, ty, pos, af, gd⟩ st = fpC G (carry P T) ⟨dst, .slice t x lo hi mx, ty, pos, af, gd⟩ st := rfl
@[simp] theorem fpS_slice (t : TypeId) (x : Operand) (lo hi mx : Option Operand) : fpC G (shiftC off (carry P T)) ⟨dst, .slice t x lo hi mx, ty, pos, af, gd⟩ st = fpC G (carry P T) ⟨dst, .slice t x lo hi mx, ty, pos, af, gd⟩ st := rfl
@[simp] theorem stepI_fieldAddr (t : TypeId) (x : Operand) (f : Nat) : stepO G (carryI P G' T inl) ⟨dst, .fieldAddr t x f, ty, pos, af, gd⟩ st = stepO G (carry P T) ⟨dst, .fieldAddr t x f, ty, pos, af, gd⟩ st := rfl
@[simp] theorem fpI_fieldAddr (t : TypeId) (x : Operand) (f : Nat) : fpC G (carryI P G' T inl) ⟨dst, .fieldAddr t x f, ty, pos, af, gd⟩ st = fpC G (carry P T) ⟨dst, .fieldAddr t x f, ty, pos, af, gd⟩ st := rfl
@[simp] theorem stepY_fieldAddr (t : TypeId) (x : Operand) (f : Nat) : stepO G (carryY P G' T inl c0 off) ⟨dst, .fieldAddr t x f, ty, pos, af, gd⟩ st = stepO G (shiftC off (carry P T)) ⟨dst, .fieldAddr t x f, ty, pos, af, gd⟩ st := rfl
@[simp] theorem stepS_fieldAddr (t : TypeId) (x : Operand) (f : Nat) : stepO G (shiftC off (carry P T)) ⟨dst, .fieldAddr t x f, ty, pos, af, gd⟩ st = stepO G (carry P T) ⟨dst, .fieldAddr t x f, ty, pos, af, gd⟩ st := rfl
@[simp] theorem fpY_fieldAddr (t : TypeId) (x : Operand) (f : Nat) : fpC G (carryY P G' T inl c0 off) ⟨dst, .fieldAddr t x f, ty, pos, af, gd⟩ st = fpC G (carry P T) ⟨dst, .fieldAddr t x f, ty, pos, af, gd⟩ st := rfl
@[simp] theorem fpS_fieldAddr (t : TypeId) (x : Operand) (f : Nat) : fpC G (shiftC off (carry P T)) ⟨dst, .fieldAddr t x f, ty, pos, af, gd⟩ st = fpC G (carry P T) ⟨dst, .fieldAddr t x f, ty, pos, af, gd⟩ st := rfl
@[simp] theorem stepI_field (t : TypeId) (x : Operand) (f : Nat) : stepO G (carryI P G' T inl) ⟨dst, .field t x f, ty, pos, af, gd⟩ st = stepO G (carry P T) ⟨dst, .field t x f, ty, pos, af, gd⟩ st := rfl
@[simp] theorem fpI_field (t : TypeId) (x : Operand) (f : Nat) : fpC G (carryI P G' T inl) ⟨dst, .field t x f, ty, pos, af, gd⟩ st = fpC G (carry P T) ⟨dst, .field t x f, ty, pos, af, gd⟩ st := rfl
@[simp] theorem stepY_field (t : TypeId) (x : Operand) (f : Nat) : stepO G (carryY P G' T inl c0 off) ⟨dst, .field t x f, ty, pos, af, gd⟩ st = stepO G (shiftC off (carry P T)) ⟨dst, .field t x f, ty, pos, af, gd⟩ st := rfl
@[simp] theorem stepS_field (t : TypeId) (x : Operand) (f : Nat) : stepO G (shiftC off (carry P T)) ⟨dst, .field t x f, ty, pos, af, gd⟩ st = stepO G (carry P T) ⟨dst, .field t x f, ty, pos, af, gd⟩ st := rfl
@[simp] theorem fpY_field (t : TypeId) (x : Operand) (f : Nat) : fpC G (carryY P G' T inl c0 off) ⟨dst, .field t x f, ty, pos, af, gd⟩ st = fpC G (carry P T) ⟨dst, .field t x f, ty, pos, af, gd⟩ st := rfl
@[simp] theorem fpS_field (t : TypeId) (x : Operand) (f : Nat) : fpC G (shiftC off (carry P T)) ⟨dst, .field t x f, ty, pos, af, gd⟩ st = fpC G (carry P T) ⟨dst, .field t x f, ty, pos, af, gd⟩ st := rfl
@[simp] theorem stepI_indexAddr (t : TypeId) (x i : Operand) : stepO G (carryI P G' T inl) ⟨dst, .indexAddr t x i, ty, pos, af, gd⟩ st = stepO G (carry P T) ⟨dst, .indexAddr t x i, ty, pos, af, gd⟩ st := rfl
@[simp] theorem fpI_indexAddr (t : TypeId) (x i : Operand) : fpC G (carryI P G' T inl) ⟨dst, .indexAddr t x i, ty, pos, af, gd⟩ st = fpC G (carry P T) ⟨dst, .indexAddr t x i, ty, pos, af, gd⟩ st := rfl
@[simp] theorem stepY_indexAddr (t : TypeId) (x i : Operand) : stepO G (carryY P G' T inl c0 off) ⟨dst, .indexAddr t x i, ty, pos, af, gd⟩ st = stepO G (shiftC off (carry P T)) ⟨dst, .indexAddr t x i, ty, pos, af, gd⟩ st := rfl
@[simp] theorem stepS_indexAddr (t : TypeId) (x i : Operand) : stepO G (shiftC off (carry P T)) ⟨dst, .indexAddr t x i, ty, pos, af, gd⟩ st = stepO G (carry P T) ⟨dst, .indexAddr t x i, ty, pos, af, gd⟩ st := rfl
@[simp] theorem fpY_indexAddr (t : TypeId) (x i : Operand) : fpC G (carryY P G' T inl c0 off) ⟨dst, .indexAddr t x i, ty, pos, af, gd⟩ st = fpC G (carry P T) ⟨dst, .indexAddr t x i, ty, pos, af, gd⟩ st := rfl
@[simp] theorem fpS_indexAddr (t : TypeId) (x i : Operand) : fpC G (shiftC off (carry P T)) ⟨dst, .indexAddr t x i, ty, pos, af, gd⟩ st = fpC G (carry P T) ⟨dst, .indexAddr t x i, ty, pos, af, gd⟩ st := rfl
@[simp] theorem stepI_index (t : TypeId) (x i : Operand) : stepO G (carryI P G' T inl) ⟨dst, .index t x i, ty, pos, af, gd⟩ st = stepO G (carry P T) ⟨dst, .index t x i, ty, pos, af, gd⟩ st := rfl
@[simp] theorem fpI_index (t : TypeId) (x i : Operand) : fpC G (carryI P G' T inl) ⟨dst, .index t x i, ty, pos, af, gd⟩ st = fpC G (carry P T) ⟨dst, .index t x i, ty, pos, af, gd⟩ st := rfl
@[simp] theorem stepY_index (t : TypeId) (x i : Operand) : stepO G (carryY P G' T inl c0 off) ⟨dst, .index t x i, ty, pos, af, gd⟩ st = stepO G (shiftC off (carry P T)) ⟨dst, .index t x i, ty, pos, af, gd⟩ st := rfl
@[simp] theorem stepS_index (t : TypeId) (x i : Operand) : stepO G (shiftC off (carry P T)) ⟨dst, .index t x i, ty, pos, af, gd⟩ st = stepO G (carry P T) ⟨dst, .index t x i, ty, pos, af, gd⟩ st := rfl
@[simp] theorem fpY_index (t : TypeId) (x i : Operand) : fpC G (carryY P G' T inl c0 off) ⟨dst, .index t x i, ty, pos, af, gd⟩ st = fpC G (carry P T) ⟨dst, .index t x i, ty, pos, af, gd⟩ st := rfl
@[simp] theorem fpS_index (t : TypeId) (x i : Operand) : fpC G (shiftC off (carry P T)) ⟨dst, .index t x i, ty, pos, af, gd⟩ st = fpC G (carry P T) ⟨dst, .index t x i, ty, pos, af, gd⟩ st := rfl
@[simp] theorem stepI_lookup (t : TypeId) (x k : Operand) (ok : Bool) : stepO G (carryI P G' T inl) ⟨dst, .lookup t x k ok, ty, pos, af, gd⟩ st = stepO G (carry P T) ⟨dst, .lookup t x k ok, ty, pos, af, gd⟩ st := rfl
@[simp] theorem fpI_lookup (t : TypeId) (x k : Operand) (ok : Bool) : fpC G (carryI P G' T inl) ⟨dst, .lookup t x k ok, ty, pos, af, gd⟩ st = fpC G (carry P T) ⟨dst, .lookup t x k ok, ty, pos, af, gd⟩ st := rfl
@[simp] theorem stepY_lookup (t : TypeId) (x k : Operand) (ok : Bool) : stepO G (carryY P G' T inl c0 off) ⟨dst, .lookup t x k ok, ty, pos, af, gd⟩ st = stepO G (shiftC off (carry P T)) ⟨dst, .lookup t x k ok, ty, pos, af, gd⟩ st := rfl
@[simp] theorem stepS_lookup (t : TypeId) (x k : Operand) (ok : Bool) : stepO G (shiftC off (carry P T)) ⟨dst, .lookup t x k ok, ty, pos, af, gd⟩ st = stepO G (carry P T) ⟨dst, .lookup t x k ok, ty, pos, af, gd⟩ st := rfl
@[simp] theorem fpY_lookup (t : TypeId) (x k : Operand) (ok : Bool) : fpC G (carryY P G' T inl c0 off) ⟨dst, .lookup t x k ok, ty, pos, af, gd⟩ st = fpC G (carry P T) ⟨dst, .lookup t x k ok, ty, pos, af, gd⟩ st := rfl
@[simp] theorem fpS_lookup (t : TypeId) (x k : Operand) (ok : Bool) : fpC G (shiftC off (carry P T)) ⟨dst, .lookup t x k ok, ty, pos, af, gd⟩ st = fpC G (carry P T) ⟨dst, .lookup t x k ok, ty, pos, af, gd⟩ st := rfl
@[simp] theorem stepI_mapUpd (t : TypeId) (x k v : Operand) : stepO G (carryI P G' T inl) ⟨dst, .mapUpdate t x k v, ty, pos, af, gd⟩ st = stepO G (carry P T) ⟨dst, .mapUpdate t x k v, ty, pos, af, gd⟩ st := rfl
@[simp] theorem fpI_mapUpd (t : TypeId) (x k v : Operand) : fpC G (carryI P G' T inl) ⟨dst, .mapUpdate t x k v, ty, pos, af, gd⟩ st = fpC G (carry P T) ⟨dst, .mapUpdate t x k v, ty, pos, af, gd⟩ st := rfl
@[simp] theorem stepY_mapUpd (t : TypeId) (x k v : Operand) : stepO G (carryY P G' T inl c0 off) ⟨dst, .mapUpdate t x k v, ty, pos, af, gd⟩ st = stepO G (shiftC off (carry P T)) ⟨dst, .mapUpdate t x k v, ty, pos, af, gd⟩ st := rfl
@[simp] theorem stepS_mapUpd (t : TypeId) (x k v : Operand) : stepO G (shiftC off (carry P T)) ⟨dst, .mapUpdate t x k v, ty, pos, af, gd⟩ st = stepO G (carry P T) ⟨dst, .mapUpdate t x k v, ty, pos, af, gd⟩ st := rfl
@[simp] theorem fpY_mapUpd (t : TypeId) (x k v : Operand) : fpC G (carryY P G' T inl c0 off) ⟨dst, .mapUpdate t x k v, ty, pos, af, gd⟩ st = fpC G (carry P T) ⟨dst, .mapUpdate t x k v, ty, pos, af, gd⟩ st := rfl
@[simp] theorem fpS_mapUpd (t : TypeId) (x k v : Operand) : fpC G (shiftC off (carry P T)) ⟨dst, .mapUpdate t x k v, ty, pos, af, gd⟩ st = fpC G (carry P T) ⟨dst, .mapUpdate t x k v, ty, pos, af, gd⟩ st := rfl
@[simp] theorem stepI_assert (x : Operand) (t a : TypeId) (ok : Bool) : stepO G (carryI P G' T inl) ⟨dst, .typeAssert x t a ok, ty, pos, af, gd⟩ st = stepO G (carry P T) ⟨dst, .typeAssert x t a ok, ty, pos, af, gd⟩ st := rfl
@[simp] theorem fpI_assert (x : Operand) (t a : TypeId) (ok : Bool) : fpC G (carryI P G' T inl) ⟨dst, .typeAssert x t a ok, ty, pos, af, gd⟩ st = fpC G (carry P T) ⟨dst, .typeAssert x t a ok, ty, pos, af, gd⟩ st := rfl
@[simp] theorem stepY_assert (x : Operand) (t a : TypeId) (ok : Bool) : stepO G (carryY P G' T inl c0 off) ⟨dst, .typeAssert x t a ok, ty, pos, af, gd⟩ st = stepO G (shiftC off (carry P T)) ⟨dst, .typeAssert x t a ok, ty, pos, af, gd⟩ st := rfl
@[simp] theorem stepS_assert (x : Operand) (t a : TypeId) (ok : Bool) : stepO G (shiftC off (carry P T)) ⟨dst, .typeAssert x t a ok, ty, pos, af, gd⟩ st = stepO G (carry P T) ⟨dst, .typeAssert x t a ok, ty, pos, af, gd⟩ st := rfl
@[simp] theorem fpY_assert (x : Operand) (t a : TypeId) (ok : Bool) : fpC G (carryY P G' T inl c0 off) ⟨dst, .typeAssert x t a ok, ty, pos, af, gd⟩ st = fpC G (carry P T) ⟨dst, .typeAssert x t a ok, ty, pos, af, gd⟩ st := rfl
@[simp] theorem fpS_assert (x : Operand) (t a : TypeId) (ok : Bool) : fpC G (shiftC off (carry P T)) ⟨dst, .typeAssert x t a ok, ty, pos, af, gd⟩ st = fpC G (carry P T) ⟨dst, .typeAssert x t a ok, ty, pos, af, gd⟩ st := rfl
@[simp] theorem stepI_extract (x : Operand) (i : Nat) : stepO G (carryI P G' T inl) ⟨dst, .extract x i, ty, pos, af, gd⟩ st = stepO G (carry P T) ⟨dst, .extract x i, ty, pos, af, gd⟩ st := rfl
@[simp] theorem fpI_extract (x : Operand) (i : Nat) : fpC G (carryI P G' T inl) ⟨dst, .extract x i, ty, pos, af, gd⟩ st = fpC G (carry P T) ⟨dst, .extract x i, ty, pos, af, gd⟩ st := rfl
@[simp] theorem stepY_extract (x : Operand) (i : Nat) : stepO G (carryY P G' T inl c0 off) ⟨dst, .extract x i, ty, pos, af, gd⟩ st = stepO G (shiftC off (carry P T)) ⟨dst, .extract x i, ty, pos, af, gd⟩ st := rfl
@[simp] theorem stepS_extract (x : Operand) (i : Nat) : stepO G (shiftC off (carry P T)) ⟨dst, .extract x i, ty, pos, af, gd⟩ st = stepO G (carry P T) ⟨dst, .extract x i, ty, pos, af, gd⟩ st := rfl
@[simp] theorem fpY_extract (x : Operand) (i : Nat) : fpC G (carryY P G' T inl c0 off) ⟨dst, .extract x i, ty, pos, af, gd⟩ st = fpC G (carry P T) ⟨dst, .extract x i, ty, pos, af, gd⟩ st := rfl
@[simp] theorem fpS_extract (x : Operand) (i : Nat) : fpC G (shiftC off (carry P T)) ⟨dst, .extract x i, ty, pos, af, gd⟩ st = fpC G (carry P T) ⟨dst, .extract x i, ty, pos, af, gd⟩ st := rfl
@[simp] theorem stepI_builtin (b : Builtin) (as : Array Operand) (ats : Array TypeId) : stepO G (carryI P G' T inl) ⟨dst, .call ⟨.builtin b, as, ats⟩, ty, pos, af, gd⟩ st = stepO G (carry P T) ⟨dst, .call ⟨.builtin b, as, ats⟩, ty, pos, af, gd⟩ st := rfl
@[simp] theorem fpI_builtin (b : Builtin) (as : Array Operand) (ats : Array TypeId) : fpC G (carryI P G' T inl) ⟨dst, .call ⟨.builtin b, as, ats⟩, ty, pos, af, gd⟩ st = fpC G (carry P T) ⟨dst, .call ⟨.builtin b, as, ats⟩, ty, pos, af, gd⟩ st := rfl
@[simp] theorem stepY_builtin (b : Builtin) (as : Array Operand) (ats : Array TypeId) : stepO G (carryY P G' T inl c0 off) ⟨dst, .call ⟨.builtin b, as, ats⟩, ty, pos, af, gd⟩ st = stepO G (shiftC off (carry P T)) ⟨dst, .call ⟨.builtin b, as, ats⟩, ty, pos, af, gd⟩ st := rfl
@[simp] theorem stepS_assign (x : Operand) : stepO G (shiftC off (carry P T)) ⟨dst, .assign x, ty, pos, af, gd⟩ ⟨sl, S⟩ = finO dst sl ((aAssign (dst.getD 0 + off) (opd G sl x)).run S) := rfl
@[simp] theorem stepS_alloc (t : TypeId) : stepO G (shiftC off (carry P T)) ⟨dst, .alloc t, ty, pos, af, gd⟩ ⟨sl, S⟩ = finO dst sl ((aAlloc P (dst.getD 0 + off) t).run S) := rfl
@[simp] theorem stepS_box (t : TypeId) (x : Operand) : stepO G (shiftC off (carry P T)) ⟨dst, .box t x, ty, pos, af, gd⟩ ⟨sl, S⟩ = finO dst sl ((aBox (dst.getD 0 + off) (opd G sl x)).run S) := rfl
@[simp] theorem stepS_buildSlice (t : TypeId) (n : Nat) (ps : Array (Nat × Operand)) : stepO G (shiftC off (carry P T)) ⟨dst, .buildSlice t n ps, ty, pos, af, gd⟩ ⟨sl, S⟩ = finO dst sl ((aBuildSlice P (dst.getD 0 + off) t n (ps.toList.map (·.1)) (ps.toList.map fun q => opd G sl q.2)).run S) := rfl
@[simp] theorem stepS_mkMap (t : TypeId) : stepO G (shiftC off (carry P T)) ⟨dst, .makeMap t none, ty, pos, af, gd⟩ ⟨sl, S⟩ = finO dst sl ((newMp (dst.getD 0 + off) t).run S) := rfl
@[simp] theorem stepS_mkSlice (t : TypeId) (l c : Operand) : stepO G (shiftC off (carry P T)) ⟨dst, .makeSlice t l c, ty, pos, af, gd⟩ ⟨sl, S⟩ = finO dst sl ((aMakeSlice P (dst.getD 0 + off) t (opd G sl l) (opd G sl c)).run S) := rfl
@[simp] theorem stepS_len (x : Operand) (t : TypeId) : stepO G (shiftC off (carry P T)) ⟨dst, .call ⟨.builtin .len, #[x], #[t]⟩, ty, pos, af, gd⟩ ⟨sl, S⟩ = finO dst sl (lenA P t (opd G sl x) S) := stepO_len G P T sl S dst ty pos af gd x t
@[simp] theorem stepS_append (s x : Operand) (t : TypeId) : stepO G (shiftC off (carry P T)) ⟨dst, .call ⟨.builtin .append, #[s, x], #[t, t]⟩, ty, pos, af, gd⟩ ⟨sl, S⟩ = finO dst sl ((aAppend P (dst.getD 0 + off) t (opd G sl s) (opd G sl x)).run S) := by
  simp only [stepO, shiftC, carry, aop, aBuiltin, if_true]
  rfl
@[simp] theorem stepS_max (x y : Operand) (ats : Array TypeId) : stepO G (shiftC off (carry P T)) ⟨dst, .call ⟨.builtin .max, #[x, y], ats⟩, ty, pos, af, gd⟩ ⟨sl, S⟩ = finV dst sl S (mmA P true (opd G sl x) (opd G sl y)) := stepO_max G P T sl S dst ty pos af gd x y ats
@[simp] theorem stepS_min (x y : Operand) (ats : Array TypeId) : stepO G (shiftC off (carry P T)) ⟨dst, .call ⟨.builtin .min, #[x, y], ats⟩, ty, pos, af, gd⟩ ⟨sl, S⟩ = finV dst sl S (mmA P false (opd G sl x) (opd G sl y)) := stepO_min G P T sl S dst ty pos af gd x y ats
end
end Go.Proofs.YtmekfllddifglaaDoor.AM

/- The abstract machine, part Nn: rounds, and ranges over functions, as they are reckoned. Conditions: none. -/
set_option linter.unusedVariables false
set_option linter.unusedSimpArgs false
namespace Go.Proofs.YtmekfllddifglaaDoor.AM
open Go

def withLoop {β : Type} (o : Option Ob) (k : LoopState → Option Code → List AV → LoopC → Option β) : Option β := match o with
  | some (.loop s j sl c) => k s j sl c
  | _ => none
@[simp] theorem withLoop_some {β : Type} (s : LoopState) (j : Option Code) (sl : List AV) (c : LoopC) (k : LoopState → Option Code → List AV → LoopC → Option β) : withLoop (some (.loop s j sl c)) k = k s j sl c := rfl
/-- The record is turned. -/
theorem turnL_run {r : Nat} {p : List Nat} {ver : Nat} {s : LoopState} {c0 : LoopC} {s' : LoopState} {j' : Option Code} {S : Subs} {sl : List AV} (hl : (sub S r).live p ver = some (.loop s none sl c0)) (hr : r < S.length) :
    turnL r p ver s c0 s' j' S = some (S.set r ((sub S r).put p (ver, some (.loop s' j' sl c0)))) := by
  have : live S r p ver = some (.loop s none sl c0) := hl
  unfold turnL
  simp only [this, and_self, hr, if_true]
  rfl
/-- What a round's body leaves. -/
noncomputable def endY (r : Nat) (p : List Nat) (ver : Nat) (c0 : LoopC) (x : Option (AX × St)) : Option (AV × Subs) := x.bind fun y => (turnL r p ver .busy c0 (if (jumpOf y.1).isNone then .ready else .done) (jumpOf y.1) y.2.subs).map fun S' => (.v (.bool (jumpOf y.1).isNone), S')
@[simp] theorem endY_normal (r : Nat) (p : List Nat) (ver : Nat) (c0 : LoopC) (s : St) : endY r p ver c0 (some (.normal, s)) = (turnL r p ver .busy c0 .ready none s.subs).map fun S' => (.v (.bool true), S') := rfl
@[simp] theorem endY_ret (r : Nat) (p : List Nat) (ver : Nat) (c0 : LoopC) (s : St) : endY r p ver c0 (some (.ret, s)) = (turnL r p ver .busy c0 .done (some .ret) s.subs).map fun S' => (.v (.bool false), S') := rfl
@[simp] theorem endY_exit (r : Nat) (p : List Nat) (ver : Nat) (c0 : LoopC) (id : Nat) (s : St) : endY r p ver c0 (some (.exit id, s)) = (turnL r p ver .busy c0 .done (some (.exit id)) s.subs).map fun S' => (.v (.bool false), S') := rfl
noncomputable def midY (G : Gl) (cy : Carry) (r : Nat) (p : List Nat) (ver : Nat) (c0 : LoopC) (x : Option (AX × St)) : Option (AV × Subs) := x.bind fun z => onNormal z.1 ((turnL r p ver .ready c0 .busy none z.2.subs).bind fun S2 => endY r p ver c0 (acode G cy (susH c0.sus) 0 c0.body ⟨z.2.slots, S2⟩))
@[simp] theorem midY_normal (G : Gl) (cy : Carry) (r : Nat) (p : List Nat) (ver : Nat) (c0 : LoopC) (s : St) : midY G cy r p ver c0 (some (.normal, s)) = (turnL r p ver .ready c0 .busy none s.subs).bind fun S2 => endY r p ver c0 (acode G cy (susH c0.sus) 0 c0.body ⟨s.slots, S2⟩) := rfl
theorem yield_run (G : Gl) (cy : Carry) (c0 : LoopC) (r : Nat) (p : List Nat) (ver : Nat) (args : List AV) (S : Subs) {sl : List AV} (hl : (sub S r).live p ver = some (.loop .ready none sl c0)) (ha : args.length = c0.ps.size) :
    (aYield G cy c0 r p ver args).run S = lenO S.length (midY G cy r p ver c0 (acode G cy (susH c0.sus) 0 c0.asg ⟨putPs c0.ps args sl, S⟩)) := by
  have : live S r p ver = some (.loop .ready none sl c0) := hl
  simp only [aYield, RW.run, this, ha, and_self, if_true]
  rfl
@[simp] theorem endR_run {rj : Nat} {S : Subs} {s : LoopState} {j : Option Code} {sl : List AV} {c : LoopC} (hl : (sub S rj).live [] 1 = some (.loop s j sl c)) (hs : s ≠ .busy) (hr : rj < S.length) : endR rj S = (jumpAX j).map fun y => (y, ⟨sl, S.set rj ((sub S rj).put [] (1, none))⟩) := by
  have : live S rj [] 1 = some (.loop s j sl c) := hl
  simp only [endR, this, hs, hr, if_true, if_false]
  rfl
/-- What the function that was ranged over leaves. -/
def outR (rj : Nat) (x : Option (AX × St)) : Option (AX × St) := x.bind fun y => leftR y.1 (endR rj y.2.subs)
@[simp] theorem outR_normal (rj : Nat) (s : St) : outR rj (some (.normal, s)) = endR rj s.subs := rfl
@[simp] theorem outR_ret (rj : Nat) (s : St) : outR rj (some (.ret, s)) = endR rj s.subs := rfl
theorem range_run {P : Program} {G : Gl} {T : Tbl} {i : FInfo} {b : Nat} {d : RgD} {fn : Func} (hd : i.rg.lookup b = some d) (hf : P.funcs[d.g]? = some fn) (st : St) {first caps : List AV} (hg : opd G st.slots d.gop = .clo d.g first caps) (hr : d.rj < st.subs.length) (h0 : ((sub st.subs d.rj).ent []).1 = 0) :
    (i.hintsR P G T).rf b st = outR d.rj (acode G (carryY P G T (i.inlT P) d.c0 d.off) ⟨susL d.sus, nmY d.rj d.nm, fun _ _ => none⟩ 0 (bodyOf fn) ⟨(first ++ (.yld d.rj [] 1 :: caps)) ++ List.replicate (fn.ntmps - (first ++ (.yld d.rj [] 1 :: caps)).length) .dead, st.subs.set d.rj ((sub st.subs d.rj).put [] (1, some (.loop .ready none st.slots d.c0)))⟩) := by
  have hc : ctr st.subs d.rj [] = 0 := h0
  simp only [FInfo.hintsR, hd, rgI, hf, aRange, hg, hr, hc, and_self, if_true]
  rfl
@[simp] theorem acode_range (G : Gl) (cy : Carry) (H : Hints) (b : Nat) (f : Operand) (ps : Array Tmp) (x y : Code) (st : St) : acode G cy H b (.rangeFunc f ps x y) st = H.rf b st := rfl
@[simp] theorem susH_sus (s : Nat → Susp) (r : Nat) : (susH s).sus r = s r := rfl
@[simp] theorem susH_nm (s : Nat → Susp) (b : Nat) (st : St) : (susH s).nm b st = some st := rfl
@[simp] theorem hintsR_sus (P : Program) (G : Gl) (T : Tbl) (i : FInfo) (r : Nat) : (i.hintsR P G T).sus r = (i.sus.lookup r).getD [] := rfl
@[simp] theorem hintsR_nm (P : Program) (G : Gl) (T : Tbl) (i : FInfo) (b : Nat) (st : St) : (i.hintsR P G T).nm b st = nmL (i.nm.lookup b) st := rfl
/-- A loop over the elements of a list. -/
theorem aloop_ind {α : Type} {nm : St → Option St} {body : St → Option (AX × St)} {Q : Option (AX × St) → Prop} (I : List α → St → Prop)
    (hnil : ∀ st, I [] st → ∀ K, Q (headL (nm st) body K)) (hcons : ∀ x r st, I (x :: r) st → ∀ K : St → Option (AX × St), (∀ st', I r st' → Q (K st')) → Q (headL (nm st) body K)) :
    ∀ (r : List α) (st : St), I r st → Q (aloop nm body st) := by
  intro r
  induction r with
  | nil => intro st h; rw [aloop_eq]; exact hnil st h _
  | cons x r ih => intro st h; rw [aloop_eq]; exact hcons x r st h _ fun st' h' => ih st' h'
/-- A loop that comes to its end after so many rounds at most. -/
theorem aloop_nat {nm : St → Option St} {body : St → Option (AX × St)} {Q : Option (AX × St) → Prop} (I : Nat → St → Prop)
    (h : ∀ n st, I n st → ∀ K : St → Option (AX × St), (∀ m st', m < n → I m st' → Q (K st')) → Q (headL (nm st) body K)) :
    ∀ (n : Nat) (st : St), I n st → Q (aloop nm body st) := by
  intro n
  induction n using Nat.strongRecOn with
  | _ n ih => intro st hI; rw [aloop_eq]; exact h n st hI _ fun m st' hm h' => ih m hm st' h'
/-- The range over a function in that block. -/
def rangeIn (b : Nat) : Code → Option (Array Tmp × Code × Code)
  | .block id c => match c with
    | .rangeFunc _ p x y => if id = b then some (p, x, y) else none
    | .seq x y => (rangeIn b x).or (rangeIn b y)
    | .block i x => rangeIn b (.block i x)
    | .cond _ x y => (rangeIn b x).or (rangeIn b y)
    | .scope x => rangeIn b x
    | .loop x => rangeIn b x
    | _ => none
  | .seq x y => (rangeIn b x).or (rangeIn b y)
  | .cond _ x y => (rangeIn b x).or (rangeIn b y)
  | .loop c => rangeIn b c
  | .scope c => rangeIn b c
  | _ => none
noncomputable def lcA (fn : Func) (b : Nat) : Code := ((rangeIn b (bodyOf fn)).map (·.2.1)).getD .skip
noncomputable def lcB (fn : Func) (b : Nat) : Code := ((rangeIn b (bodyOf fn)).map (·.2.2)).getD .skip
noncomputable def lcAU (fn : Func) (b : Nat) : Code := ((rangeIn b (bodyOf fn)).map (·.2.1)).getD .skip
noncomputable def lcBU (fn : Func) (b : Nat) : Code := ((rangeIn b (bodyOf fn)).map (·.2.2)).getD .skip
/-- Laid open only where they are run. -/
theorem acode_lcA (G : Gl) (cy : Carry) (H : Hints) (b : Nat) (fn : Func) (b' : Nat) (st : St) : acode G cy H b (lcA fn b') st = acode G cy H b (lcAU fn b') st := rfl
theorem acode_lcB (G : Gl) (cy : Carry) (H : Hints) (b : Nat) (fn : Func) (b' : Nat) (st : St) : acode G cy H b (lcB fn b') st = acode G cy H b (lcBU fn b') st := rfl
@[simp] theorem stBox_eq (off n r : Nat) (p : List Nat) (ver : Nat) (ys : List AV) (S : Subs) : stBox off n r p ver ys S = withBox ((sub S r).live p ver) fun fz cells => if fz then none else if off + n ≤ cells.length then (if r < S.length then some ((), S.set r ((sub S r).put p (ver, some (.box false (cells.take off ++ ys ++ cells.drop (off + n)))))) else none) else none := rfl
@[simp] theorem stArr_eq (off n r : Nat) (p : List Nat) (ver i : Nat) (ys : List AV) (S : Subs) : stArr off n r p ver i ys S = withArr ((sub S r).live p ver) fun nl fz sz e el => if fz then none else if off + n ≤ sz ∧ ys.all cellAV = true ∧ 0 < n then (if r < S.length then some ((), S.set r ((sub S r).put p (ver, some (.arr nl false sz e (el.set i (setEl (el.getD i .dead) off ys)))))) else none) else none := rfl
@[simp] theorem renOb_box (φ : Ren) (fz : Bool) (cells : List AV) : renOb φ (.box fz cells) = .box fz (rens φ cells) := rfl
@[simp] theorem renOb_arr (φ : Ren) (nl fz : Bool) (sz : Nat) (e : TypeId) (el : List AV) : renOb φ (.arr nl fz sz e el) = .arr nl fz sz e el := rfl
@[simp] theorem renOb_map (φ : Ren) (t : TypeId) (en : List (Value × AV)) : renOb φ (.map t en) = .map t en := rfl
@[simp] theorem renOb_loop (φ : Ren) (s : LoopState) (j : Option Code) (sl : List AV) (c : LoopC) : renOb φ (.loop s j sl c) = .loop s j (rens φ sl) c := rfl
@[simp] theorem rens_nil (φ : Ren) : rens φ [] = [] := rfl
@[simp] theorem rens_cons (φ : Ren) (x : AV) (l : List AV) : rens φ (x :: l) = ren φ x :: rens φ l := rfl
@[simp] theorem ren_v (φ : Ren) (x : Value) : ren φ (.v x) = .v x := rfl
@[simp] theorem ren_dead (φ : Ren) : ren φ .dead = .dead := rfl
@[simp] theorem ren_sl (φ : Ren) (n : Bool) (l : List AV) : ren φ (.sl n l) = .sl n l := rfl
@[simp] theorem ren_ref (φ : Ren) (l : List AV) : ren φ (.ref l) = .ref l := rfl
@[simp] theorem ren_agg (φ : Ren) (l : List AV) : ren φ (.agg l) = .agg (rens φ l) := rfl
@[simp] theorem ren_tup (φ : Ren) (l : List AV) : ren φ (.tup l) = .tup (rens φ l) := rfl
@[simp] theorem ren_ifc (φ : Ren) (t : TypeId) (x : AV) : ren φ (.ifc t x) = .ifc t (ren φ x) := rfl
@[simp] theorem ren_clo (φ : Ren) (f : FuncId) (a b : List AV) : ren φ (.clo f a b) = .clo f (rens φ a) (rens φ b) := rfl
def renP {β : Type} (o : Option (Nat × List Nat × Nat)) (k : Nat → List Nat → Nat → β) (d : β) : β := match o with
  | some y => k y.1 y.2.1 y.2.2
  | none => d
@[simp] theorem renP_some {β : Type} (r : Nat) (p : List Nat) (v : Nat) (k : Nat → List Nat → Nat → β) (d : β) : renP (some (r, p, v)) k d = k r p v := rfl
@[simp] theorem renP_none {β : Type} (k : Nat → List Nat → Nat → β) (d : β) : renP none k d = d := rfl
@[simp] theorem ren_loc (φ : Ren) (r : Nat) (p : List Nat) (v o : Nat) : ren φ (.loc r p v o) = renP (φ r p v) (fun r p v => .loc r p v o) .dead := by
  simp only [ren, renP]; cases φ r p v <;> rfl
@[simp] theorem ren_own (φ : Ren) (r : Nat) (p : List Nat) (v lo hi : Nat) : ren φ (.own r p v lo hi) = renP (φ r p v) (fun r p v => .own r p v lo hi) .dead := by
  simp only [ren, renP]; cases φ r p v <;> rfl
@[simp] theorem ren_elt (φ : Ren) (r : Nat) (p : List Nat) (v i o : Nat) : ren φ (.elt r p v i o) = renP (φ r p v) (fun r p v => .elt r p v i o) .dead := by
  simp only [ren, renP]; cases φ r p v <;> rfl
@[simp] theorem ren_mp (φ : Ren) (r : Nat) (p : List Nat) (v : Nat) : ren φ (.mp r p v) = renP (φ r p v) (fun r p v => .mp r p v) .dead := by
  simp only [ren, renP]; cases φ r p v <;> rfl
@[simp] theorem ren_yld (φ : Ren) (r : Nat) (p : List Nat) (v : Nat) : ren φ (.yld r p v) = renP (φ r p v) (fun r p v => .yld r p v) .dead := by
  simp only [ren, renP]; cases φ r p v <;> rfl
@[simp] theorem normφ_eq (K : List Nat) (S : Subs) (r : Nat) (p : List Nat) (v : Nat) : normφ K S r p v = if K.contains r && ((sub S r).live p v).isSome then some (r, p, min v 1) else none := rfl
@[simp] theorem nsub_nil (φ : Ren) : nsub φ [] = [] := rfl
@[simp] theorem nsub_cons (φ : Ren) (p : List Nat) (v : Nat) (o : Option Ob) (s : Sub) : nsub φ ((p, (v, o)) :: s) = (p, (min v 1, o.map (renOb φ))) :: nsub φ s := rfl
@[simp] theorem normL_nil (K : List Nat) (φ : Ren) (i : Nat) : normL K φ i [] = [] := rfl
@[simp] theorem normL_cons (K : List Nat) (φ : Ren) (i : Nat) (s : Sub) (l : Subs) : normL K φ i (s :: l) = (if K.contains i then nsub φ s else []) :: normL K φ (i + 1) l := rfl
@[simp] theorem normV_nil (K : List Nat) (φ : Ren) (i : Nat) : normV K φ i [] = [] := rfl
@[simp] theorem normV_cons (K : List Nat) (φ : Ren) (i : Nat) (s : AV) (l : List AV) : normV K φ i (s :: l) = (if K.contains i then ren φ s else .dead) :: normV K φ (i + 1) l := rfl
@[simp] theorem coSs_nil (st : St) : coSs [] st = st := rfl
@[simp] theorem coCs_nil (st : St) : coCs [] st = st := rfl
end Go.Proofs.YtmekfllddifglaaDoor.AM
