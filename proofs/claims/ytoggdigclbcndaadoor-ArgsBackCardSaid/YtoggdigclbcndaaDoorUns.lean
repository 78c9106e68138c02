/-
  Whole numbers without sign, as values of Lean's own types of that width. Printed by program (unsigned.py).
-/
import Derived.Test.YtoggdigclbcndaaDoorOps
set_option linter.unusedVariables false
set_option linter.unusedSimpArgs false
namespace Go.Proofs.YtoggdigclbcndaaDoor.E
open Go
theorem toNat_ofInt_u8 (a : Int) : (UInt8.ofInt a).toNat = (a % 256).toNat := by simp [UInt8.ofInt]; omega
theorem toNat_ofInt_u16 (a : Int) : (UInt16.ofInt a).toNat = (a % 65536).toNat := by simp [UInt16.ofInt]; omega
theorem toNat_ofInt_u32 (a : Int) : (UInt32.ofInt a).toNat = (a % 4294967296).toNat := by simp [UInt32.ofInt]; omega
theorem toNat_ofInt_u64 (a : Int) : (UInt64.ofInt a).toNat = (a % 18446744073709551616).toNat := by simp [UInt64.ofInt]; omega

/-! ### 8 bits -/
theorem ofInt_u8 (x : UInt8) : UInt8.ofInt (x.toNat : Int) = x := by
  apply UInt8.toNat_inj.1
  have hx := x.toNat_lt
  rw [toNat_ofInt_u8]; omega
theorem bv_u8 (a : Int) : BitVec.ofInt 8 a = (UInt8.ofInt a).toBitVec := by
  apply BitVec.eq_of_toNat_eq
  rw [BitVec.toNat_ofInt]
  show _ = (UInt8.ofInt a).toNat
  rw [toNat_ofInt_u8]; rfl
theorem wrap_u8 (a : Int) : IntKind.u8.wrap a = ((UInt8.ofInt a).toNat : Int) := by
  have h1 : IntKind.u8.wrap a = a % 256 := by simp [IntKind.wrap, IntKind.bits, IntKind.signed]
  rw [h1, toNat_ofInt_u8]; omega
theorem add_u8 (a b : Int) : UInt8.ofInt (a + b) = UInt8.ofInt a + UInt8.ofInt b := by
  apply UInt8.toNat_inj.1
  rw [UInt8.toNat_add, toNat_ofInt_u8, toNat_ofInt_u8, toNat_ofInt_u8]; omega
theorem sub_u8 (a b : Int) : UInt8.ofInt (a - b) = UInt8.ofInt a - UInt8.ofInt b := by
  apply UInt8.toNat_inj.1
  rw [UInt8.toNat_sub, toNat_ofInt_u8, toNat_ofInt_u8, toNat_ofInt_u8]; omega
theorem mul_u8 (a b : Int) : UInt8.ofInt (a * b) = UInt8.ofInt a * UInt8.ofInt b := by
  apply UInt8.toNat_inj.1
  rw [UInt8.toNat_mul, toNat_ofInt_u8, toNat_ofInt_u8, toNat_ofInt_u8]
  have h : (((a % 256).toNat * (b % 256).toNat % 2 ^ 8 : Nat) : Int) = a * b % 256 := by
    rw [Int.natCast_emod]
    have e1 : (((a % 256).toNat * (b % 256).toNat : Nat) : Int) = (a % 256) * (b % 256) := by
      rw [Int.natCast_mul, Int.toNat_of_nonneg (by omega), Int.toNat_of_nonneg (by omega)]
    rw [e1]
    show (a % 256) * (b % 256) % 256 = _
    rw [← Int.mul_emod]
  omega
theorem bitsxor_u8 (a b : Int) : bitsOf .xor .u8 a b = ((UInt8.ofInt a ^^^ UInt8.ofInt b).toNat : Int) := by
  show IntKind.u8.wrap ((BitVec.ofInt 8 a ^^^ BitVec.ofInt 8 b).toNat : Int) = _
  rw [bv_u8, bv_u8, ← UInt8.toBitVec_xor]
  show IntKind.u8.wrap ((UInt8.ofInt a ^^^ UInt8.ofInt b).toNat : Int) = _
  rw [wrap_u8, ofInt_u8]
theorem bitsand_u8 (a b : Int) : bitsOf .and .u8 a b = ((UInt8.ofInt a &&& UInt8.ofInt b).toNat : Int) := by
  show IntKind.u8.wrap ((BitVec.ofInt 8 a &&& BitVec.ofInt 8 b).toNat : Int) = _
  rw [bv_u8, bv_u8, ← UInt8.toBitVec_and]
  show IntKind.u8.wrap ((UInt8.ofInt a &&& UInt8.ofInt b).toNat : Int) = _
  rw [wrap_u8, ofInt_u8]
theorem bitsor_u8 (a b : Int) : bitsOf .or .u8 a b = ((UInt8.ofInt a ||| UInt8.ofInt b).toNat : Int) := by
  show IntKind.u8.wrap ((BitVec.ofInt 8 a ||| BitVec.ofInt 8 b).toNat : Int) = _
  rw [bv_u8, bv_u8, ← UInt8.toBitVec_or]
  show IntKind.u8.wrap ((UInt8.ofInt a ||| UInt8.ofInt b).toNat : Int) = _
  rw [wrap_u8, ofInt_u8]
theorem shl_u8 (a : UInt8) (c : Nat) (hc : c < 8) : UInt8.ofInt ((a.toNat : Int) * 2 ^ c) = a <<< UInt8.ofNat c := by
  apply UInt8.toNat_inj.1
  rw [toNat_ofInt_u8, UInt8.toNat_shiftLeft, UInt8.toNat_ofNat', Nat.shiftLeft_eq]
  have h1 : c % 2 ^ 8 % 8 = c := by omega
  rw [h1]
  have h2 : (a.toNat : Int) * 2 ^ c = ((a.toNat * 2 ^ c : Nat) : Int) := by push_cast; rfl
  rw [h2]; omega
theorem shr_u8 (a : UInt8) (c : Nat) (hc : c < 8) : (a.toNat : Int).fdiv (2 ^ c) = ((a >>> UInt8.ofNat c).toNat : Int) := by
  rw [UInt8.toNat_shiftRight, UInt8.toNat_ofNat', Nat.shiftRight_eq_div_pow]
  have h1 : c % 2 ^ 8 % 8 = c := by omega
  rw [h1, Int.fdiv_eq_ediv_of_nonneg _ (by exact_mod_cast Nat.zero_le (2 ^ c))]
  push_cast; rfl
section
variable {P : Program} {w0 : World} {n : Nat} {σ : Slots} {h : Heap} {ty : TypeId}
theorem V.addB {t t' : TypeId} {x y : Operand} {a b : UInt8} (hx : ev n σ x = .int .u8 (a.toNat : Int)) (hy : ev n σ y = .int .u8 (b.toNat : Int)) : V P w0 n σ h (.binOp .add t x y t') ty (.int .u8 ((a + b).toNat : Int)) := by
  have := V.add (P := P) (w0 := w0) (h := h) (ty := ty) (t := t) (t' := t') hx hy; rwa [wrap_u8, add_u8, ofInt_u8, ofInt_u8] at this
theorem V.addBc {t t' : TypeId} {x : Operand} {a : UInt8} {c : Int} (hx : ev n σ x = .int .u8 (a.toNat : Int)) : V P w0 n σ h (.binOp .add t x (.const (.int .u8 c)) t') ty (.int .u8 ((a + UInt8.ofInt c).toNat : Int)) := by
  have := V.add (P := P) (w0 := w0) (h := h) (ty := ty) (t := t) (t' := t') hx (show ev n σ (.const (.int .u8 c)) = .int .u8 c from rfl); rwa [wrap_u8, add_u8, ofInt_u8] at this
theorem V.subB {t t' : TypeId} {x y : Operand} {a b : UInt8} (hx : ev n σ x = .int .u8 (a.toNat : Int)) (hy : ev n σ y = .int .u8 (b.toNat : Int)) : V P w0 n σ h (.binOp .sub t x y t') ty (.int .u8 ((a - b).toNat : Int)) := by
  have := V.sub (P := P) (w0 := w0) (h := h) (ty := ty) (t := t) (t' := t') hx hy; rwa [wrap_u8, sub_u8, ofInt_u8, ofInt_u8] at this
theorem V.mulB {t t' : TypeId} {x y : Operand} {a b : UInt8} (hx : ev n σ x = .int .u8 (a.toNat : Int)) (hy : ev n σ y = .int .u8 (b.toNat : Int)) : V P w0 n σ h (.binOp .mul t x y t') ty (.int .u8 ((a * b).toNat : Int)) := by
  have := V.mul (P := P) (w0 := w0) (h := h) (ty := ty) (t := t) (t' := t') hx hy; rwa [wrap_u8, mul_u8, ofInt_u8, ofInt_u8] at this
theorem V.mulBc {t t' : TypeId} {x : Operand} {a : UInt8} {c : Int} (hx : ev n σ x = .int .u8 (a.toNat : Int)) : V P w0 n σ h (.binOp .mul t x (.const (.int .u8 c)) t') ty (.int .u8 ((a * UInt8.ofInt c).toNat : Int)) := by
  have := V.mul (P := P) (w0 := w0) (h := h) (ty := ty) (t := t) (t' := t') hx (show ev n σ (.const (.int .u8 c)) = .int .u8 c from rfl); rwa [wrap_u8, mul_u8, ofInt_u8] at this
theorem V.xorB {t t' : TypeId} {x y : Operand} {a b : UInt8} (hx : ev n σ x = .int .u8 (a.toNat : Int)) (hy : ev n σ y = .int .u8 (b.toNat : Int)) : V P w0 n σ h (.binOp .xor t x y t') ty (.int .u8 ((a ^^^ b).toNat : Int)) := by
  have := V.xor (P := P) (w0 := w0) (h := h) (ty := ty) (t := t) (t' := t') hx hy; rwa [bitsxor_u8, ofInt_u8, ofInt_u8] at this
theorem V.xorBc {t t' : TypeId} {x : Operand} {a : UInt8} {c : Int} (hx : ev n σ x = .int .u8 (a.toNat : Int)) : V P w0 n σ h (.binOp .xor t x (.const (.int .u8 c)) t') ty (.int .u8 ((a ^^^ UInt8.ofInt c).toNat : Int)) := by
  have := V.xor (P := P) (w0 := w0) (h := h) (ty := ty) (t := t) (t' := t') hx (show ev n σ (.const (.int .u8 c)) = .int .u8 c from rfl); rwa [bitsxor_u8, ofInt_u8] at this
theorem V.andB {t t' : TypeId} {x y : Operand} {a b : UInt8} (hx : ev n σ x = .int .u8 (a.toNat : Int)) (hy : ev n σ y = .int .u8 (b.toNat : Int)) : V P w0 n σ h (.binOp .and t x y t') ty (.int .u8 ((a &&& b).toNat : Int)) := by
  have := V.and (P := P) (w0 := w0) (h := h) (ty := ty) (t := t) (t' := t') hx hy; rwa [bitsand_u8, ofInt_u8, ofInt_u8] at this
theorem V.andBc {t t' : TypeId} {x : Operand} {a : UInt8} {c : Int} (hx : ev n σ x = .int .u8 (a.toNat : Int)) : V P w0 n σ h (.binOp .and t x (.const (.int .u8 c)) t') ty (.int .u8 ((a &&& UInt8.ofInt c).toNat : Int)) := by
  have := V.and (P := P) (w0 := w0) (h := h) (ty := ty) (t := t) (t' := t') hx (show ev n σ (.const (.int .u8 c)) = .int .u8 c from rfl); rwa [bitsand_u8, ofInt_u8] at this
theorem V.orB {t t' : TypeId} {x y : Operand} {a b : UInt8} (hx : ev n σ x = .int .u8 (a.toNat : Int)) (hy : ev n σ y = .int .u8 (b.toNat : Int)) : V P w0 n σ h (.binOp .or t x y t') ty (.int .u8 ((a ||| b).toNat : Int)) := by
  have := V.or (P := P) (w0 := w0) (h := h) (ty := ty) (t := t) (t' := t') hx hy; rwa [bitsor_u8, ofInt_u8, ofInt_u8] at this
theorem V.shlB {t t' : TypeId} {x : Operand} {k' : IntKind} {a : UInt8} {c : Int} (hx : ev n σ x = .int .u8 (a.toNat : Int)) (hc : (0 : Int) ≤ c ∧ c < 8) : V P w0 n σ h (.binOp .shl t x (.const (.int k' c)) t') ty (.int .u8 ((a <<< UInt8.ofNat c.toNat).toNat : Int)) := by
  have := V.shl (P := P) (w0 := w0) (h := h) (ty := ty) (t := t) (t' := t') hx (show ev n σ (.const (.int k' c)) = .int k' c from rfl) hc.1
  have hm : min c.toNat IntKind.u8.bits = c.toNat := by show min c.toNat 8 = c.toNat; omega
  rwa [hm, wrap_u8, shl_u8 _ _ (by omega)] at this
theorem V.shrB {t t' : TypeId} {x : Operand} {k' : IntKind} {a : UInt8} {c : Int} (hx : ev n σ x = .int .u8 (a.toNat : Int)) (hc : (0 : Int) ≤ c ∧ c < 8) : V P w0 n σ h (.binOp .shr t x (.const (.int k' c)) t') ty (.int .u8 ((a >>> UInt8.ofNat c.toNat).toNat : Int)) := by
  have := V.shr (P := P) (w0 := w0) (h := h) (ty := ty) (t := t) (t' := t') hx (show ev n σ (.const (.int k' c)) = .int k' c from rfl) hc.1
  have hm : min c.toNat IntKind.u8.bits = c.toNat := by show min c.toNat 8 = c.toNat; omega
  rwa [hm, shr_u8 _ _ (by omega)] at this
theorem V.convB {s t : TypeId} {x : Operand} {k' : IntKind} {a : Int} [hs : IntT P s k'] [ht : IntT P t .u8] (hx : ev n σ x = .int k' a) : V P w0 n σ h (.convert s t x) ty (.int .u8 ((UInt8.ofInt a).toNat : Int)) := by
  have := V.conv (P := P) (w0 := w0) (h := h) (ty := ty) (s := s) (t := t) hx; rwa [wrap_u8] at this
end

/-! ### 32 bits -/
theorem ofInt_u32 (x : UInt32) : UInt32.ofInt (x.toNat : Int) = x := by
  apply UInt32.toNat_inj.1
  have hx := x.toNat_lt
  rw [toNat_ofInt_u32]; omega
theorem bv_u32 (a : Int) : BitVec.ofInt 32 a = (UInt32.ofInt a).toBitVec := by
  apply BitVec.eq_of_toNat_eq
  rw [BitVec.toNat_ofInt]
  show _ = (UInt32.ofInt a).toNat
  rw [toNat_ofInt_u32]; rfl
theorem wrap_u32 (a : Int) : IntKind.u32.wrap a = ((UInt32.ofInt a).toNat : Int) := by
  have h1 : IntKind.u32.wrap a = a % 4294967296 := by simp [IntKind.wrap, IntKind.bits, IntKind.signed]
  rw [h1, toNat_ofInt_u32]; omega
theorem add_u32 (a b : Int) : UInt32.ofInt (a + b) = UInt32.ofInt a + UInt32.ofInt b := by
  apply UInt32.toNat_inj.1
  rw [UInt32.toNat_add, toNat_ofInt_u32, toNat_ofInt_u32, toNat_ofInt_u32]; omega
theorem sub_u32 (a b : Int) : UInt32.ofInt (a - b) = UInt32.ofInt a - UInt32.ofInt b := by
  apply UInt32.toNat_inj.1
  rw [UInt32.toNat_sub, toNat_ofInt_u32, toNat_ofInt_u32, toNat_ofInt_u32]; omega
theorem mul_u32 (a b : Int) : UInt32.ofInt (a * b) = UInt32.ofInt a * UInt32.ofInt b := by
  apply UInt32.toNat_inj.1
  rw [UInt32.toNat_mul, toNat_ofInt_u32, toNat_ofInt_u32, toNat_ofInt_u32]
  have h : (((a % 4294967296).toNat * (b % 4294967296).toNat % 2 ^ 32 : Nat) : Int) = a * b % 4294967296 := by
    rw [Int.natCast_emod]
    have e1 : (((a % 4294967296).toNat * (b % 4294967296).toNat : Nat) : Int) = (a % 4294967296) * (b % 4294967296) := by
      rw [Int.natCast_mul, Int.toNat_of_nonneg (by omega), Int.toNat_of_nonneg (by omega)]
    rw [e1]
    show (a % 4294967296) * (b % 4294967296) % 4294967296 = _
    rw [← Int.mul_emod]
  omega
theorem bitsxor_u32 (a b : Int) : bitsOf .xor .u32 a b = ((UInt32.ofInt a ^^^ UInt32.ofInt b).toNat : Int) := by
  show IntKind.u32.wrap ((BitVec.ofInt 32 a ^^^ BitVec.ofInt 32 b).toNat : Int) = _
  rw [bv_u32, bv_u32, ← UInt32.toBitVec_xor]
  show IntKind.u32.wrap ((UInt32.ofInt a ^^^ UInt32.ofInt b).toNat : Int) = _
  rw [wrap_u32, ofInt_u32]
theorem bitsand_u32 (a b : Int) : bitsOf .and .u32 a b = ((UInt32.ofInt a &&& UInt32.ofInt b).toNat : Int) := by
  show IntKind.u32.wrap ((BitVec.ofInt 32 a &&& BitVec.ofInt 32 b).toNat : Int) = _
  rw [bv_u32, bv_u32, ← UInt32.toBitVec_and]
  show IntKind.u32.wrap ((UInt32.ofInt a &&& UInt32.ofInt b).toNat : Int) = _
  rw [wrap_u32, ofInt_u32]
theorem bitsor_u32 (a b : Int) : bitsOf .or .u32 a b = ((UInt32.ofInt a ||| UInt32.ofInt b).toNat : Int) := by
  show IntKind.u32.wrap ((BitVec.ofInt 32 a ||| BitVec.ofInt 32 b).toNat : Int) = _
  rw [bv_u32, bv_u32, ← UInt32.toBitVec_or]
  show IntKind.u32.wrap ((UInt32.ofInt a ||| UInt32.ofInt b).toNat : Int) = _
  rw [wrap_u32, ofInt_u32]
theorem shl_u32 (a : UInt32) (c : Nat) (hc : c < 32) : UInt32.ofInt ((a.toNat : Int) * 2 ^ c) = a <<< UInt32.ofNat c := by
  apply UInt32.toNat_inj.1
  rw [toNat_ofInt_u32, UInt32.toNat_shiftLeft, UInt32.toNat_ofNat', Nat.shiftLeft_eq]
  have h1 : c % 2 ^ 32 % 32 = c := by omega
  rw [h1]
  have h2 : (a.toNat : Int) * 2 ^ c = ((a.toNat * 2 ^ c : Nat) : Int) := by push_cast; rfl
  rw [h2]; omega
theorem shr_u32 (a : UInt32) (c : Nat) (hc : c < 32) : (a.toNat : Int).fdiv (2 ^ c) = ((a >>> UInt32.ofNat c).toNat : Int) := by
  rw [UInt32.toNat_shiftRight, UInt32.toNat_ofNat', Nat.shiftRight_eq_div_pow]
  have h1 : c % 2 ^ 32 % 32 = c := by omega
  rw [h1, Int.fdiv_eq_ediv_of_nonneg _ (by exact_mod_cast Nat.zero_le (2 ^ c))]
  push_cast; rfl
section
variable {P : Program} {w0 : World} {n : Nat} {σ : Slots} {h : Heap} {ty : TypeId}
theorem V.addW {t t' : TypeId} {x y : Operand} {a b : UInt32} (hx : ev n σ x = .int .u32 (a.toNat : Int)) (hy : ev n σ y = .int .u32 (b.toNat : Int)) : V P w0 n σ h (.binOp .add t x y t') ty (.int .u32 ((a + b).toNat : Int)) := by
  have := V.add (P := P) (w0 := w0) (h := h) (ty := ty) (t := t) (t' := t') hx hy; rwa [wrap_u32, add_u32, ofInt_u32, ofInt_u32] at this
theorem V.addWc {t t' : TypeId} {x : Operand} {a : UInt32} {c : Int} (hx : ev n σ x = .int .u32 (a.toNat : Int)) : V P w0 n σ h (.binOp .add t x (.const (.int .u32 c)) t') ty (.int .u32 ((a + UInt32.ofInt c).toNat : Int)) := by
  have := V.add (P := P) (w0 := w0) (h := h) (ty := ty) (t := t) (t' := t') hx (show ev n σ (.const (.int .u32 c)) = .int .u32 c from rfl); rwa [wrap_u32, add_u32, ofInt_u32] at this
theorem V.subW {t t' : TypeId} {x y : Operand} {a b : UInt32} (hx : ev n σ x = .int .u32 (a.toNat : Int)) (hy : ev n σ y = .int .u32 (b.toNat : Int)) : V P w0 n σ h (.binOp .sub t x y t') ty (.int .u32 ((a - b).toNat : Int)) := by
  have := V.sub (P := P) (w0 := w0) (h := h) (ty := ty) (t := t) (t' := t') hx hy; rwa [wrap_u32, sub_u32, ofInt_u32, ofInt_u32] at this
theorem V.mulW {t t' : TypeId} {x y : Operand} {a b : UInt32} (hx : ev n σ x = .int .u32 (a.toNat : Int)) (hy : ev n σ y = .int .u32 (b.toNat : Int)) : V P w0 n σ h (.binOp .mul t x y t') ty (.int .u32 ((a * b).toNat : Int)) := by
  have := V.mul (P := P) (w0 := w0) (h := h) (ty := ty) (t := t) (t' := t') hx hy; rwa [wrap_u32, mul_u32, ofInt_u32, ofInt_u32] at this
theorem V.mulWc {t t' : TypeId} {x : Operand} {a : UInt32} {c : Int} (hx : ev n σ x = .int .u32 (a.toNat : Int)) : V P w0 n σ h (.binOp .mul t x (.const (.int .u32 c)) t') ty (.int .u32 ((a * UInt32.ofInt c).toNat : Int)) := by
  have := V.mul (P := P) (w0 := w0) (h := h) (ty := ty) (t := t) (t' := t') hx (show ev n σ (.const (.int .u32 c)) = .int .u32 c from rfl); rwa [wrap_u32, mul_u32, ofInt_u32] at this
theorem V.xorW {t t' : TypeId} {x y : Operand} {a b : UInt32} (hx : ev n σ x = .int .u32 (a.toNat : Int)) (hy : ev n σ y = .int .u32 (b.toNat : Int)) : V P w0 n σ h (.binOp .xor t x y t') ty (.int .u32 ((a ^^^ b).toNat : Int)) := by
  have := V.xor (P := P) (w0 := w0) (h := h) (ty := ty) (t := t) (t' := t') hx hy; rwa [bitsxor_u32, ofInt_u32, ofInt_u32] at this
theorem V.xorWc {t t' : TypeId} {x : Operand} {a : UInt32} {c : Int} (hx : ev n σ x = .int .u32 (a.toNat : Int)) : V P w0 n σ h (.binOp .xor t x (.const (.int .u32 c)) t') ty (.int .u32 ((a ^^^ UInt32.ofInt c).toNat : Int)) := by
  have := V.xor (P := P) (w0 := w0) (h := h) (ty := ty) (t := t) (t' := t') hx (show ev n σ (.const (.int .u32 c)) = .int .u32 c from rfl); rwa [bitsxor_u32, ofInt_u32] at this
theorem V.andW {t t' : TypeId} {x y : Operand} {a b : UInt32} (hx : ev n σ x = .int .u32 (a.toNat : Int)) (hy : ev n σ y = .int .u32 (b.toNat : Int)) : V P w0 n σ h (.binOp .and t x y t') ty (.int .u32 ((a &&& b).toNat : Int)) := by
  have := V.and (P := P) (w0 := w0) (h := h) (ty := ty) (t := t) (t' := t') hx hy; rwa [bitsand_u32, ofInt_u32, ofInt_u32] at this
theorem V.andWc {t t' : TypeId} {x : Operand} {a : UInt32} {c : Int} (hx : ev n σ x = .int .u32 (a.toNat : Int)) : V P w0 n σ h (.binOp .and t x (.const (.int .u32 c)) t') ty (.int .u32 ((a &&& UInt32.ofInt c).toNat : Int)) := by
  have := V.and (P := P) (w0 := w0) (h := h) (ty := ty) (t := t) (t' := t') hx (show ev n σ (.const (.int .u32 c)) = .int .u32 c from rfl); rwa [bitsand_u32, ofInt_u32] at this
theorem V.orW {t t' : TypeId} {x y : Operand} {a b : UInt32} (hx : ev n σ x = .int .u32 (a.toNat : Int)) (hy : ev n σ y = .int .u32 (b.toNat : Int)) : V P w0 n σ h (.binOp .or t x y t') ty (.int .u32 ((a ||| b).toNat : Int)) := by
  have := V.or (P := P) (w0 := w0) (h := h) (ty := ty) (t := t) (t' := t') hx hy; rwa [bitsor_u32, ofInt_u32, ofInt_u32] at this
theorem V.shlW {t t' : TypeId} {x : Operand} {k' : IntKind} {a : UInt32} {c : Int} (hx : ev n σ x = .int .u32 (a.toNat : Int)) (hc : (0 : Int) ≤ c ∧ c < 32) : V P w0 n σ h (.binOp .shl t x (.const (.int k' c)) t') ty (.int .u32 ((a <<< UInt32.ofNat c.toNat).toNat : Int)) := by
  have := V.shl (P := P) (w0 := w0) (h := h) (ty := ty) (t := t) (t' := t') hx (show ev n σ (.const (.int k' c)) = .int k' c from rfl) hc.1
  have hm : min c.toNat IntKind.u32.bits = c.toNat := by show min c.toNat 32 = c.toNat; omega
  rwa [hm, wrap_u32, shl_u32 _ _ (by omega)] at this
theorem V.shrW {t t' : TypeId} {x : Operand} {k' : IntKind} {a : UInt32} {c : Int} (hx : ev n σ x = .int .u32 (a.toNat : Int)) (hc : (0 : Int) ≤ c ∧ c < 32) : V P w0 n σ h (.binOp .shr t x (.const (.int k' c)) t') ty (.int .u32 ((a >>> UInt32.ofNat c.toNat).toNat : Int)) := by
  have := V.shr (P := P) (w0 := w0) (h := h) (ty := ty) (t := t) (t' := t') hx (show ev n σ (.const (.int k' c)) = .int k' c from rfl) hc.1
  have hm : min c.toNat IntKind.u32.bits = c.toNat := by show min c.toNat 32 = c.toNat; omega
  rwa [hm, shr_u32 _ _ (by omega)] at this
theorem V.convW {s t : TypeId} {x : Operand} {k' : IntKind} {a : Int} [hs : IntT P s k'] [ht : IntT P t .u32] (hx : ev n σ x = .int k' a) : V P w0 n σ h (.convert s t x) ty (.int .u32 ((UInt32.ofInt a).toNat : Int)) := by
  have := V.conv (P := P) (w0 := w0) (h := h) (ty := ty) (s := s) (t := t) hx; rwa [wrap_u32] at this
end

/-! ### 64 bits -/
theorem ofInt_u64 (x : UInt64) : UInt64.ofInt (x.toNat : Int) = x := by
  apply UInt64.toNat_inj.1
  have hx := x.toNat_lt
  rw [toNat_ofInt_u64]; omega
theorem bv_u64 (a : Int) : BitVec.ofInt 64 a = (UInt64.ofInt a).toBitVec := by
  apply BitVec.eq_of_toNat_eq
  rw [BitVec.toNat_ofInt]
  show _ = (UInt64.ofInt a).toNat
  rw [toNat_ofInt_u64]; rfl
theorem wrap_u64 (a : Int) : IntKind.u64.wrap a = ((UInt64.ofInt a).toNat : Int) := by
  have h1 : IntKind.u64.wrap a = a % 18446744073709551616 := by simp [IntKind.wrap, IntKind.bits, IntKind.signed]
  rw [h1, toNat_ofInt_u64]; omega
theorem add_u64 (a b : Int) : UInt64.ofInt (a + b) = UInt64.ofInt a + UInt64.ofInt b := by
  apply UInt64.toNat_inj.1
  rw [UInt64.toNat_add, toNat_ofInt_u64, toNat_ofInt_u64, toNat_ofInt_u64]; omega
theorem sub_u64 (a b : Int) : UInt64.ofInt (a - b) = UInt64.ofInt a - UInt64.ofInt b := by
  apply UInt64.toNat_inj.1
  rw [UInt64.toNat_sub, toNat_ofInt_u64, toNat_ofInt_u64, toNat_ofInt_u64]; omega
theorem mul_u64 (a b : Int) : UInt64.ofInt (a * b) = UInt64.ofInt a * UInt64.ofInt b := by
  apply UInt64.toNat_inj.1
  rw [UInt64.toNat_mul, toNat_ofInt_u64, toNat_ofInt_u64, toNat_ofInt_u64]
  have h : (((a % 18446744073709551616).toNat * (b % 18446744073709551616).toNat % 2 ^ 64 : Nat) : Int) = a * b % 18446744073709551616 := by
    rw [Int.natCast_emod]
    have e1 : (((a % 18446744073709551616).toNat * (b % 18446744073709551616).toNat : Nat) : Int) = (a % 18446744073709551616) * (b % 18446744073709551616) := by
      rw [Int.natCast_mul, Int.toNat_of_nonneg (by omega), Int.toNat_of_nonneg (by omega)]
    rw [e1]
    show (a % 18446744073709551616) * (b % 18446744073709551616) % 18446744073709551616 = _
    rw [← Int.mul_emod]
  omega
theorem bitsxor_u64 (a b : Int) : bitsOf .xor .u64 a b = ((UInt64.ofInt a ^^^ UInt64.ofInt b).toNat : Int) := by
  show IntKind.u64.wrap ((BitVec.ofInt 64 a ^^^ BitVec.ofInt 64 b).toNat : Int) = _
  rw [bv_u64, bv_u64, ← UInt64.toBitVec_xor]
  show IntKind.u64.wrap ((UInt64.ofInt a ^^^ UInt64.ofInt b).toNat : Int) = _
  rw [wrap_u64, ofInt_u64]
theorem bitsand_u64 (a b : Int) : bitsOf .and .u64 a b = ((UInt64.ofInt a &&& UInt64.ofInt b).toNat : Int) := by
  show IntKind.u64.wrap ((BitVec.ofInt 64 a &&& BitVec.ofInt 64 b).toNat : Int) = _
  rw [bv_u64, bv_u64, ← UInt64.toBitVec_and]
  show IntKind.u64.wrap ((UInt64.ofInt a &&& UInt64.ofInt b).toNat : Int) = _
  rw [wrap_u64, ofInt_u64]
theorem bitsor_u64 (a b : Int) : bitsOf .or .u64 a b = ((UInt64.ofInt a ||| UInt64.ofInt b).toNat : Int) := by
  show IntKind.u64.wrap ((BitVec.ofInt 64 a ||| BitVec.ofInt 64 b).toNat : Int) = _
  rw [bv_u64, bv_u64, ← UInt64.toBitVec_or]
  show IntKind.u64.wrap ((UInt64.ofInt a ||| UInt64.ofInt b).toNat : Int) = _
  rw [wrap_u64, ofInt_u64]
theorem shl_u64 (a : UInt64) (c : Nat) (hc : c < 64) : UInt64.ofInt ((a.toNat : Int) * 2 ^ c) = a <<< UInt64.ofNat c := by
  apply UInt64.toNat_inj.1
  rw [toNat_ofInt_u64, UInt64.toNat_shiftLeft, UInt64.toNat_ofNat', Nat.shiftLeft_eq]
  have h1 : c % 2 ^ 64 % 64 = c := by omega
  rw [h1]
  have h2 : (a.toNat : Int) * 2 ^ c = ((a.toNat * 2 ^ c : Nat) : Int) := by push_cast; rfl
  rw [h2]; omega
theorem shr_u64 (a : UInt64) (c : Nat) (hc : c < 64) : (a.toNat : Int).fdiv (2 ^ c) = ((a >>> UInt64.ofNat c).toNat : Int) := by
  rw [UInt64.toNat_shiftRight, UInt64.toNat_ofNat', Nat.shiftRight_eq_div_pow]
  have h1 : c % 2 ^ 64 % 64 = c := by omega
  rw [h1, Int.fdiv_eq_ediv_of_nonneg _ (by exact_mod_cast Nat.zero_le (2 ^ c))]
  push_cast; rfl
section
variable {P : Program} {w0 : World} {n : Nat} {σ : Slots} {h : Heap} {ty : TypeId}
theorem V.addQ {t t' : TypeId} {x y : Operand} {a b : UInt64} (hx : ev n σ x = .int .u64 (a.toNat : Int)) (hy : ev n σ y = .int .u64 (b.toNat : Int)) : V P w0 n σ h (.binOp .add t x y t') ty (.int .u64 ((a + b).toNat : Int)) := by
  have := V.add (P := P) (w0 := w0) (h := h) (ty := ty) (t := t) (t' := t') hx hy; rwa [wrap_u64, add_u64, ofInt_u64, ofInt_u64] at this
theorem V.addQc {t t' : TypeId} {x : Operand} {a : UInt64} {c : Int} (hx : ev n σ x = .int .u64 (a.toNat : Int)) : V P w0 n σ h (.binOp .add t x (.const (.int .u64 c)) t') ty (.int .u64 ((a + UInt64.ofInt c).toNat : Int)) := by
  have := V.add (P := P) (w0 := w0) (h := h) (ty := ty) (t := t) (t' := t') hx (show ev n σ (.const (.int .u64 c)) = .int .u64 c from rfl); rwa [wrap_u64, add_u64, ofInt_u64] at this
theorem V.subQ {t t' : TypeId} {x y : Operand} {a b : UInt64} (hx : ev n σ x = .int .u64 (a.toNat : Int)) (hy : ev n σ y = .int .u64 (b.toNat : Int)) : V P w0 n σ h (.binOp .sub t x y t') ty (.int .u64 ((a - b).toNat : Int)) := by
  have := V.sub (P := P) (w0 := w0) (h := h) (ty := ty) (t := t) (t' := t') hx hy; rwa [wrap_u64, sub_u64, ofInt_u64, ofInt_u64] at this
theorem V.mulQ {t t' : TypeId} {x y : Operand} {a b : UInt64} (hx : ev n σ x = .int .u64 (a.toNat : Int)) (hy : ev n σ y = .int .u64 (b.toNat : Int)) : V P w0 n σ h (.binOp .mul t x y t') ty (.int .u64 ((a * b).toNat : Int)) := by
  have := V.mul (P := P) (w0 := w0) (h := h) (ty := ty) (t := t) (t' := t') hx hy; rwa [wrap_u64, mul_u64, ofInt_u64, ofInt_u64] at this
theorem V.mulQc {t t' : TypeId} {x : Operand} {a : UInt64} {c : Int} (hx : ev n σ x = .int .u64 (a.toNat : Int)) : V P w0 n σ h (.binOp .mul t x (.const (.int .u64 c)) t') ty (.int .u64 ((a * UInt64.ofInt c).toNat : Int)) := by
  have := V.mul (P := P) (w0 := w0) (h := h) (ty := ty) (t := t) (t' := t') hx (show ev n σ (.const (.int .u64 c)) = .int .u64 c from rfl); rwa [wrap_u64, mul_u64, ofInt_u64] at this
theorem V.xorQ {t t' : TypeId} {x y : Operand} {a b : UInt64} (hx : ev n σ x = .int .u64 (a.toNat : Int)) (hy : ev n σ y = .int .u64 (b.toNat : Int)) : V P w0 n σ h (.binOp .xor t x y t') ty (.int .u64 ((a ^^^ b).toNat : Int)) := by
  have := V.xor (P := P) (w0 := w0) (h := h) (ty := ty) (t := t) (t' := t') hx hy; rwa [bitsxor_u64, ofInt_u64, ofInt_u64] at this
theorem V.xorQc {t t' : TypeId} {x : Operand} {a : UInt64} {c : Int} (hx : ev n σ x = .int .u64 (a.toNat : Int)) : V P w0 n σ h (.binOp .xor t x (.const (.int .u64 c)) t') ty (.int .u64 ((a ^^^ UInt64.ofInt c).toNat : Int)) := by
  have := V.xor (P := P) (w0 := w0) (h := h) (ty := ty) (t := t) (t' := t') hx (show ev n σ (.const (.int .u64 c)) = .int .u64 c from rfl); rwa [bitsxor_u64, ofInt_u64] at this
theorem V.andQ {t t' : TypeId} {x y : Operand} {a b : UInt64} (hx : ev n σ x = .int .u64 (a.toNat : Int)) (hy : ev n σ y = .int .u64 (b.toNat : Int)) : V P w0 n σ h (.binOp .and t x y t') ty (.int .u64 ((a &&& b).toNat : Int)) := by
  have := V.and (P := P) (w0 := w0) (h := h) (ty := ty) (t := t) (t' := t') hx hy; rwa [bitsand_u64, ofInt_u64, ofInt_u64] at this
theorem V.andQc {t t' : TypeId} {x : Operand} {a : UInt64} {c : Int} (hx : ev n σ x = .int .u64 (a.toNat : Int)) : V P w0 n σ h (.binOp .and t x (.const (.int .u64 c)) t') ty (.int .u64 ((a &&& UInt64.ofInt c).toNat : Int)) := by
  have := V.and (P := P) (w0 := w0) (h := h) (ty := ty) (t := t) (t' := t') hx (show ev n σ (.const (.int .u64 c)) = .int .u64 c from rfl); rwa [bitsand_u64, ofInt_u64] at this
theorem V.orQ {t t' : TypeId} {x y : Operand} {a b : UInt64} (hx : ev n σ x = .int .u64 (a.toNat : Int)) (hy : ev n σ y = .int .u64 (b.toNat : Int)) : V P w0 n σ h (.binOp .or t x y t') ty (.int .u64 ((a ||| b).toNat : Int)) := by
  have := V.or (P := P) (w0 := w0) (h := h) (ty := ty) (t := t) (t' := t') hx hy; rwa [bitsor_u64, ofInt_u64, ofInt_u64] at this
theorem V.shlQ {t t' : TypeId} {x : Operand} {k' : IntKind} {a : UInt64} {c : Int} (hx : ev n σ x = .int .u64 (a.toNat : Int)) (hc : (0 : Int) ≤ c ∧ c < 64) : V P w0 n σ h (.binOp .shl t x (.const (.int k' c)) t') ty (.int .u64 ((a <<< UInt64.ofNat c.toNat).toNat : Int)) := by
  have := V.shl (P := P) (w0 := w0) (h := h) (ty := ty) (t := t) (t' := t') hx (show ev n σ (.const (.int k' c)) = .int k' c from rfl) hc.1
  have hm : min c.toNat IntKind.u64.bits = c.toNat := by show min c.toNat 64 = c.toNat; omega
  rwa [hm, wrap_u64, shl_u64 _ _ (by omega)] at this
theorem V.shrQ {t t' : TypeId} {x : Operand} {k' : IntKind} {a : UInt64} {c : Int} (hx : ev n σ x = .int .u64 (a.toNat : Int)) (hc : (0 : Int) ≤ c ∧ c < 64) : V P w0 n σ h (.binOp .shr t x (.const (.int k' c)) t') ty (.int .u64 ((a >>> UInt64.ofNat c.toNat).toNat : Int)) := by
  have := V.shr (P := P) (w0 := w0) (h := h) (ty := ty) (t := t) (t' := t') hx (show ev n σ (.const (.int k' c)) = .int k' c from rfl) hc.1
  have hm : min c.toNat IntKind.u64.bits = c.toNat := by show min c.toNat 64 = c.toNat; omega
  rwa [hm, shr_u64 _ _ (by omega)] at this
theorem V.convQ {s t : TypeId} {x : Operand} {k' : IntKind} {a : Int} [hs : IntT P s k'] [ht : IntT P t .u64] (hx : ev n σ x = .int k' a) : V P w0 n σ h (.convert s t x) ty (.int .u64 ((UInt64.ofInt a).toNat : Int)) := by
  have := V.conv (P := P) (w0 := w0) (h := h) (ty := ty) (s := s) (t := t) hx; rwa [wrap_u64] at this
end

section
variable {P : Program} {w0 : World} {n : Nat} {σ : Slots} {h : Heap} {ty : TypeId}
/-! from width to width -/
theorem V.convBW {s t : TypeId} {x : Operand} {a : UInt8} [hs : IntT P s .u8] [ht : IntT P t .u32] (hx : ev n σ x = .int .u8 (a.toNat : Int)) : V P w0 n σ h (.convert s t x) ty (.int .u32 (a.toUInt32.toNat : Int)) := by
  have := V.conv (P := P) (w0 := w0) (h := h) (ty := ty) (s := s) (t := t) hx
  have e : IntKind.u32.wrap (a.toNat : Int) = (a.toUInt32.toNat : Int) := by
    rw [wrap_u32, toNat_ofInt_u32]; have := a.toNat_lt; simp; omega
  rwa [e] at this
theorem V.convBQ {s t : TypeId} {x : Operand} {a : UInt8} [hs : IntT P s .u8] [ht : IntT P t .u64] (hx : ev n σ x = .int .u8 (a.toNat : Int)) : V P w0 n σ h (.convert s t x) ty (.int .u64 (a.toUInt64.toNat : Int)) := by
  have := V.conv (P := P) (w0 := w0) (h := h) (ty := ty) (s := s) (t := t) hx
  have e : IntKind.u64.wrap (a.toNat : Int) = (a.toUInt64.toNat : Int) := by
    rw [wrap_u64, toNat_ofInt_u64]; have := a.toNat_lt; simp; omega
  rwa [e] at this
theorem V.convWQ {s t : TypeId} {x : Operand} {a : UInt32} [hs : IntT P s .u32] [ht : IntT P t .u64] (hx : ev n σ x = .int .u32 (a.toNat : Int)) : V P w0 n σ h (.convert s t x) ty (.int .u64 (a.toUInt64.toNat : Int)) := by
  have := V.conv (P := P) (w0 := w0) (h := h) (ty := ty) (s := s) (t := t) hx
  have e : IntKind.u64.wrap (a.toNat : Int) = (a.toUInt64.toNat : Int) := by
    rw [wrap_u64, toNat_ofInt_u64]; have := a.toNat_lt; simp; omega
  rwa [e] at this
theorem V.convQW {s t : TypeId} {x : Operand} {a : UInt64} [hs : IntT P s .u64] [ht : IntT P t .u32] (hx : ev n σ x = .int .u64 (a.toNat : Int)) : V P w0 n σ h (.convert s t x) ty (.int .u32 (a.toUInt32.toNat : Int)) := by
  have := V.conv (P := P) (w0 := w0) (h := h) (ty := ty) (s := s) (t := t) hx
  have e : IntKind.u32.wrap (a.toNat : Int) = (a.toUInt32.toNat : Int) := by
    rw [wrap_u32, toNat_ofInt_u32]; have := a.toNat_lt; simp; omega
  rwa [e] at this
theorem V.convWB {s t : TypeId} {x : Operand} {a : UInt32} [hs : IntT P s .u32] [ht : IntT P t .u8] (hx : ev n σ x = .int .u32 (a.toNat : Int)) : V P w0 n σ h (.convert s t x) ty (.int .u8 (a.toUInt8.toNat : Int)) := by
  have := V.conv (P := P) (w0 := w0) (h := h) (ty := ty) (s := s) (t := t) hx
  have e : IntKind.u8.wrap (a.toNat : Int) = (a.toUInt8.toNat : Int) := by
    rw [wrap_u8, toNat_ofInt_u8]; have := a.toNat_lt; simp; omega
  rwa [e] at this
theorem V.convQB {s t : TypeId} {x : Operand} {a : UInt64} [hs : IntT P s .u64] [ht : IntT P t .u8] (hx : ev n σ x = .int .u64 (a.toNat : Int)) : V P w0 n σ h (.convert s t x) ty (.int .u8 (a.toUInt8.toNat : Int)) := by
  have := V.conv (P := P) (w0 := w0) (h := h) (ty := ty) (s := s) (t := t) hx
  have e : IntKind.u8.wrap (a.toNat : Int) = (a.toUInt8.toNat : Int) := by
    rw [wrap_u8, toNat_ofInt_u8]; have := a.toNat_lt; simp; omega
  rwa [e] at this
theorem V.convBI {s t : TypeId} {x : Operand} {a : UInt8} [hs : IntT P s .u8] [ht : IntT P t .i64] (hx : ev n σ x = .int .u8 (a.toNat : Int)) : V P w0 n σ h (.convert s t x) ty (.int .i64 (a.toNat : Int)) := by
  have := V.conv (P := P) (w0 := w0) (h := h) (ty := ty) (s := s) (t := t) hx
  have hl := a.toNat_lt
  rwa [Go.IntWalk.i64_in _ (by omega)] at this
theorem V.convWInt {s t : TypeId} {x : Operand} {a : UInt32} [hs : IntT P s .u32] [ht : IntT P t .i64] (hx : ev n σ x = .int .u32 (a.toNat : Int)) : V P w0 n σ h (.convert s t x) ty (.int .i64 (a.toNat : Int)) := by
  have := V.conv (P := P) (w0 := w0) (h := h) (ty := ty) (s := s) (t := t) hx
  have hl := a.toNat_lt
  rwa [Go.IntWalk.i64_in _ (by omega)] at this

/-- a number that the new kind holds -/
theorem V.convIn {s t : TypeId} {x : Operand} {k k' : IntKind} {a : Int} [hs : IntT P s k'] [ht : IntT P t k] (hx : ev n σ x = .int k' a) (hw : k.wrap a = a) : V P w0 n σ h (.convert s t x) ty (.int k a) := by
  have := V.conv (P := P) (w0 := w0) (h := h) (ty := ty) (s := s) (t := t) hx; rwa [hw] at this
theorem V.convI {s t : TypeId} {x : Operand} {k' : IntKind} {a : Int} [hs : IntT P s k'] [ht : IntT P t .i64] (hx : ev n σ x = .int k' a) (hr : -9223372036854775808 ≤ a ∧ a ≤ 9223372036854775807) : V P w0 n σ h (.convert s t x) ty (.int .i64 a) :=
  .convIn hx (Go.IntWalk.i64_in _ hr)
theorem V.convQI {s t : TypeId} {x : Operand} {k' : IntKind} {a : Int} [hs : IntT P s k'] [ht : IntT P t .u64] (hx : ev n σ x = .int k' a) (hr : 0 ≤ a ∧ a ≤ 18446744073709551615) : V P w0 n σ h (.convert s t x) ty (.int .u64 a) :=
  .convIn hx (Go.IntWalk.u64_in _ hr)
theorem V.convWI {s t : TypeId} {x : Operand} {k' : IntKind} {a : Int} [hs : IntT P s k'] [ht : IntT P t .u32] (hx : ev n σ x = .int k' a) (hr : 0 ≤ a ∧ a ≤ 4294967295) : V P w0 n σ h (.convert s t x) ty (.int .u32 a) :=
  .convIn hx (Go.IntWalk.u32_in _ hr)
theorem V.convBIn {s t : TypeId} {x : Operand} {k' : IntKind} {a : Int} [hs : IntT P s k'] [ht : IntT P t .u8] (hx : ev n σ x = .int k' a) (hr : 0 ≤ a ∧ a ≤ 255) : V P w0 n σ h (.convert s t x) ty (.int .u8 a) :=
  .convIn hx (Go.IntWalk.u8_in _ hr)
end
end Go.Proofs.YtoggdigclbcndaaDoor.E
