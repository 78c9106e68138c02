/-
  Strings, as lists of bytes; interface values held against nil; truth values compared.
-/
import Derived.Test.YtoggdigclbcndaaDoorOps
import Derived.Laws.Concat
import Derived.Laws.Strings
import Derived.Lib.SlicesS
set_option linter.unusedVariables false
set_option linter.unusedSimpArgs false
namespace Go.Proofs.YtoggdigclbcndaaDoor.E
open Go
theorem ev_const (n : Nat) (σ : Slots) (v : Value) : ev n σ (.const v) = v := rfl
/-- a string of these bytes -/
abbrev S (l : List UInt8) : Value := .string ⟨l.toArray⟩
theorem S_of (s : ByteArray) : Value.string s = S s.data.toList := by simp [S]
theorem S_inj {a b : List UInt8} : (⟨a.toArray⟩ : ByteArray) = ⟨b.toArray⟩ ↔ a = b := by
  constructor
  · intro h; injection h with h; exact List.toArray_inj h
  · intro h; rw [h]
theorem S_size (l : List UInt8) : (⟨l.toArray⟩ : ByteArray).size = l.length := by simp [ByteArray.size]
theorem S_toList (l : List UInt8) : (⟨l.toArray⟩ : ByteArray).toList = l := by rw [ByteArray.toList_eq]
theorem S_beq (a b : List UInt8) : ((⟨a.toArray⟩ : ByteArray).toList == (⟨b.toArray⟩ : ByteArray).toList) = decide (a = b) := by
  rw [S_toList, S_toList]; by_cases h : a = b <;> simp [h]
/-- an interface's type -/
class IfaceT (P : Program) (t : TypeId) : Prop where
  mk :: (out : ∃ ms, P.underlying t = some (.interface ms))
section
variable {P : Program} {w0 : World} {n : Nat} {σ : Slots} {h : Heap} {ty : TypeId}
theorem V.catS {t t' : TypeId} {x y : Operand} {a b : List UInt8} (hx : ev n σ x = S a) (hy : ev n σ y = S b) (hl : a.length + b.length ≤ 9223372036854775807) : V P w0 n σ h (.binOp .add t x y t') ty (S (a ++ b)) :=
  .intro fun w o _ ho _ => by
    have h1 : ((⟨a.toArray⟩ : ByteArray) ++ ⟨b.toArray⟩) = ⟨(a ++ b).toArray⟩ := by
      apply ByteArray.ext
      simp [ByteArray.data_append]
    have h2 := run_string_add_sum (P := P) (w := w) (⟨a.toArray⟩ : ByteArray) ⟨b.toArray⟩ (by rw [S_size, S_size]; exact hl)
    rw [h1] at h2
    simp [execOp, ho, hx, hy, eqGuard, binOp_string_add, h2]
theorem V.eqlS {t t' : TypeId} {x y : Operand} {a b : List UInt8} (hx : ev n σ x = S a) (hy : ev n σ y = S b) : V P w0 n σ h (.binOp .eql t x y t') ty (.bool (decide (a = b))) :=
  .intro fun w o _ ho _ => by
    simp only [execOp, ho, hx, hy, eqGuard, binOp_string_eql, S_beq]; simp
theorem V.neqS {t t' : TypeId} {x y : Operand} {a b : List UInt8} (hx : ev n σ x = S a) (hy : ev n σ y = S b) : V P w0 n σ h (.binOp .neq t x y t') ty (.bool (decide (a ≠ b))) :=
  .intro fun w o _ ho _ => by
    simp only [execOp, ho, hx, hy, eqGuard, binOp_string_neq, S_beq]; simp
theorem V.eqlST {t t' : TypeId} {x y : Operand} {a b : List UInt8} (hx : ev n σ x = S a) (hy : ev n σ y = S b) (hd : a = b) : V P w0 n σ h (.binOp .eql t x y t') ty (.bool true) := by
  have := V.eqlS (P := P) (w0 := w0) (h := h) (ty := ty) (t := t) (t' := t') hx hy; rwa [decide_eq_true hd] at this
theorem V.eqlSF {t t' : TypeId} {x y : Operand} {a b : List UInt8} (hx : ev n σ x = S a) (hy : ev n σ y = S b) (hd : a ≠ b) : V P w0 n σ h (.binOp .eql t x y t') ty (.bool false) := by
  have := V.eqlS (P := P) (w0 := w0) (h := h) (ty := ty) (t := t) (t' := t') hx hy; rwa [decide_eq_false hd] at this
theorem V.neqSF {t t' : TypeId} {x y : Operand} {a b : List UInt8} (hx : ev n σ x = S a) (hy : ev n σ y = S b) (hd : a = b) : V P w0 n σ h (.binOp .neq t x y t') ty (.bool false) := by
  have := V.neqS (P := P) (w0 := w0) (h := h) (ty := ty) (t := t) (t' := t') hx hy; rwa [decide_eq_false (by simpa using hd)] at this
theorem V.neqST {t t' : TypeId} {x y : Operand} {a b : List UInt8} (hx : ev n σ x = S a) (hy : ev n σ y = S b) (hd : a ≠ b) : V P w0 n σ h (.binOp .neq t x y t') ty (.bool true) := by
  have := V.neqS (P := P) (w0 := w0) (h := h) (ty := ty) (t := t) (t' := t') hx hy; rwa [decide_eq_true hd] at this
theorem bytesLess_lt (a b : List UInt8) : Op.bytesLess a b = decide (a < b) := by
  induction a generalizing b with
  | nil => cases b <;> simp [Op.bytesLess]
  | cons x a ih =>
    cases b with
    | nil => simp [Op.bytesLess]
    | cons y b =>
      simp only [Op.bytesLess, ih, List.cons_lt_cons_iff]
      by_cases h1 : x < y
      · simp [h1]
      · by_cases h2 : x = y
        · subst h2; simp
        · simp [h1, h2]
theorem V.lssS {t t' : TypeId} {x y : Operand} {a b : List UInt8} (hx : ev n σ x = S a) (hy : ev n σ y = S b) : V P w0 n σ h (.binOp .lss t x y t') ty (.bool (decide (a < b))) :=
  .intro fun w o _ ho _ => by
    simp only [execOp, ho, hx, hy, eqGuard, binOp_string_lss, S_toList, bytesLess_lt]; simp
theorem V.lenS {t : TypeId} {x : Operand} {l : List UInt8} [ht : StrT P t] (hx : ev n σ x = S l) : V P w0 n σ h (.call { callee := .builtin .len, args := #[x], argTypes := #[t] }) ty (.int .i64 (l.length : Int)) := by
  have := V.lens (P := P) (w0 := w0) (h := h) (ty := ty) (t := t) (x := x) hx; rwa [S_size] at this
theorem V.idxS {t : TypeId} {x y : Operand} {l : List UInt8} {k : IntKind} {i : Nat} [ht : StrT P t] (hx : ev n σ x = S l) (hy : ev n σ y = .int k (i : Int)) (h1 : i < l.length) :
    V P w0 n σ h (.index t x y) ty (.int .u8 (l[i].toNat : Int)) := by
  have := V.idxs (P := P) (w0 := w0) (h := h) (ty := ty) (t := t) (x := x) (y := y) hx hy (by omega) (by rw [S_size]; simpa using h1)
  have e : (⟨l.toArray⟩ : ByteArray)[(i : Int).toNat]'(by rw [S_size]; simpa using h1) = l[i] := by
    simp only [Int.toNat_natCast]
    show l.toArray[i]'(by simpa using h1) = l[i]
    simp
  rwa [e] at this
/-- a part of a string -/
theorem V.cutS {t : TypeId} {x : Operand} {lo hi : Option Operand} {l : List UInt8} {i j : Nat} [ht : StrT P t] (hx : ev n σ x = S l)
    (hlo : lo.map (ev n σ) = none ∧ i = 0 ∨ ∃ k, lo.map (ev n σ) = some (.int k (i : Int))) (hhi : hi.map (ev n σ) = none ∧ j = l.length ∨ ∃ k, hi.map (ev n σ) = some (.int k (j : Int))) (h1 : i ≤ j) (h2 : j ≤ l.length) :
    V P w0 n σ h (.slice t x lo hi none) ty (S ((l.take j).drop i)) :=
  .intro fun w o _ ho _ => by
    have hj : (0 : Int) ≤ (j : Int) ∧ (j : Int) ≤ (l.length : Int) := by omega
    have hi0 : (0 : Int) ≤ (i : Int) ∧ (i : Int) ≤ (j : Int) := by omega
    have he : (⟨l.toArray⟩ : ByteArray).extract i j = ⟨((l.take j).drop i).toArray⟩ := by
      apply ByteArray.ext
      rw [ByteArray.data_extract]
      apply Array.toList_inj.1
      simp only [Array.toList_extract, List.extract_eq_take_drop]
      rw [List.drop_take]
    rcases hlo with ⟨hlo, rfl⟩ | ⟨k, hlo⟩ <;> rcases hhi with ⟨hhi, rfl⟩ | ⟨k', hhi⟩ <;>
      simp [execOp, ho, hx, hlo, hhi, Instr.sliceAt, run_underlying ht.out, Instr.slice, Instr.sliceBounds, Instr.sliceBound, asIntOf, S_size, hj, hi0, h1, h2, he]
theorem run_equalIn_bool {t : TypeId} [ht : BoolT P t] (d : Nat) (a b : Bool) (w : World) : (Op.equalIn (d + 1) t (.bool a) (.bool b)).run P w = .ok (a == b) w := by
  simp [Op.equalIn, run_underlying ht.out]
theorem run_equal_bool {t : TypeId} [ht : BoolT P t] (a b : Bool) (w : World) : (Op.equal t (.bool a) (.bool b)).run P w = .ok (a == b) w := run_equalIn_bool 9999 a b w
theorem run_equalIn_nil {t : TypeId} [ht : IfaceT P t] (d : Nat) (w : World) : (Op.equalIn (d + 1) t .nilIface .nilIface).run P w = .ok true w := by
  obtain ⟨ms, hu⟩ := ht.out; simp [Op.equalIn, run_underlying hu]
theorem run_equal_nil {t : TypeId} [ht : IfaceT P t] (w : World) : (Op.equal t .nilIface .nilIface).run P w = .ok true w := run_equalIn_nil 9999 w
theorem run_equalIn_some {t : TypeId} [ht : IfaceT P t] (d : Nat) (tt : TypeId) (v : Value) (w : World) : (Op.equalIn (d + 1) t (.iface tt v) .nilIface).run P w = .ok false w := by
  obtain ⟨ms, hu⟩ := ht.out; simp [Op.equalIn, run_underlying hu]
theorem run_equal_some {t : TypeId} [ht : IfaceT P t] (tt : TypeId) (v : Value) (w : World) : (Op.equal t (.iface tt v) .nilIface).run P w = .ok false w := run_equalIn_some 9999 tt v w
theorem V.eqlB {t t' : TypeId} {x y : Operand} {a b : Bool} [ht : BoolT P t] (hx : ev n σ x = .bool a) (hy : ev n σ y = .bool b) : V P w0 n σ h (.binOp .eql t x y t') ty (.bool (a == b)) :=
  .intro fun w o _ ho _ => by
    simp [execOp, ho, hx, hy, eqGuard, binOp, run_equal_bool]
theorem V.neqB {t t' : TypeId} {x y : Operand} {a b : Bool} [ht : BoolT P t] (hx : ev n σ x = .bool a) (hy : ev n σ y = .bool b) : V P w0 n σ h (.binOp .neq t x y t') ty (.bool (a != b)) :=
  .intro fun w o _ ho _ => by
    simp [execOp, ho, hx, hy, eqGuard, binOp, run_equal_bool, bne]
theorem V.neqInil {t t' : TypeId} {x : Operand} (hx : ev n σ x = .nilIface) [ht : IfaceT P t] : V P w0 n σ h (.binOp .neq t x (.const .nilIface) t') ty (.bool false) :=
  .intro fun w o _ ho _ => by
    simp [execOp, ho, hx, ev_const, eqGuard, binOp, run_equal_nil, run_equal_some]
theorem V.neqIsome {t t' tt : TypeId} {x : Operand} {v : Value} (hx : ev n σ x = .iface tt v) [ht : IfaceT P t] : V P w0 n σ h (.binOp .neq t x (.const .nilIface) t') ty (.bool true) :=
  .intro fun w o _ ho _ => by
    simp [execOp, ho, hx, ev_const, eqGuard, binOp, run_equal_nil, run_equal_some]
theorem V.eqlInil {t t' : TypeId} {x : Operand} (hx : ev n σ x = .nilIface) [ht : IfaceT P t] : V P w0 n σ h (.binOp .eql t x (.const .nilIface) t') ty (.bool true) :=
  .intro fun w o _ ho _ => by
    simp [execOp, ho, hx, ev_const, eqGuard, binOp, run_equal_nil, run_equal_some]
theorem V.eqlIsome {t t' tt : TypeId} {x : Operand} {v : Value} (hx : ev n σ x = .iface tt v) [ht : IfaceT P t] : V P w0 n σ h (.binOp .eql t x (.const .nilIface) t') ty (.bool false) :=
  .intro fun w o _ ho _ => by
    simp [execOp, ho, hx, ev_const, eqGuard, binOp, run_equal_nil, run_equal_some]
end
end Go.Proofs.YtoggdigclbcndaaDoor.E
