/-
  Bytes as strings, compared.
-/
import Derived.Test.YtdphoegigdpboaaPlain2
import Derived.Laws.BytesArg
set_option linter.unusedVariables false
set_option linter.unusedSimpArgs false
namespace Go.Proofs.Ytdphoegigdpboaa.E
open Go Go.Proofs
set_option maxRecDepth 100000
section
variable {P : Program} {w0 : World} {n : Nat} {σ : Slots} {h : Heap} {ty : TypeId}
def strB (bs : List UInt8) : ByteArray := strOfNums (bs.map fun b => (b.toNat : Int))
theorem V.strOf {s t e : TypeId} {x : Operand} {A : Option Addr} {c : Nat} {bs : List UInt8} {p : Nat → Prop} [hs : SliceT P s e] [he : IntT P e .u8] [ht : StrT P t] (hx : ev n σ x = .slice A bs.length c) (hr : RowP p h A (bys bs)) :
    V P w0 n σ h (.convert s t x) ty (.string (strB bs)) :=
  .intro fun w o hw ho _ => by
    subst hw
    have key : (convert s t (.slice A bs.length c)).run P w = .ok (.string (strB bs)) w := by
      rcases hr with h0 | ⟨b, off, cs, tt, z, rfl, _, hb, hc⟩
      · have hb : bs = [] := List.map_eq_nil_iff.1 h0
        subst hb
        cases A with
        | none => exact run_convert_bytes_nil w s e hs.out he.out 0 c t ht.out
        | some a =>
          obtain ⟨b, off, sp⟩ := a
          rw [run_convert_bytes_string w s t e _ _ c hs.out he.out ht.out]
          simp [Conv.bytesToString, loadCells, loadCellsFrom, strB, strOfNums]
          rfl
      · refine run_convert_bytes_arg w s e hs.out he.out b off bs.length c (bs.map fun b => (b.toNat : Int)) (by simp) (fun i hi => ?_) t ht.out
        have h1 := hc i (by simpa using hi)
        have h2 : w.cell? ⟨b, off + i, none⟩ = cs[off + i]? := by
          have : w.cell? ⟨b, off + i, none⟩ = cellH w.heap ⟨b, off + i, none⟩ := rfl
          rw [this]; unfold cellH; simp [hb]
        rw [h2, h1]
        simp [bys, hi, List.getD_eq_getElem?_getD]
    simp [execOp, ho, hx, key]
theorem V.neqStr {t t' : TypeId} {x y : Operand} {a : ByteArray} [ht : StrT P t] (hx : ev n σ x = .string a) (hy : ev n σ y = .string a) : V P w0 n σ h (.binOp .neq t x y t') ty (.bool false) :=
  .intro fun w o _ ho _ => by
    simp [execOp, ho, hx, hy, eqGuard, binOp, Op.stringOp, run_underlying ht.out]
end
end Go.Proofs.Ytdphoegigdpboaa.E
