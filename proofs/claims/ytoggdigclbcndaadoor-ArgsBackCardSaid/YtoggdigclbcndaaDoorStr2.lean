/-
  Bytes as a string.
-/
import Derived.Test.YtoggdigclbcndaaDoorRows2
import Derived.Laws.BytesArg
set_option linter.unusedVariables false
set_option linter.unusedSimpArgs false
namespace Go.Proofs.YtoggdigclbcndaaDoor.E
open Go Go.Proofs
set_option maxRecDepth 100000
section
variable {P : Program} {w0 : World} {n : Nat} {σ : Slots} {h : Heap} {ty : TypeId}
theorem strOf_bytes (bs : List UInt8) : strOfNums (bs.map fun b => (b.toNat : Int)) = ⟨bs.toArray⟩ := by
  unfold strOfNums
  simp [Function.comp_def]
theorem V.strS {s t e : TypeId} {x : Operand} {A : Option Addr} {c : Nat} {bs : List UInt8} {p : Nat → Prop} [hs : SliceT P s e] [he : IntT P e .u8] [ht : StrT P t] (hx : ev n σ x = .slice A bs.length c) (hr : RowP p h A (bys bs)) :
    V P w0 n σ h (.convert s t x) ty (S bs) :=
  .intro fun w o hw ho _ => by
    subst hw
    have key : (convert s t (.slice A bs.length c)).run P w = .ok (S bs) w := by
      rcases hr with h0 | ⟨b, off, cs, tt, z, rfl, _, hb, hc⟩
      · have hb : bs = [] := List.map_eq_nil_iff.1 h0
        subst hb
        cases A with
        | none => exact run_convert_bytes_nil w s e hs.out he.out 0 c t ht.out
        | some a =>
          obtain ⟨b, off, sp⟩ := a
          rw [run_convert_bytes_string w s t e _ _ c hs.out he.out ht.out]
          simp [Conv.bytesToString, loadCells, loadCellsFrom, S]
          rfl
      · have := run_convert_bytes_arg w s e hs.out he.out b off bs.length c (bs.map fun b => (b.toNat : Int)) (by simp) (fun i hi => by
          have h1 := hc i (by simpa using hi)
          have h2 : w.cell? ⟨b, off + i, none⟩ = cs[off + i]? := by
            have : w.cell? ⟨b, off + i, none⟩ = cellH w.heap ⟨b, off + i, none⟩ := rfl
            rw [this]; unfold cellH; simp [hb]
          rw [h2, h1]
          simp [bys, hi, List.getD_eq_getElem?_getD]) t ht.out
        rw [strOf_bytes] at this
        exact this
    simp [execOp, ho, hx, key]
/-- the string of a byte slice that is one's own and new -/
theorem New.strRow {h h' : Heap} {e : TypeId} {bs : List UInt8} (x : New h h' (.cells (bys bs).toArray e)) : RowP (fun _ => True) h' (some ⟨h.size, 0, none⟩) (bys bs) :=
  .inr ⟨h.size, 0, _, _, _, rfl, trivial, x.at_, fun i hi => by simp⟩
end
end Go.Proofs.YtoggdigclbcndaaDoor.E
