/-
  Structs, arrays and slices that are built of parts.
-/
import Derived.Test.YtoggdigclbcndaaDoorOps
set_option linter.unusedVariables false
set_option linter.unusedSimpArgs false
namespace Go.Proofs.YtoggdigclbcndaaDoor.E
open Go
def setAt : List Value → Nat → List Value → List Value
  | cs, _, [] => cs
  | cs, off, c :: l => setAt (cs.set off c) (off + 1) l
theorem setAt_len : ∀ (l : List Value) (cs : List Value) (off : Nat), (setAt cs off l).length = cs.length
  | [], _, _ => rfl
  | c :: l, cs, off => by rw [setAt, setAt_len l]; simp
theorem foldl_setAt : ∀ (l : List Value) (k off : Nat) (cs : List Value), ((l.zipIdx k).foldl (fun (a : Array Value) (p : Value × Nat) => a.setIfInBounds (off + p.2) p.1) cs.toArray) = (setAt cs (off + k) l).toArray
  | [], _, _, _ => rfl
  | c :: l, k, off, cs => by
    rw [List.zipIdx_cons, List.foldl_cons]
    simp only [List.setIfInBounds_toArray]
    rw [foldl_setAt l (k + 1) off, setAt]; rfl
def fillL (place : Nat → Option (Nat × Nat)) : List Value → List (Nat × Value) → Option (List Value)
  | cells, [] => some cells
  | cells, (i, v) :: rest => match place i with
    | none => none
    | some (off, size) => if v.cells.toList.length ≠ size ∨ cells.length < off + v.cells.toList.length then none else fillL place (setAt cells off v.cells.toList) rest
theorem fill_list (place : Nat → Option (Nat × Nat)) : ∀ (vals : List (Nat × Value)) (cs cs' : List Value), fillL place cs vals = some cs' → Instr.fill place cs.toArray vals = some cs'.toArray
  | [], cs, cs', h => by simp only [fillL, Option.some.injEq] at h; subst h; rfl
  | (i, v) :: rest, cs, cs', h => by
    unfold fillL at h
    unfold Instr.fill
    cases hp : place i with
    | none => rw [hp] at h; cases h
    | some q =>
      obtain ⟨off, size⟩ := q
      rw [hp] at h
      simp only at h ⊢
      split at h
      · cases h
      · rename_i hn
        have h1 : v.cells.size = size := by rw [← Array.length_toList]; omega
        have h2 : off + v.cells.size ≤ cs.length := by rw [← Array.length_toList]; omega
        have hf : (v.cells.zipIdx.foldl (fun cs (x : Value × Nat) => cs.setIfInBounds (off + x.2) x.1) cs.toArray) = (setAt cs off v.cells.toList).toArray := by
          have := foldl_setAt v.cells.toList 0 off cs
          rw [Nat.add_zero] at this
          rw [← this, ← Array.foldl_toList, Array.toList_zipIdx]
        have hc : ¬ (v.cells.size ≠ size ∨ cs.length < off + v.cells.size) := by omega
        simp only [List.size_toArray, bne_iff_ne, ne_eq, decide_eq_true_eq, Bool.or_eq_true, gt_iff_lt]
        have hc' : (v.cells.size ≠ size || decide (off + v.cells.size > cs.length)) = false := by simp [h1]; omega
        have hg := fill_list place rest _ _ h
        rw [← hf] at hg
        split
        · rename_i hx; exact absurd hx (by simp; omega)
        · exact hg
/-- where a struct's fields lie -/
class StructT (P : Program) (t : TypeId) (pl : outParam (List (Nat × Nat))) : Prop where
  mk :: (out : ∃ fs : Array Field, P.underlying t = some (.struct fs) ∧ (fs.toList.mapM fun f => (P.info? f.type).map fun i => (f.offset, i.size)) = some pl)
theorem mapM_places {P : Program} : ∀ (fs : List Field) (pl : List (Nat × Nat)) (w : World), (fs.mapM fun f => (P.info? f.type).map fun i => (f.offset, i.size)) = some pl → (fs.mapM (fun f => (do pure (f.offset, ← sizeOf f.type) : Sem (Nat × Nat)))).run P w = .ok pl w
  | [], pl, w, h => by simp at h; subst h; simp
  | f :: fs, pl, w, h => by
    simp only [List.mapM_cons, Option.bind_eq_bind, Option.bind_eq_some_iff, Option.map_eq_some_iff, Option.pure_def, Option.some.injEq] at h
    obtain ⟨x, ⟨i, hi, rfl⟩, pl', hpl, rfl⟩ := h
    have := mapM_places fs pl' w hpl
    simp [List.mapM_cons, sizeOf, typeInfo, hi] at this ⊢
    rw [this]; rfl
section
variable {P : Program} {w0 : World} {n : Nat} {σ : Slots} {h : Heap} {ty : TypeId}
theorem map_parts {parts : List (Nat × Operand)} : (parts.toArray.map fun (x : Nat × Operand) => (x.1, ev n σ x.2)).toList = parts.map fun x => (x.1, ev n σ x.2) := by simp
theorem V.buildS {t : TypeId} {pl : List (Nat × Nat)} {z : Value} {zl cells : List Value} {parts : List (Nat × Operand)} {vals : List (Nat × Value)} [hs : StructT P t pl] [hz : ZeroT P t z]
    (hv : (parts.map fun x => (x.1, ev n σ x.2)) = vals) (hzl : z.cells = zl.toArray) (hf : fillL (fun i => pl[i]?) zl vals = some cells) : V P w0 n σ h (.build t parts.toArray) ty (.agg cells.toArray) :=
  ⟨fun d dst pos after g => by
    obtain ⟨fs, h1, h2⟩ := hs.out
    have hp := mapM_places fs.toList pl (wld w0 h d) h2
    have hf' := fill_list _ _ _ _ hf
    have hp' : (fs.mapM (fun f => (do pure (f.offset, ← sizeOf f.type) : Sem (Nat × Nat)))).run P (wld w0 h d) = .ok pl.toArray (wld w0 h d) := by
      rw [Array.mapM_eq_mapM_toList, Sem.run_map, hp]; rfl
    simp only [execOp, fr_eval', Instr.build, Sem.run_bind, run_zero, Result.andThen_ok, run_underlying h1, hp', hzl, map_parts, hv]
    have e : (fun x : Nat => pl.toArray[x]?) = fun i => pl[i]? := by funext i; simp
    simp only [e, hf']
    simp⟩
theorem V.buildA {t len e sz by_ : Nat} {z : Value} {zl cells : List Value} {parts : List (Nat × Operand)} {vals : List (Nat × Value)} [ht : ArrT P t len e] [hi : InfoT P e sz by_] [hz : ZeroT P t z]
    (hv : (parts.map fun x => (x.1, ev n σ x.2)) = vals) (hzl : z.cells = zl.toArray) (hf : fillL (fun i => some (i * sz, sz)) zl vals = some cells) : V P w0 n σ h (.build t parts.toArray) ty (.agg cells.toArray) :=
  ⟨fun d dst pos after g => by
    have hf' := fill_list _ _ _ _ hf
    simp only [execOp, fr_eval', Instr.build, Sem.run_bind, run_zero, Result.andThen_ok, run_underlying ht.out, run_sizeOf, hzl, map_parts, hv, hf']
    simp⟩
theorem D.bslice {t e sz by_ len : Nat} {z : Value} {zl cells : List Value} {parts : List (Nat × Operand)} {vals : List (Nat × Value)} [ht : SliceT P t e] [hi : InfoT P e sz by_] [hz : ZeroT P e z]
    (hv : (parts.map fun x => (x.1, ev n σ x.2)) = vals) (hzl : z.cells = zl.toArray) (hlen : 0 < len * sz ∧ len * sz ≤ 16777216) (hf : fillL (fun i => some (i * sz, sz)) ((List.range (len * sz)).map fun i => zl[i % zl.length]!) vals = some cells) :
    D P w0 n σ h (.buildSlice t len parts.toArray) ty (fun u h' => u = .slice (some ⟨h.size, 0, none⟩) len len ∧ h' = h.push (.cells cells.toArray e)) :=
  .intro fun w op hw hop _ => by
    subst hw
    have hf' := fill_list _ _ _ _ hf
    refine ⟨_, w.heap.push (.cells cells.toArray e), w.drawn, .inl ?_, rfl, rfl⟩
    have e1 : ((Array.range (len * sz)).map (fun i => zl.toArray[i % zl.toArray.size]!)) = ((List.range (len * sz)).map fun i => zl[i % zl.length]!).toArray := by
      apply Array.ext
      · simp
      · intro i h1 h2; simp
    have h0 : ¬ (len * sz = 0) := by omega
    have h1 : ¬ (2 ^ 24 < len * sz) := by omega
    simp only [execOp, hop, Instr.buildSlice, Sem.run_bind, run_underlying ht.out, run_sizeOf, Result.andThen_ok, gt_iff_lt, if_neg h0, if_neg h1, run_zero, Sem.run_pure, hzl, e1, map_parts, hv, hf', newRow]
    simp [hf', newRow]
    rfl
end
end Go.Proofs.YtoggdigclbcndaaDoor.E
