/-
  The law's own same, walked; ArgsBack.
-/
import Derived.Test.YtoggdigclbcndaaDoorArgs8
set_option linter.unusedVariables false
set_option linter.unusedSimpArgs false
namespace Go.Proofs.YtoggdigclbcndaaDoor.E
open Go Go.Proofs Go.RowKit
set_option maxRecDepth 100000
theorem lsame_c {p q : Nat → Prop} (a b : AR) (u v : Value) (h : Heap) (hu : NamesAt p h u a.names) (hv : NamesAt q h v b.names) (hl : a.names.length ≤ 1000000) :
    Ret Tryd.prog 19 [.agg (ARv a u).toArray, .agg (ARv b v).toArray] h (fun r h' => r = .bool (sameB a b) ∧ Ext h h') := by
  refine Ret.enter Tryd.func19 rfl Tryd.ntmps19 (by show 2 ≤ 59; decide) fun w0 => ?_
  refine run ?_
  refine L.do1 (D.bx (v := .agg (ARv a u).toArray) (cs := ARv a u) rfl rfl) ?_
  rintro _ h1 ⟨rfl, n1⟩
  refine L.do1 (D.bx (v := .agg (ARv b v).toArray) (cs := ARv b v) rfl rfl) ?_
  rintro _ h2 ⟨rfl, n2⟩
  have s1 := n1.size
  have x2 : Ext h h2 := n1.ext.trans n2.ext
  have b1 : Blk h2 h.size (ARv a u) 32 := n2.ext.at n1.at_
  have b2 : Blk h2 h1.size (ARv b v) 32 := n2.at_
  have c1 : ∀ i, cellH h2 ⟨h.size, i, none⟩ = (ARv a u)[i]? := fun i => Blk.cell b1 i
  have c2 : ∀ i, cellH h2 ⟨h1.size, i, none⟩ = (ARv b v)[i]? := fun i => Blk.cell b2 i
  unfold sameB
  refine run ?_
  refine L.op (V.load (v := S a.verb) rfl (c1 0)) ?_
  refine run ?_
  refine L.op (V.load (v := S b.verb) rfl (c2 0)) ?_
  by_cases e1 : a.verb = b.verb
  rotate_left
  · rw [decide_eq_false (fun hx => e1 hx.1)]
    refine run ?_
    exact ret1 rfl (by constructor) ⟨rfl, x2⟩
  refine run ?_
  refine L.gyes rfl rfl (V.load (v := .int .i64 a.sl) rfl (c1 1)) ?_
  refine run ?_
  refine L.gyes rfl rfl (V.load (v := .int .i64 b.sl) rfl (c2 1)) ?_
  by_cases e2 : a.sl = b.sl
  rotate_left
  · rw [decide_eq_false (fun hx => e2 hx.2.1)]
    refine run ?_
    exact ret1 rfl (by constructor) ⟨rfl, x2⟩
  refine run ?_
  refine L.gyes rfl rfl (V.load (v := .int .i64 a.cn) rfl (c1 2)) ?_
  refine run ?_
  refine L.gyes rfl rfl (V.load (v := .int .i64 b.cn) rfl (c2 2)) ?_
  by_cases e3 : a.cn = b.cn
  rotate_left
  · rw [decide_eq_false (fun hx => e3 hx.2.2.1)]
    refine run ?_
    exact ret1 rfl (by constructor) ⟨rfl, x2⟩
  refine run ?_
  refine L.gyes rfl rfl (V.load (v := .int .u32 a.fr) rfl (c1 3)) ?_
  refine run ?_
  refine L.gyes rfl rfl (V.load (v := .int .u32 b.fr) rfl (c2 3)) ?_
  by_cases e4 : a.fr = b.fr
  rotate_left
  · rw [decide_eq_false (fun hx => e4 hx.2.2.2.1)]
    refine run ?_
    exact ret1 rfl (by constructor) ⟨rfl, x2⟩
  refine run ?_
  have hu2 := hu.ext x2
  have hv2 := hv.ext x2
  obtain ⟨A, c, rfl, -, rA⟩ := hu2
  obtain ⟨B, d, rfl, -, rB⟩ := hv2
  refine L.gyes rfl rfl (V.load (v := .slice A a.names.length c) rfl (c1 4)) ?_
  refine run ?_
  refine L.gyes rfl rfl (V.load (v := .slice B b.names.length d) rfl (c2 4)) ?_
  by_cases e5 : a.names.length = b.names.length
  rotate_left
  · rw [decide_eq_false (fun hx => e5 (by rw [hx.2.2.2.2]))]
    refine run ?_
    exact ret1 rfl (by constructor) ⟨rfl, x2⟩
  refine run ?_
  refine L.op (V.load (v := .slice A a.names.length c) rfl (c1 4)) ?_
  refine run ?_
  refine C.loopv (fun k lv h' => ∃ i, i ≤ a.names.length ∧ k = a.names.length - i ∧ h' = h2 ∧ (∀ j (g1 : j < a.names.length) (g2 : j < b.names.length), j < i → a.names[j] = b.names[j]) ∧
    lv = [(2, .pointer (some ⟨h.size, 0, none⟩)), (3, .pointer (some ⟨h1.size, 0, none⟩)), (43, .int .i64 (a.names.length : Int)), (44, .int .i64 (i : Int))]) a.names.length _ ⟨0, by omega, by omega, rfl, fun j _ _ hj => by omega, rfl⟩ ⟨rfl, rfl, rfl, rfl, trivial⟩ ?_
  rintro k lv h' τ ⟨i, hi, rfl, rfl, hall, rfl⟩
  by_cases hlt : i < a.names.length
  · obtain ⟨aA, rfl, cA⟩ := strs_at rA hlt
    obtain ⟨aB, rfl, cB⟩ := strs_at rB (i := i) (by omega)
    have cA' : cellH h' (aA.add ((i : Int).toNat * 1)) = some (S a.names[i]) := by simpa using cA
    have cB' : cellH h' (aB.add ((i : Int).toNat * 1)) = some (S (b.names[i]'(by omega))) := by simpa using cB
    refine run ?_
    refine C.quiet mixed (by kernel_rfl) ?_
    refine run ?_
    refine L.op (V.load (v := .slice (some aA) a.names.length c) rfl (c1 4)) ?_
    refine run ?_
    refine L.op (V.idx rfl rfl (by omega) (by omega)) ?_
    refine L.op (V.load (v := S a.names[i]) rfl cA') ?_
    refine run ?_
    refine L.op (V.load (v := .slice (some aB) b.names.length d) rfl (c2 4)) ?_
    refine run ?_
    refine L.op (V.idx rfl rfl (by omega) (by omega)) ?_
    refine L.op (V.load (v := S (b.names[i]'(by omega))) rfl cB') ?_
    by_cases en : a.names[i] = b.names[i]'(by omega)
    · refine run ?_
      refine ⟨_, _, by omega, ⟨i + 1, by omega, rfl, rfl, fun j g1 g2 hji => ?_, rfl⟩, rfl, rfl, rfl, int_eq (by omega), trivial⟩
      by_cases hji' : j = i
      · subst hji'; exact en
      · exact hall j g1 g2 (by omega)
    · have : a.names ≠ b.names := fun he => en (by simp [he])
      rw [decide_eq_false (fun hx => this hx.2.2.2.2)]
      refine run ?_
      exact ret1 rfl (by constructor) ⟨rfl, x2⟩
  · have e6 : a.names = b.names := List.ext_getElem e5 (fun j g1 g2 => hall j g1 g2 (by omega))
    rw [decide_eq_true ⟨e1, e2, e3, e4, e6⟩]
    refine run ?_
    exact ret1 rfl (by constructor) ⟨rfl, x2⟩
end Go.Proofs.YtoggdigclbcndaaDoor.E
