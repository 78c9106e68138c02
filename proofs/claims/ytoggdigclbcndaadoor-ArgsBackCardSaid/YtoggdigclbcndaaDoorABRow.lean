/-
  Whatever may be said is read as it is meant; what may not has no line: geyserlaw22.ArgsBack returns true whatever comes in, and each argument reads behind the call as it read before. Conditions: the package's variables hold at the start what the program's text lays (the card ties them).
-/
import Derived.Test.YtoggdigclbcndaaDoorArgs10
import Derived.Test.YtoggdigclbcndaaDoorRows
import Derived.Test.YtoggdigclbcndaaDoorLaid
import Derived.Test.YtoggdigclbcndaaDoorCards
import Derived.Test.YtoggdigclbcndaaDoorTie
import Derived.SevenTiedAt
import Derived.OpenShut
import Derived.Lib.SmallJoins
import Derived.Deep.Strs
import Derived.Below
import Derived.ShutString
namespace Go.Proofs.YtoggdigclbcndaaDoor.ArgsBackRow
open Go Go.Proofs Go.Proofs.YtoggdigclbcndaaDoor Go.ChangeShapes Go.WideShapes Go.ChangeAt Go.RowKit
open Go.ChangeMaps (open_string shut_string)
set_option linter.unusedVariables false
set_option linter.unusedSimpArgs false

theorem own : ownKnob Tryd.prog.godebug = none := by kernel_rfl
theorem laidOut : laidOutB Tryd.prog = true := by kernel_rfl

theorem array5 {α : Type} {cs : Array α} (h : cs.size = 5) : ∃ c0 c1 c2 c3 c4, cs = #[c0, c1, c2, c3, c4] := by
  obtain ⟨l⟩ := cs
  match l, h with
  | [c0, c1, c2, c3, c4], _ => exact ⟨c0, c1, c2, c3, c4, rfl⟩
section
open Go.Joins Go.Deep
variable {H : Type} {enc : TypeId × Value → H} {P : Program} {w : World} {base : Nat} {spare : Nat → Bool} {held : Bool}
theorem trod_struct5 {t : TypeId} {f0 f1 f2 f3 f4 : Field} {fuel : Nat} {cs : List Value} {x : DataW H × List MemPlace} (ht : P.underlying t = some (.struct #[f0, f1, f2, f3, f4])) (h : DataW.trod enc P w base spare held fuel t cs = some x) :
    ∃ y0 y1 y2 y3 y4 n, DataW.trod enc P w base spare held n f0.type ((cs.drop f0.offset).take (P.cellsOf f0.type)) = some y0 ∧
      DataW.trod enc P w base spare held n f1.type ((cs.drop f1.offset).take (P.cellsOf f1.type)) = some y1 ∧ DataW.trod enc P w base spare held n f2.type ((cs.drop f2.offset).take (P.cellsOf f2.type)) = some y2 ∧
      DataW.trod enc P w base spare held n f3.type ((cs.drop f3.offset).take (P.cellsOf f3.type)) = some y3 ∧ DataW.trod enc P w base spare held n f4.type ((cs.drop f4.offset).take (P.cellsOf f4.type)) = some y4 := by
  obtain ⟨xs, n, _, rfl, hl, hlen, hf⟩ := DataW.trod_struct ht h
  match xs, hlen with
  | [y0, y1, y2, y3, y4], _ => exact ⟨y0, y1, y2, y3, y4, n, by simpa using hf 0 f0 rfl, by simpa using hf 1 f1 rfl, by simpa using hf 2 f2 rfl, by simpa using hf 3 f3 rfl, by simpa using hf 4 f4 rfl⟩
theorem open_agg5 {r : Reach} {b0 : Nat} {t : TypeId} {f0 f1 f2 f3 f4 : Field} {v : Value} {d : DataW H} {p : List MemPlace} (hs : P.underlying t = some (.struct #[f0, f1, f2, f3, f4])) (hone : oneCellFields P #[f0, f1, f2, f3, f4] = true) (hC : P.cellsOf t = 5)
    (hv : Value.okWide P w r b0 t v) (h : DataW.Trod enc P w base spare held t v d p) :
    ∃ (v0 v1 v2 v3 v4 : Value) (y0 y1 y2 y3 y4 : DataW H × List MemPlace) (n : Nat), v = .agg #[v0, v1, v2, v3, v4] ∧
      DataW.trod enc P w base spare held n f0.type [v0] = some y0 ∧ DataW.trod enc P w base spare held n f1.type [v1] = some y1 ∧ DataW.trod enc P w base spare held n f2.type [v2] = some y2 ∧ DataW.trod enc P w base spare held n f3.type [v3] = some y3 ∧ DataW.trod enc P w base spare held n f4.type [v4] = some y4 := by
  obtain ⟨cs, rfl, hsz⟩ := okWide_struct hs hv
  obtain ⟨c0, c1, c2, c3, c4, rfl⟩ := array5 (hsz.trans hC)
  obtain ⟨fuel, hf⟩ := h
  obtain ⟨y0, y1, y2, y3, y4, n, h0, h1, h2, h3, h4⟩ := trod_struct5 hs hf
  obtain ⟨o0, k0⟩ := hone_of hone 0 f0 rfl
  obtain ⟨o1, k1⟩ := hone_of hone 1 f1 rfl
  obtain ⟨o2, k2⟩ := hone_of hone 2 f2 rfl
  obtain ⟨o3, k3⟩ := hone_of hone 3 f3 rfl
  obtain ⟨o4, k4⟩ := hone_of hone 4 f4 rfl
  exact ⟨c0, c1, c2, c3, c4, y0, y1, y2, y3, y4, n, rfl, by simpa [Value.cells, o0, k0] using h0, by simpa [Value.cells, o1, k1] using h1, by simpa [Value.cells, o2, k2] using h2, by simpa [Value.cells, o3, k3] using h3, by simpa [Value.cells, o4, k4] using h4⟩
end
set_option maxRecDepth 100000 in
/-- a line's words, as the calculus reads them -/
theorem open_args {H : Type} {enc : TypeId × Value → H} {w : World} {r : Reach} {b0 : Nat} {v : Value} {d : DataW H} {p : List MemPlace} (hv : Value.okWide Tryd.prog w r b0 32 v) (h : DataW.Trod enc Tryd.prog w 0 (fun _ => true) true 32 v d p) :
    ∃ (a : E.AR) (nv : Value), v = .agg (E.ARv a nv).toArray ∧ E.NamesAt (fun _ => True) w.heap nv a.names ∧ E.InR a ∧ a.verb.length ≤ 9223372036854775807 ∧ a.names.length ≤ 9223372036854775807 := by
  obtain ⟨v0, v1, v2, v3, v4, y0, y1, y2, y3, y4, n, rfl, h0, h1, h2, h3, h4⟩ := open_agg5 Tryd.underlying32 (by kernel_rfl) (by kernel_rfl) hv h
  obtain ⟨s0, e0, _, w0⟩ := DataW.trod_string (show Tryd.prog.underlying _ = some .string from Tryd.underlying9) h0
  obtain ⟨a1, e1, _, w1⟩ := DataW.trod_int (show Tryd.prog.underlying _ = some (.int .i64) from Tryd.underlying3) h1
  obtain ⟨a2, e2, _, w2⟩ := DataW.trod_int (show Tryd.prog.underlying _ = some (.int .i64) from Tryd.underlying3) h2
  obtain ⟨a3, e3, _, w3⟩ := DataW.trod_int (show Tryd.prog.underlying _ = some (.int .u32) from Tryd.underlying29) h3
  obtain rfl : v0 = .string s0 := by simpa using e0
  obtain rfl : v1 = .int .i64 a1 := by simpa using e1
  obtain rfl : v2 = .int .i64 a2 := by simpa using e2
  obtain rfl : v3 = .int .u32 a3 := by simpa using e3
  have hl0 : s0.data.toList.length ≤ 9223372036854775807 := by simp only [maxLen] at w0; have := Lib.size_eq s0; omega
  have b1 := bounds_i64 w1
  have b2 := bounds_i64 w2
  have b3 := bounds_u32 w3
  have hnames : ∃ ns : List (List UInt8), E.NamesAt (fun _ => True) w.heap v4 ns ∧ ns.length ≤ 9223372036854775807 := by
    rcases Go.Deep.open_strs (show Tryd.prog.underlying _ = some (.slice 9) from Tryd.underlying30) Tryd.underlying9 (by kernel_rfl) h4 with ⟨hc, _⟩ | ⟨a, len, cap, m, Sx, hc, _, hl, hm, hmm, _, hx⟩
    · obtain rfl : v4 = .slice none 0 0 := by simpa using hc
      exact ⟨[], E.NamesAt.nil _ _, by simp⟩
    · obtain rfl : v4 = .slice (some a) len cap := by simpa using hc
      have hm' : m = cap := by rw [hmm]; rfl
      subst hm'
      refine ⟨(List.range len).map fun i => (Sx i).data.toList, ⟨some a, m, by simp, by simpa using hl, ?_⟩, by simp only [maxLen] at hm; simp; omega⟩
      refine E.rowp_cells fun i hi => ?_
      have hi' : i < len := by simpa using hi
      rw [(hx i (by omega)).1]
      simp [List.getElem?_map, List.getElem?_range, hi', E.S_of]
  obtain ⟨ns, hn, hnl⟩ := hnames
  refine ⟨⟨s0.data.toList, a1, a2, a3, ns⟩, v4, ?_, hn, ⟨by omega, by omega, by omega⟩, hl0, hnl⟩
  show Value.agg #[_, _, _, _, _] = Value.agg #[E.S s0.data.toList, _, _, _, _]
  rw [E.S_of]

set_option maxRecDepth 100000 in
theorem lifted (os : Os) (started : os.Started) (H : Type) (enc : TypeId × Value → H) :
    ReturnsInHanded {} Tryd.checked os 6 .any (fun w args => (Rows.argsBackSpec.pre enc Tryd.prog Tryd.f6 [] false w args ∧ laidMetH Tryd.prog E.laidL w) ∧ sizedMet enc Tryd.prog Tryd.f6 (OpenSpec.ofChange Rows.argsBackSpec) false w args)
      (Rows.argsBackSpec.post enc Tryd.prog Tryd.f6 false true false false) := by
  refine YtoggdigclbcndaaDoor.wrap (C := Tryd.checked) (X := fun w _ => laidMetH Tryd.prog E.laidL w) (fun _ _ _ hh h => h.of_heap hh) own started (by kernel_rfl) Tryd.func6
    (ChangeSpec.witness_shaped (enc := enc) (C := Tryd.checked) (os := os) (X := fun w _ => laidMetH Tryd.prog E.laidL w) false (World.laidAll Tryd.prog os E.laidL) #[.agg #[.string ByteArray.empty, .int .i64 0, .int .i64 0, .int .u32 0, .slice none 0 0]] 8 (World.laidAll_os _ _ _)
      (World.shaped_of_ZipB (by kernel_rfl) (by kernel_rfl)) (by kernel_rfl) (by kernel_rfl) (by kernel_rfl)
      (by rw [MakeChecks.laidMetH_plain _ _ _ (by kernel_rfl)]; exact laidMet_laidAll _ (by kernel_rfl) (by kernel_rfl))) ?_
  intro W base args ds gs before hval0 hW _ hL hsh
  have hV := E.vars_of hL hsh
  have hval : ∀ (j : Nat) t v, Tryd.f6.params[j]? = some t → args[j]? = some v → Value.okWide Tryd.prog W .any base t v := hval0
  have hW' := hW
  obtain ⟨p, q, hA0, hVa, rfl, hfz, hnd⟩ := hW
  have hA : DataW.TrodAll enc Tryd.prog W 0 (fun _ => true) true Tryd.f6.params.toList args.toList ds p := hA0
  rw [Tryd.params6] at hA hval
  obtain ⟨v0, vs0, d0, ds0, p0, q0, hargs, rfl, rfl, h0, r0⟩ := trodAll_cons hA
  obtain ⟨rfl, rfl, rfl⟩ := trodAll_nil r0
  obtain rfl : args = #[v0] := by cases args; simp_all
  obtain ⟨rfl, rfl⟩ := trodVars_none hVa
  have k0 := h0
  have lt0 : ∀ x ∈ p0, x.block < W.heap.size := by obtain ⟨m, hm⟩ := k0; exact DataW.trod_lt m _ _ _ hm
  obtain ⟨a0, nv0, rfl, n0, i0, l0, l0'⟩ := open_args (hval 0 32 v0 rfl rfl) h0
  clear hA0 hval0
  have hwalk := E.walk_of (E.argsBack_c a0 nv0 W.heap hV n0 i0 l0 l0')
  refine hwalk.mono fun e W' ⟨he, bel⟩ => ?_
  subst he
  exact ⟨_, rfl, _, _, _, [], _, [], hW', trodAll_mk1 (shut_bool Tryd.underlying4 _), (trodAll_cons_mk (Below.trod laidOut (by kernel_rfl) (of_decide_eq_true (by kernel_rfl)) k0 bel lt0) trodAll_mk0), rfl, bel.frame _, fun h => by cases h⟩

theorem over : Rows.ArgsBackSaid :=
  OpenClaim.holds_of_wide 6 Tryd.f6 rfl rfl rfl rfl rfl rfl rfl ⟨rfl, rfl, rfl, rfl, rfl⟩ rfl rfl rfl rfl rfl (by kernel_rfl) Tryd.func6 (by kernel_rfl)
    (of_decide_eq_true (by kernel_rfl)) (by unfold Func.isWrapper; first | (rw [if_pos (by decide +kernel)]; kernel_rfl) | (rw [if_neg (by decide +kernel)]; exact ⟨rfl, rfl⟩))
    (fun os started H enc _ => lifted os started H enc)

/-- the statement -/
theorem proved : Rows.ArgsBackCardSaid :=
  Claim7.holds_tied_plain_at .later [] Rows.argsBackCard.laidKinds true Rows.argsBackCard.stood.harness true over (fun _ h => by cases h) (by kernel_rfl) (fun _ h => by cases h) argsBack_row_tie rfl ⟨rfl, rfl⟩ (by kernel_rfl) rfl
    (fun f fn hf hfn => by
      obtain rfl : f = 6 := Option.some.inj ((show Tryd.prog.funcNamed "geyser/geyserlaw22.ArgsBack" = some 6 by kernel_rfl).symm.trans hf) |>.symm
      obtain rfl : fn = Tryd.f6 := (Option.some.inj (Tryd.func6.symm.trans hfn)).symm
      exact ⟨by kernel_rfl, fun j t ht => by
        rw [Tryd.params6] at ht
        have hm : t ∈ [32] := by simpa using Array.mem_of_getElem? ht
        have hall : ([32].all fun u => !Tryd.prog.wantsStandIn u) = true := by kernel_rfl
        exact (show Tryd.prog.wantsStandIn t = false by simpa using List.all_eq_true.1 hall t hm)⟩)
    (by kernel_rfl)
#print axioms proved
end Go.Proofs.YtoggdigclbcndaaDoor.ArgsBackRow
