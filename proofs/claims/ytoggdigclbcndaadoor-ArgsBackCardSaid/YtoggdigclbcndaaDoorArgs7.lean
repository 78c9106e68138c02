/-
  The statement ArgsReads, walked.
-/
import Derived.Test.YtoggdigclbcndaaDoorArgs6
set_option linter.unusedVariables false
set_option linter.unusedSimpArgs false
namespace Go.Proofs.YtoggdigclbcndaaDoor.E
open Go Go.Proofs Go.RowKit
set_option maxRecDepth 100000
def awA : AR := ⟨extendS, 0, 2, 8, []⟩
theorem awA_ok : okA awA := .inr (.inl ⟨rfl, rfl, by decide, by decide, rfl⟩)
theorem awA_text : textP awA = [101, 120, 116, 101, 110, 100, 32, 56, 32, 50] := by
  have : wordsP awA = [extendS, [56], [50]] := by
    unfold wordsP awA
    rw [if_neg (show ¬ extendS = createS by decide), if_pos rfl, itoa_of (by decide), dec_small (by decide), dec_small (by decide)]
    rfl
  unfold textP; rw [this]; rfl
theorem aawake_c (h : Heap) (hV : Vars h) : Ret Tryd.prog 15 [] h (fun v h' => v = .bool true ∧ Ext h h') := by
  refine Ret.enter Tryd.func15 rfl Tryd.ntmps15 (by show 0 ≤ 19; decide) fun w0 => ?_
  have hp := parse_c (textP awA) h hV (by rw [awA_text]; decide)
  rw [parsP_text awA_ok, awA_text] at hp
  refine run ?_
  refine L.c1 rfl hp ?_
  rintro _ h1 ⟨⟨pv, rfl, hpn⟩, x1⟩
  have q1 := x1.size
  refine run ?_
  refine L.do1 (D.al (cs := ARv AZ (.slice none 0 0)) rfl) ?_
  rintro _ h2 ⟨rfl, n2⟩
  have s2 := n2.size
  refine L.do0 (D.sta (b := h1.size) (cs := ARv AZ (.slice none 0 0)) (vs := ARv awA pv) rfl rfl rfl (oneA _ hpn) n2.at_ rfl) ?_
  rintro _ h3 t3
  have x3 : Ext h1 h3 := Mods.ext n2.ext t3.mods (fun k hk he => by omega)
  have b3 : Blk h3 h1.size (ARv awA pv) 32 := t3.at_ (by omega)
  refine run ?_
  refine L.gyes rfl rfl (V.load (v := .int .u32 8) rfl (by rw [Blk.cell b3]; rfl)) ?_
  refine run ?_
  refine L.gyes rfl rfl (V.load (v := .int .i64 2) rfl (by rw [Blk.cell b3]; rfl)) ?_
  refine run ?_
  exact ret1 rfl (by constructor) ⟨rfl, x1.trans x3⟩
theorem okA_in {a : AR} (h : okA a) : InR a ∧ a.names.length ≤ 8 := by
  rcases h with ⟨_, h1, h2, h3, h4, _⟩ | ⟨_, h1, h2, h3, h4⟩ | ⟨_, h1, h2, h3, h4⟩
  · exact ⟨⟨by omega, by omega, by omega⟩, h4.2⟩
  · exact ⟨⟨by omega, by omega, by omega⟩, by rw [h4]; simp⟩
  · exact ⟨⟨by omega, by omega, by omega⟩, by rw [h4]; simp⟩
theorem argsReads_c (l : List UInt8) (h : Heap) (hV : Vars h) (hl : l.length ≤ 9223372036854775807) : Ret Tryd.prog 7 [S l] h (fun v h' => v = .bool true ∧ Ext h h') := by
  refine Ret.enter Tryd.func7 rfl Tryd.ntmps7 (by show 1 ≤ 63; decide) fun w0 => ?_
  refine run ?_
  refine L.c1 rfl (aawake_c h hV) ?_
  rintro _ h1 ⟨rfl, x1⟩
  have hV1 := hV.ext x1
  by_cases h5 : 2000 < l.length
  · refine run ?_
    refine L.c1 rfl (aawake_c h1 hV1) ?_
    rintro _ h2 ⟨rfl, x2⟩
    refine run ?_
    exact ret1 rfl (by constructor) ⟨rfl, x1.trans x2⟩
  · refine run ?_
    refine L.c1 rfl (parse_c l h1 hV1 (by omega)) ?_
    rintro _ h2 ⟨⟨pv, rfl, hpn⟩, x2⟩
    have q2 := x2.size
    refine run ?_
    refine L.do1 (D.al (cs := ARv AZ (.slice none 0 0)) rfl) ?_
    rintro _ h3 ⟨rfl, n3⟩
    have s3 := n3.size
    refine L.do0 (D.sta (b := h2.size) (cs := ARv AZ (.slice none 0 0)) (vs := ARv (parsP l).1 pv) rfl rfl rfl (oneA _ hpn) n3.at_ rfl) ?_
    rintro _ h4 t4
    have x24 : Ext h2 h4 := Mods.ext n3.ext t4.mods (fun k hk he => by omega)
    have x14 : Ext h1 h4 := x2.trans x24
    have b4 : Blk h4 h2.size (ARv (parsP l).1 pv) 32 := t4.at_ (by omega)
    rcases parsP_cases l with ⟨e, he, hx⟩ | ⟨a, ha, hok, htx, hlen⟩
    · rw [he] at b4 ⊢
      simp only at b4 ⊢
      rcases hx with ⟨rfl, hlong⟩ | ⟨hshort, hx⟩
      · refine run ?_
        refine L.gyes rfl rfl (V.load (v := S []) rfl (by rw [Blk.cell b4]; rfl)) ?_
        refine run ?_
        exact ret1 rfl (by constructor) ⟨rfl, x1.trans x14⟩
      · rcases hx with rfl | rfl | rfl | rfl <;>
          (refine run ?_
           refine L.gyes rfl rfl (V.load (v := S []) rfl (by rw [Blk.cell b4]; rfl)) ?_
           refine run ?_
           exact ret1 rfl (by constructor) ⟨rfl, x1.trans x14⟩)
    · rw [ha] at b4 hpn ⊢
      simp only at b4 hpn ⊢
      obtain ⟨hin, hnl⟩ := okA_in hok
      refine run ?_
      refine L.op (V.loada (vs := ARv a pv) rfl rfl (fun i hi => by rw [add_lit, Blk.cell b4]; simp)) ?_
      have hpr := print_c a pv h4 (hV1.ext x14) (hpn.ext x24) hin (by omega) (by rw [htx]; omega) (by rw [parsP_text hok]; show a.names.length ≤ _; omega)
      rw [printP_ok hok, htx] at hpr
      refine L.c1 rfl hpr ?_
      rintro _ h6 ⟨rfl, x6⟩
      refine run ?_
      exact ret1 rfl (by constructor) ⟨rfl, x1.trans (x14.trans x6)⟩
end Go.Proofs.YtoggdigclbcndaaDoor.E
