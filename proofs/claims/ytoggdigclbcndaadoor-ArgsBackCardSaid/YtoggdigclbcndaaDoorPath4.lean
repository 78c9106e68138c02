/-
  The statements PathVolumes and PathNumbers, walked.
-/
import Derived.Test.YtoggdigclbcndaaDoorPath3
import Derived.Test.YtoggdigclbcndaaDoorStr2
set_option linter.unusedVariables false
set_option linter.unusedSimpArgs false
namespace Go.Proofs.YtoggdigclbcndaaDoor.E
open Go Go.Proofs Go.RowKit
set_option maxRecDepth 100000
theorem atoi_d3 : ∀ n : Fin 1000, Lib.atoiAll (d3 n.1) = .ok (n.1 : Int) := by decide +kernel
theorem hasSuffix_app (a p : List UInt8) : Lib.hasSuffix (a ++ p) p = true := by
  unfold Lib.hasSuffix; rw [List.isSuffixOf_iff_suffix]; exact List.suffix_append a p
theorem trimSuffix_app (a p : List UInt8) : Lib.trimSuffix (a ++ p) p = a := by
  unfold Lib.trimSuffix; rw [if_pos (hasSuffix_app a p)]; simp
theorem trim_back {l p : List UInt8} (h : Lib.hasSuffix l p = true) : Lib.trimSuffix l p ++ p = l := by
  unfold Lib.hasSuffix at h
  rw [List.isSuffixOf_iff_suffix] at h
  obtain ⟨a, rfl⟩ := h
  rw [trimSuffix_app]
theorem numB_d3 (n : Nat) (h : n < 1000) : numB (d3 n ++ gys) = n := by
  have h1 := atoi_d3 ⟨n, h⟩
  unfold numB
  rw [if_pos (hasSuffix_app _ _), trimSuffix_app]
  simp only at h1
  rw [h1]
  simp [digs_d3 n h]
/-- a number that is read is a volume's -/
theorem numB_named (l : List UInt8) (h : numB l ≠ -1) : 0 ≤ numB l ∧ named [] gys (numB l) = l := by
  unfold numB at h ⊢
  by_cases hs : Lib.hasSuffix l gys = true
  · rw [if_pos hs] at h ⊢
    cases ha : Lib.atoiAll (Lib.trimSuffix l gys) with
    | ok m =>
      rw [ha] at h
      simp only at h ⊢
      by_cases hd : digs m = Lib.trimSuffix l gys
      · rw [if_pos hd] at h ⊢
        have hne : digs m ≠ [] := by
          intro h0
          rw [hd] at h0
          rw [h0] at ha
          cases ha
        have hm : ¬ (m < 0 ∨ 999 < m) := fun hx => hne (digs_none hx)
        refine ⟨by omega, ?_⟩
        unfold named
        rw [if_neg hne, List.nil_append, hd, trim_back hs]
      · rw [if_neg hd] at h; exact absurd rfl h
    | _ => rw [ha] at h; exact absurd rfl h
  · rw [if_neg hs] at h; exact absurd rfl h
theorem rightB_ab : rightB [97, 47, 98] = true := by decide +kernel
theorem pawake_c (h : Heap) (hV : Vars h) : Ret Tryd.prog 8 [] h (fun v h' => v = .bool true ∧ Ext h h') := by
  refine Ret.enter Tryd.func8 rfl Tryd.ntmps8 (by show 0 ≤ 6; decide) fun w0 => ?_
  refine run ?_
  refine L.c1 rfl (show Ret _ _ [S [97, 47, 98]] h _ from right_c [97, 47, 98] h hV (by decide)) ?_
  rintro _ h1 ⟨rfl, x1⟩
  rw [rightB_ab]
  refine run ?_
  refine L.c1g rfl rfl rfl (show Ret _ _ [S (d3 7 ++ gys)] h1 _ from number_c (d3 7 ++ gys) h1 (hV.ext x1) (by decide)) ?_
  rintro _ h2 ⟨rfl, x2⟩
  rw [numB_d3 7 (by decide)]
  refine run ?_
  exact ret1 rfl (by constructor) ⟨rfl, x1.trans x2⟩
theorem pathVolumes_c (l : List UInt8) (h : Heap) (hV : Vars h) (hl : l.length ≤ 9223372036854775807) : Ret Tryd.prog 4 [S l] h (fun v h' => v = .bool true ∧ Ext h h') := by
  refine Ret.enter Tryd.func4 rfl Tryd.ntmps4 (by show 1 ≤ 26; decide) fun w0 => ?_
  refine run ?_
  refine L.c1 rfl (pawake_c h hV) ?_
  rintro _ h1 ⟨rfl, x1⟩
  by_cases h5 : 500 < l.length
  · refine run ?_
    refine L.c1 rfl (pawake_c h1 (hV.ext x1)) ?_
    rintro _ h2 ⟨rfl, x2⟩
    refine run ?_
    exact ret1 rfl (by constructor) ⟨rfl, x1.trans x2⟩
  · refine run ?_
    refine L.c1 rfl (number_c l h1 (hV.ext x1) (by omega)) ?_
    rintro _ h2 ⟨rfl, x2⟩
    by_cases hn : numB l = -1
    · refine run ?_
      exact ret1 rfl (by constructor) ⟨rfl, x1.trans x2⟩
    · obtain ⟨h0, hnm⟩ := numB_named l hn
      refine run ?_
      refine L.c1g rfl rfl rfl (volume_c (numB l) h2 (hV.ext (x1.trans x2))) ?_
      rintro _ h3 ⟨rfl, x3⟩
      change named [] [46, 103, 121, 115] (numB l) = l at hnm
      refine run ?_
      exact ret1 rfl (by constructor) ⟨rfl, x1.trans (x2.trans x3)⟩
theorem u8_eq {a : Int} {k : Nat} (h : a = (k : Int)) (hk : k < 256) : Value.int .u8 a = u8v (UInt8.ofNat k) := by
  subst h; unfold u8v; rw [UInt8.toNat_ofNat', Nat.mod_eq_of_lt hk]
theorem named_d3 (pre suf : List UInt8) (m : Nat) (hm : m < 1000) : named pre suf (m : Int) = pre ++ d3 m ++ suf := by
  unfold named; rw [digs_d3 m hm, if_neg (d3_ne m)]
set_option maxHeartbeats 4000000 in
theorem pathNumbers_c (n : Int) (l : List UInt8) (h : Heap) (hV : Vars h) (hl : l.length ≤ 9223372036854775807) : Ret Tryd.prog 5 [.int .i64 n, S l] h (fun v h' => v = .bool true ∧ Ext h h') := by
  refine Ret.enter Tryd.func5 rfl Tryd.ntmps5 (by show 2 ≤ 91; decide) fun w0 => ?_
  refine run ?_
  refine L.c1 rfl (pawake_c h hV) ?_
  rintro _ h1 ⟨rfl, x1⟩
  have hV1 := hV.ext x1
  by_cases h5 : 100 < l.length
  · refine run ?_
    refine L.c1 rfl (pawake_c h1 hV1) ?_
    rintro _ h2 ⟨rfl, x2⟩
    refine run ?_
    exact ret1 rfl (by constructor) ⟨rfl, x1.trans x2⟩
  · by_cases hn : n < 0 ∨ 999 < n
    · have e1 : named [] [46, 103, 121, 115] n = [] := if_pos (digs_none hn)
      have e2 : named [116, 109, 112, 47] [] n = [] := if_pos (digs_none hn)
      have e3 : named [111, 108, 100, 47] (47 :: l) n = [] := if_pos (digs_none hn)
      rcases hn with hn | hn
      · refine run ?_
        refine L.c1 rfl (volume_c n h1 hV1) ?_
        rintro _ h2 ⟨rfl, x2⟩
        rw [e1]
        refine run ?_
        refine L.c1g rfl rfl rfl (fresh_c n h2 (hV1.ext x2)) ?_
        rintro _ h3 ⟨rfl, x3⟩
        rw [e2]
        refine run ?_
        refine L.c1g rfl rfl rfl (aside_c l n h3 (hV1.ext (x2.trans x3)) (by omega)) ?_
        rintro _ h4 ⟨rfl, x4⟩
        rw [e3]
        refine run ?_
        exact ret1 rfl (by constructor) ⟨rfl, x1.trans (x2.trans (x3.trans x4))⟩
      · have hn0 : ¬ n < 0 := by omega
        refine run ?_
        refine L.c1 rfl (volume_c n h1 hV1) ?_
        rintro _ h2 ⟨rfl, x2⟩
        rw [e1]
        refine run ?_
        refine L.c1g rfl rfl rfl (fresh_c n h2 (hV1.ext x2)) ?_
        rintro _ h3 ⟨rfl, x3⟩
        rw [e2]
        refine run ?_
        refine L.c1g rfl rfl rfl (aside_c l n h3 (hV1.ext (x2.trans x3)) (by omega)) ?_
        rintro _ h4 ⟨rfl, x4⟩
        rw [e3]
        refine run ?_
        exact ret1 rfl (by constructor) ⟨rfl, x1.trans (x2.trans (x3.trans x4))⟩
    · obtain ⟨m, rfl⟩ : ∃ m : Nat, n = m := ⟨n.toNat, by omega⟩
      have hm : m < 1000 := by omega
      have hl3 := d3_len m
      have eA : [111, 108, 100, 47] ++ d3 m ++ (47 :: l) = ([111, 108, 100, 47] ++ d3 m ++ [47]) ++ l := by simp
      refine run ?_
      refine L.do1 (D.bs1 (v := u8v (UInt8.ofNat (48 + m % 10))) (z := .int .u8 0) (u8_eq (by omega) (by omega)) rfl rfl) ?_
      rintro _ h2 ⟨rfl, m2⟩
      have r2 : RowP (fun _ => True) h2 (some ⟨h1.size, 0, none⟩) (bys [UInt8.ofNat (48 + m % 10)]) := m2.strRow
      refine L.op (V.strS (bs := [UInt8.ofNat (48 + m % 10)]) rfl r2) ?_
      have x2 := m2.ext
      have hV2 := hV1.ext x2
      by_cases h9 : 9 < m
      · refine run ?_
        refine L.do1 (D.bs1 (v := u8v (UInt8.ofNat (48 + m / 10 % 10))) (z := .int .u8 0) (u8_eq (by omega) (by omega)) rfl rfl) ?_
        rintro _ h3 ⟨rfl, m3⟩
        have r3 : RowP (fun _ => True) h3 (some ⟨h2.size, 0, none⟩) (bys [UInt8.ofNat (48 + m / 10 % 10)]) := m3.strRow
        refine L.op (V.strS (bs := [UInt8.ofNat (48 + m / 10 % 10)]) rfl r3) ?_
        have x3 := m3.ext
        have hV3 := hV2.ext x3
        refine run ?_
        refine L.op (V.catS (a := [UInt8.ofNat (48 + m / 10 % 10)]) (b := [UInt8.ofNat (48 + m % 10)]) rfl rfl (by simp)) ?_
        by_cases h99 : 99 < m
        · refine run ?_
          refine L.do1 (D.bs1 (v := u8v (UInt8.ofNat (48 + m / 100))) (z := .int .u8 0) (u8_eq (by omega) (by omega)) rfl rfl) ?_
          rintro _ h4 ⟨rfl, m4⟩
          have r4 : RowP (fun _ => True) h4 (some ⟨h3.size, 0, none⟩) (bys [UInt8.ofNat (48 + m / 100)]) := m4.strRow
          refine L.op (V.strS (bs := [UInt8.ofNat (48 + m / 100)]) rfl r4) ?_
          have x4 := m4.ext
          have hVV := hV3.ext x4
          refine run ?_
          refine L.op (V.catS (a := [UInt8.ofNat (48 + m / 100)]) (b := [UInt8.ofNat (48 + m / 10 % 10)] ++ [UInt8.ofNat (48 + m % 10)]) rfl rfl (by simp)) ?_
          have eS : [UInt8.ofNat (48 + m / 100)] ++ ([UInt8.ofNat (48 + m / 10 % 10)] ++ [UInt8.ofNat (48 + m % 10)]) = d3 m := by unfold d3; rw [if_neg (by omega), if_neg (by omega)]; rfl
          refine run ?_
          refine L.c1 rfl (volume_c m h4 hVV) ?_
          rintro _ g1 ⟨rfl, y1⟩
          rw [named_d3 _ _ m hm, List.nil_append, eS]
          refine run ?_
          refine L.op (V.catS (a := d3 m) (b := [46, 103, 121, 115]) rfl rfl (by simp; omega)) ?_
          refine run ?_
          refine L.gyes rfl rfl (V.catS (a := d3 m) (b := [46, 103, 121, 115]) rfl rfl (by simp; omega)) ?_
          have hnum := number_c (d3 m ++ gys) g1 (hVV.ext y1) (by simp [gys]; omega)
          rw [numB_d3 m hm] at hnum
          refine L.c1g rfl rfl rfl hnum ?_
          rintro _ g2 ⟨rfl, y2⟩
          refine run ?_
          refine L.c1g rfl rfl rfl (fresh_c m g2 (hVV.ext (y1.trans y2))) ?_
          rintro _ g3 ⟨rfl, y3⟩
          rw [named_d3 _ _ m hm, List.append_nil]
          refine run ?_
          refine L.gyes rfl rfl (V.catS (a := [116, 109, 112, 47]) (b := d3 m) rfl rfl (by simp; omega)) ?_
          refine run ?_
          refine L.c1g rfl rfl rfl (aside_c l m g3 (hVV.ext (y1.trans (y2.trans y3))) (by omega)) ?_
          rintro _ g4 ⟨rfl, y4⟩
          rw [named_d3 _ _ m hm, eA]
          refine run ?_
          refine L.gyes rfl rfl (V.catS (a := [111, 108, 100, 47]) (b := d3 m) rfl rfl (by simp; omega)) ?_
          refine L.gyes rfl rfl (V.catS (a := [111, 108, 100, 47] ++ d3 m) (b := [47]) rfl rfl (by simp; omega)) ?_
          refine run ?_
          refine L.gyes rfl rfl (V.catS (a := [111, 108, 100, 47] ++ d3 m ++ [47]) (b := l) rfl rfl (by simp; omega)) ?_
          refine run ?_
          exact ret1 rfl (by constructor) ⟨rfl, (x1.trans (x2.trans (x3.trans x4))).trans (y1.trans (y2.trans (y3.trans y4)))⟩
        · have hVV := hV3
          have eS : [UInt8.ofNat (48 + m / 10 % 10)] ++ [UInt8.ofNat (48 + m % 10)] = d3 m := by unfold d3; rw [if_neg (by omega), if_pos (by omega), Nat.mod_eq_of_lt (by omega : m / 10 < 10)]; rfl
          refine run ?_
          refine L.c1 rfl (volume_c m h3 hVV) ?_
          rintro _ g1 ⟨rfl, y1⟩
          rw [named_d3 _ _ m hm, List.nil_append, eS]
          refine run ?_
          refine L.op (V.catS (a := d3 m) (b := [46, 103, 121, 115]) rfl rfl (by simp; omega)) ?_
          refine run ?_
          refine L.gyes rfl rfl (V.catS (a := d3 m) (b := [46, 103, 121, 115]) rfl rfl (by simp; omega)) ?_
          have hnum := number_c (d3 m ++ gys) g1 (hVV.ext y1) (by simp [gys]; omega)
          rw [numB_d3 m hm] at hnum
          refine L.c1g rfl rfl rfl hnum ?_
          rintro _ g2 ⟨rfl, y2⟩
          refine run ?_
          refine L.c1g rfl rfl rfl (fresh_c m g2 (hVV.ext (y1.trans y2))) ?_
          rintro _ g3 ⟨rfl, y3⟩
          rw [named_d3 _ _ m hm, List.append_nil]
          refine run ?_
          refine L.gyes rfl rfl (V.catS (a := [116, 109, 112, 47]) (b := d3 m) rfl rfl (by simp; omega)) ?_
          refine run ?_
          refine L.c1g rfl rfl rfl (aside_c l m g3 (hVV.ext (y1.trans (y2.trans y3))) (by omega)) ?_
          rintro _ g4 ⟨rfl, y4⟩
          rw [named_d3 _ _ m hm, eA]
          refine run ?_
          refine L.gyes rfl rfl (V.catS (a := [111, 108, 100, 47]) (b := d3 m) rfl rfl (by simp; omega)) ?_
          refine L.gyes rfl rfl (V.catS (a := [111, 108, 100, 47] ++ d3 m) (b := [47]) rfl rfl (by simp; omega)) ?_
          refine run ?_
          refine L.gyes rfl rfl (V.catS (a := [111, 108, 100, 47] ++ d3 m ++ [47]) (b := l) rfl rfl (by simp; omega)) ?_
          refine run ?_
          exact ret1 rfl (by constructor) ⟨rfl, (x1.trans (x2.trans x3)).trans (y1.trans (y2.trans (y3.trans y4)))⟩
      · have hVV := hV2
        have eS : [UInt8.ofNat (48 + m % 10)] = d3 m := by unfold d3; rw [if_pos (by omega), Nat.mod_eq_of_lt (by omega : m < 10)]
        have h99 : ¬ 99 < m := by omega
        refine run ?_
        refine L.c1 rfl (volume_c m h2 hVV) ?_
        rintro _ g1 ⟨rfl, y1⟩
        rw [named_d3 _ _ m hm, List.nil_append, eS]
        refine run ?_
        refine L.op (V.catS (a := d3 m) (b := [46, 103, 121, 115]) rfl rfl (by simp; omega)) ?_
        refine run ?_
        refine L.gyes rfl rfl (V.catS (a := d3 m) (b := [46, 103, 121, 115]) rfl rfl (by simp; omega)) ?_
        have hnum := number_c (d3 m ++ gys) g1 (hVV.ext y1) (by simp [gys]; omega)
        rw [numB_d3 m hm] at hnum
        refine L.c1g rfl rfl rfl hnum ?_
        rintro _ g2 ⟨rfl, y2⟩
        refine run ?_
        refine L.c1g rfl rfl rfl (fresh_c m g2 (hVV.ext (y1.trans y2))) ?_
        rintro _ g3 ⟨rfl, y3⟩
        rw [named_d3 _ _ m hm, List.append_nil]
        refine run ?_
        refine L.gyes rfl rfl (V.catS (a := [116, 109, 112, 47]) (b := d3 m) rfl rfl (by simp; omega)) ?_
        refine run ?_
        refine L.c1g rfl rfl rfl (aside_c l m g3 (hVV.ext (y1.trans (y2.trans y3))) (by omega)) ?_
        rintro _ g4 ⟨rfl, y4⟩
        rw [named_d3 _ _ m hm, eA]
        refine run ?_
        refine L.gyes rfl rfl (V.catS (a := [111, 108, 100, 47]) (b := d3 m) rfl rfl (by simp; omega)) ?_
        refine L.gyes rfl rfl (V.catS (a := [111, 108, 100, 47] ++ d3 m) (b := [47]) rfl rfl (by simp; omega)) ?_
        refine run ?_
        refine L.gyes rfl rfl (V.catS (a := [111, 108, 100, 47] ++ d3 m ++ [47]) (b := l) rfl rfl (by simp; omega)) ?_
        refine run ?_
        exact ret1 rfl (by constructor) ⟨rfl, (x1.trans x2).trans (y1.trans (y2.trans (y3.trans y4)))⟩
end Go.Proofs.YtoggdigclbcndaaDoor.E
