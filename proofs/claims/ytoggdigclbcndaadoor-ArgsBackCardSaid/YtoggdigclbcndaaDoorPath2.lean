/-
  Package path, walked on: Volume, Fresh, Aside, Number, Right.
-/
import Derived.Test.YtoggdigclbcndaaDoorPath1
set_option linter.unusedVariables false
set_option linter.unusedSimpArgs false
namespace Go.Proofs.YtoggdigclbcndaaDoor.E
open Go Go.Proofs Go.RowKit
set_option maxRecDepth 100000
/-! numerals up to 999 -/
def d3 (n : Nat) : List UInt8 := if n < 10 then [UInt8.ofNat (48 + n)] else if n < 100 then [UInt8.ofNat (48 + n / 10), UInt8.ofNat (48 + n % 10)] else [UInt8.ofNat (48 + n / 100), UInt8.ofNat (48 + n / 10 % 10), UInt8.ofNat (48 + n % 10)]
theorem dec_small {u : Nat} (h : u < 10) : Lib.decDigits u = [UInt8.ofNat (48 + u)] := by rw [Lib.decDigits, dif_pos h]
theorem dec_big {u : Nat} (h : ¬ u < 10) : Lib.decDigits u = Lib.decDigits (u / 10) ++ [UInt8.ofNat (48 + u % 10)] := by rw [Lib.decDigits, dif_neg h]
theorem dec_d3 (n : Nat) (h : n < 1000) : Lib.decDigits n = d3 n := by
  unfold d3
  by_cases h1 : n < 10
  · rw [if_pos h1, dec_small h1]
  · rw [if_neg h1, dec_big h1]
    by_cases h2 : n < 100
    · rw [if_pos h2, dec_small (by omega)]; rfl
    · rw [if_neg h2, dec_big (by omega), dec_small (by omega), Nat.div_div_eq_div_mul]; rfl
theorem digs_d3 (n : Nat) (h : n < 1000) : digs (n : Int) = d3 n := by
  unfold digs Lib.itoa
  rw [if_neg (by omega), if_neg (by omega), Int.toNat_natCast, dec_d3 n h]
theorem d3_ne (n : Nat) : d3 n ≠ [] := by
  unfold d3
  split
  · simp
  · split <;> simp
theorem d3_len (n : Nat) : (d3 n).length ≤ 3 := by
  unfold d3
  split
  · simp
  · split <;> simp
theorem digs_none {n : Int} (h : n < 0 ∨ 999 < n) : digs n = [] := if_pos h
theorem digs_len (n : Int) : (digs n).length ≤ 3 := by
  by_cases h : n < 0 ∨ 999 < n
  · rw [digs_none h]; simp
  · obtain ⟨m, rfl⟩ : ∃ m : Nat, n = m := ⟨n.toNat, by omega⟩
    rw [digs_d3 m (by omega)]; exact d3_len m
theorem digs_nil {n : Int} (h : digs n = []) : n < 0 ∨ 999 < n := by
  by_cases h1 : n < 0 ∨ 999 < n
  · exact h1
  · obtain ⟨m, rfl⟩ : ∃ m : Nat, n = m := ⟨n.toNat, by omega⟩
    rw [digs_d3 m (by omega)] at h
    exact absurd h (d3_ne m)
/-- a name of a number -/
def named (pre suf : List UInt8) (n : Int) : List UInt8 := if digs n = [] then [] else pre ++ digs n ++ suf
theorem volume_c (n : Int) (h : Heap) (hV : Vars h) : Ret Tryd.prog 12 [.int .i64 n] h (fun v h' => v = S (named [] [46, 103, 121, 115] n) ∧ Ext h h') := by
  refine Ret.enter Tryd.func12 rfl Tryd.ntmps12 (by show 1 ≤ 10; decide) fun w0 => ?_
  refine run ?_
  refine L.c1 rfl (digits_c n h hV) ?_
  rintro _ h1 ⟨rfl, x⟩
  have hl := digs_len n
  unfold named
  by_cases h0 : digs n = []
  · refine run ?_
    exact ret1 rfl (by constructor) ⟨by rw [if_pos h0], x⟩
  · refine run ?_
    refine L.op (V.catS rfl rfl (by simp; omega)) ?_
    refine run ?_
    exact ret1 rfl (by constructor) ⟨by rw [if_neg h0]; rfl, x⟩
theorem fresh_c (n : Int) (h : Heap) (hV : Vars h) : Ret Tryd.prog 13 [.int .i64 n] h (fun v h' => v = S (named [116, 109, 112, 47] [] n) ∧ Ext h h') := by
  refine Ret.enter Tryd.func13 rfl Tryd.ntmps13 (by show 1 ≤ 10; decide) fun w0 => ?_
  refine run ?_
  refine L.c1 rfl (digits_c n h hV) ?_
  rintro _ h1 ⟨rfl, x⟩
  have hl := digs_len n
  unfold named
  by_cases h0 : digs n = []
  · refine run ?_
    exact ret1 rfl (by constructor) ⟨by rw [if_pos h0], x⟩
  · refine run ?_
    refine L.op (V.catS (a := [116, 109, 112, 47]) rfl rfl (by simp; omega)) ?_
    refine run ?_
    exact ret1 rfl (by constructor) ⟨by rw [if_neg h0, List.append_nil], x⟩
theorem aside_c (l : List UInt8) (n : Int) (h : Heap) (hV : Vars h) (hl0 : l.length ≤ 1000000) : Ret Tryd.prog 14 [S l, .int .i64 n] h (fun v h' => v = S (named [111, 108, 100, 47] (47 :: l) n) ∧ Ext h h') := by
  refine Ret.enter Tryd.func14 rfl Tryd.ntmps14 (by show 2 ≤ 15; decide) fun w0 => ?_
  refine run ?_
  refine L.c1 rfl (digits_c n h hV) ?_
  rintro _ h1 ⟨rfl, x⟩
  have hl := digs_len n
  unfold named
  by_cases h0 : digs n = []
  · refine run ?_
    exact ret1 rfl (by constructor) ⟨by rw [if_pos h0], x⟩
  · refine run ?_
    refine L.op (V.catS (a := [111, 108, 100, 47]) rfl rfl (by simp; omega)) ?_
    refine L.op (V.catS (b := [47]) rfl rfl (by simp; omega)) ?_
    refine run ?_
    refine L.op (V.catS rfl rfl (by simp; omega)) ?_
    refine run ?_
    exact ret1 rfl (by constructor) ⟨by rw [if_neg h0]; simp, x⟩
/-! Number -/
def AtoiR (l : List UInt8) (v : Value) : Prop := ∃ n e, v = .tuple #[.int .i64 n, e] ∧ ((Lib.atoiAll l = .ok n ∧ e = .nilIface) ∨ ((∀ m, Lib.atoiAll l ≠ .ok m) ∧ ∃ t p, e = .iface t p))
theorem atoi_c (l : List UInt8) (h : Heap) (hV : Vars h) (hl : l.length ≤ 281474976710656) : Ret Tryd.prog 24 [S l] h (fun v h' => AtoiR l v ∧ Ext h h') := by
  have hs : (⟨l.toArray⟩ : ByteArray).size = l.length := S_size l
  have hd : (⟨l.toArray⟩ : ByteArray).data.toList = l := by simp
  refine Ret.of_below fun w hw => ?_
  cases ha : Lib.atoiAll l with
  | ok m =>
    refine (Tryd.strconv_Atoi_ok ⟨l.toArray⟩ (by omega) m (by rw [hd]; exact ha) w).mono fun e w' ⟨he, hw'⟩ => ⟨⟨_, he, m, _, rfl, .inl ⟨ha, rfl⟩⟩, ?_⟩
    rcases hw' with rfl | ⟨t, rfl⟩
    · exact Below.refl _ _
    · exact below_bytes _ _ _
  | range =>
    obtain ⟨t, p, hc⟩ := hV.errR
    exact (Tryd.strconv_Atoi_range ⟨l.toArray⟩ (by omega) (by rw [hd]; exact ha) (.iface t p) w (by rw [cellH_eq', hw]; exact hc) (.inr ⟨t, p, rfl⟩)).mono fun e w' ⟨N, he, _, _, hb⟩ => ⟨⟨_, he, _, _, rfl, .inr ⟨fun m' hm => (by rw [ha] at hm; cases hm), _, _, rfl⟩⟩, hb⟩
  | _ =>
    obtain ⟨t, p, hc⟩ := hV.errS
    exact (Any.strconv_Atoi_syntax Tryd.laysC172 ⟨l.toArray⟩ (by omega) (by rw [hd]; exact ha) (.iface t p) w (by rw [cellH_eq', hw]; exact hc) (.inr ⟨t, p, rfl⟩)).mono fun e w' ⟨N, he, _, _, hb⟩ => ⟨⟨_, he, _, _, rfl, .inr ⟨fun m' hm => (by rw [ha] at hm; cases hm), _, _, rfl⟩⟩, hb⟩
def gys : List UInt8 := [46, 103, 121, 115]
def numB (l : List UInt8) : Int :=
  if Lib.hasSuffix l gys = true then
    match Lib.atoiAll (Lib.trimSuffix l gys) with
    | .ok m => if digs m = Lib.trimSuffix l gys then m else -1
    | _ => -1
  else -1
theorem trim_len (l p : List UInt8) : (Lib.trimSuffix l p).length ≤ l.length := by
  unfold Lib.trimSuffix; split
  · rw [List.length_take]; omega
  · omega
theorem number_c (l : List UInt8) (h : Heap) (hV : Vars h) (hl : l.length ≤ 281474976710656) : Ret Tryd.prog 10 [S l] h (fun v h' => v = .int .i64 (numB l) ∧ Ext h h') := by
  refine Ret.enter Tryd.func10 rfl Tryd.ntmps10 (by show 1 ≤ 30; decide) fun w0 => ?_
  refine run ?_
  have hcut : RetQ Tryd.prog 23 [S l, S gys] h (.tuple #[S (Lib.trimSuffix l gys), .bool (Lib.hasSuffix l gys)]) :=
    .of_same fun w _ => Tryd.strings_CutSuffix ⟨l.toArray⟩ ⟨gys.toArray⟩ w (by rw [S_size]; omega)
  refine L.cq rfl hcut ?_
  refine run ?_
  have ht := trim_len l gys
  refine L.c1 rfl (atoi_c (Lib.trimSuffix l gys) h hV (by omega)) ?_
  rintro _ h1 ⟨⟨n, e, rfl, hne⟩, x1⟩
  unfold numB
  cases hs : Lib.hasSuffix l gys with
  | false =>
    rcases hne with ⟨_, rfl⟩ | ⟨_, t, p, rfl⟩
    · refine run ?_
      exact ret1 rfl (by constructor) ⟨by simp, x1⟩
    · refine run ?_
      exact ret1 rfl (by constructor) ⟨by simp, x1⟩
  | true =>
    rcases hne with ⟨ha, rfl⟩ | ⟨ha, t, p, rfl⟩
    · rw [ha]
      refine run ?_
      refine L.c1g rfl rfl rfl (digits_c n h1 (hV.ext x1)) ?_
      rintro _ h2 ⟨rfl, x2⟩
      by_cases hd : digs n = Lib.trimSuffix l gys
      · refine run ?_
        exact ret1 rfl (by constructor) ⟨by simp [hd], x1.trans x2⟩
      · refine run ?_
        exact ret1 rfl (by constructor) ⟨by simp [hd], x1.trans x2⟩
    · refine run ?_
      refine ret1 rfl (by constructor) ⟨?_, x1⟩
      cases hx : Lib.atoiAll (Lib.trimSuffix l gys) with
      | ok m => exact absurd hx (ha m)
      | _ => simp
end Go.Proofs.YtoggdigclbcndaaDoor.E
