/-
  Package args, walked: text; strings.Join.
-/
import Derived.Test.YtoggdigclbcndaaDoorArgs3
set_option linter.unusedVariables false
set_option linter.unusedSimpArgs false
namespace Go.Proofs.YtoggdigclbcndaaDoor.E
open Go Go.Proofs Go.RowKit
set_option maxRecDepth 100000
theorem join_c {p : Nat → Prop} (A : Option Addr) (c : Nat) (ws : List (List UInt8)) (sep : UInt8) (h : Heap) (hA : RowP p h A (ws.map S)) (hcap : ws.length ≤ c) (hw : ws.length ≤ 100000) (hl : (Lib.join ws [sep]).length ≤ 140737488355328) :
    Ret Tryd.prog 39 [.slice A ws.length c, S [sep]] h (fun v h' => v = S (Lib.join ws [sep]) ∧ Ext h h') := by
  by_cases h0 : ws = []
  · subst h0
    refine (RetQ.ret (RetQ.of_same (v := S []) fun w _ => Tryd.strings_Join_none A c ⟨#[sep]⟩ w)).mono ?_
    rintro v h' ⟨rfl, rfl⟩
    exact ⟨by simp [Lib.join], Mods.refl _ _⟩
  · rcases hA with hA | ⟨b, o, cs, t, z, rfl, _, hb, hc⟩
    · exact absurd (List.map_eq_nil_iff.1 hA) h0
    · have e1 : (ws.map fun l => (⟨l.toArray⟩ : ByteArray)).map (·.data.toList) = ws := by
        rw [List.map_map]
        conv => rhs; rw [← List.map_id ws]
        apply List.map_congr_left; intro x _; simp
      have e2 : (ws.map fun l => (⟨l.toArray⟩ : ByteArray)).length = ws.length := by simp
      refine Ret.of_below (S := fun v => v = S (Lib.join ws [sep])) fun w hw' => ?_
      have hj := Tryd.strings_Join b o c (ws.map fun l => ⟨l.toArray⟩) ⟨#[sep]⟩ w (fun j x hx => by
        have hjl : j < ws.length := by have := (List.getElem?_eq_some_iff.1 hx).1; simpa using this
        simp [hjl] at hx
        subst hx
        have h1 := hc j (by simpa using hjl)
        rw [cellH_eq', hw']
        unfold cellH
        simp only [hb]
        simp [h1, hjl]) (by rw [hw']; exact (Array.getElem?_eq_some_iff.1 hb).1) (by rw [e2]; omega) (by rw [e2]; exact hcap) (by rw [e1]; exact hl)
      rw [e1, e2] at hj
      exact hj.mono fun e w' ⟨he, hbl⟩ => ⟨⟨_, he, rfl⟩, hbl⟩
/-- a line, which may not be read again -/
def wordsP (a : AR) : List (List UInt8) :=
  if a.verb = createS then [a.verb, Lib.itoa a.sl, Lib.itoa a.cn] ++ a.names
  else if a.verb = extendS then [a.verb, Lib.decDigits a.fr.toNat, Lib.itoa a.cn]
  else [a.verb]
def textP (a : AR) : List UInt8 := Lib.join (wordsP a) [32]
theorem ini2 {h h' : Heap} {b : Nat} {e : TypeId} {xs : List Value} (x : New h h' (.cells xs.toArray e)) : RowP (fun b => b = h.size) h' (some ⟨h.size, 0, none⟩) xs :=
  .inr ⟨h.size, 0, _, _, _, rfl, rfl, x.at_, fun i hi => by simp⟩
/-- numbers that a field may hold -/
structure InR (a : AR) : Prop where
  sl : -9223372036854775808 ≤ a.sl ∧ a.sl ≤ 9223372036854775807
  cn : -9223372036854775808 ≤ a.cn ∧ a.cn ≤ 9223372036854775807
  fr : 0 ≤ a.fr ∧ a.fr ≤ 4294967295
set_option maxHeartbeats 2000000 in
theorem text_c {p : Nat → Prop} (a : AR) (nv : Value) (h : Heap) (hV : Vars h) (hn : NamesAt p h nv a.names) (hr : InR a) (hl : a.names.length ≤ 50000) (ht : (textP a).length ≤ 140737488355328) :
    Ret Tryd.prog 26 [.agg (ARv a nv).toArray] h (fun v h' => v = S (textP a) ∧ Ext h h') := by
  refine Ret.enter Tryd.func26 rfl Tryd.ntmps26 (by show 1 ≤ 38; decide) fun w0 => ?_
  obtain ⟨r1, r2, r3⟩ := hr
  have hn0 := hn
  obtain ⟨An, cn, rfl, hcn, hrn⟩ := hn
  refine run ?_
  refine L.do1 (D.bx (v := .agg (ARv a (.slice An a.names.length cn)).toArray) (cs := ARv a (.slice An a.names.length cn)) rfl rfl) ?_
  rintro _ h1 ⟨rfl, n1⟩
  have x1 := n1.ext
  have s1 := n1.size
  have b1 : Blk h1 h.size (ARv a (.slice An a.names.length cn)) 32 := n1.at_
  refine run ?_
  refine L.op (V.load (v := S a.verb) rfl (by rw [Blk.cell b1]; rfl)) ?_
  refine L.do1 (D.bs1 (v := S a.verb) (z := S []) rfl rfl rfl) ?_
  rintro _ h2 ⟨rfl, n2⟩
  have s2 := n2.size
  have x12 := n2.ext
  have x2 := x1.trans x12
  have o2 : Own h2 h1.size 9 1 (.slice (some ⟨h1.size, 0, none⟩) 1 1) 1 [S a.verb] := n2.made (Nat.le_refl _) rfl (by decide)
  have b2 : Blk h2 h.size (ARv a (.slice An a.names.length cn)) 32 := x12.at b1
  refine run ?_
  refine L.op (V.load (v := S a.verb) rfl (by rw [Blk.cell b2]; rfl)) ?_
  by_cases hc : a.verb = [99, 114, 101, 97, 116, 101]
  · have hw : wordsP a = [a.verb, Lib.itoa a.sl, Lib.itoa a.cn] ++ a.names := if_pos hc
    refine run ?_
    refine C.mix (fun hh => Mods (fun k => k = h1.size) h2 hh) (fun i => i == 3 || i == 6 || i == 7 || i == 8) mixed (by kernel_rfl) (Mods.refl _ _) ?_
    refine run ?_
    refine M.op (fun hh hG => V.load (v := .int .i64 a.sl) rfl (by rw [Blk.cell (hG.at b2 (by omega))]; rfl)) ?_
    refine M.c1 rfl rfl (itoa_c a.sl h2 (hV.ext x2) r1.1 r1.2) ?_
    rintro _ h3 ⟨rfl, x3⟩
    refine ⟨x3.mods, ?_⟩
    refine run ?_
    refine M.op (fun hh hG => V.load (v := .int .i64 a.cn) rfl (by rw [Blk.cell (hG.at b2 (by omega))]; rfl)) ?_
    refine M.c1 rfl rfl (itoa_c a.cn h3 (hV.ext (x2.trans x3)) r2.1 r2.2) ?_
    rintro _ h4 ⟨rfl, x4⟩
    have x24 : Ext h2 h4 := x3.trans x4
    refine ⟨x24.mods, ?_⟩
    refine M.do1 rfl (D.bslice (z := S []) (zl := [S []]) (cells := [S (Lib.itoa a.sl), S (Lib.itoa a.cn)]) (vals := [(0, S (Lib.itoa a.sl)), (1, S (Lib.itoa a.cn))]) rfl rfl (by decide) rfl) ?_
    rintro _ h5 ⟨rfl, he5⟩
    have n5 : New h4 h5 (.cells [S (Lib.itoa a.sl), S (Lib.itoa a.cn)].toArray 9) := ⟨he5⟩
    have x25 : Ext h2 h5 := x24.trans n5.ext
    refine ⟨x25.mods, ?_⟩
    have q5 := x25.size
    refine M.do1 rfl (D.appendi (z := S []) (by constructor) rfl (o2.ext x25) (Row.of_blk n5.at_) rfl (by intro u hu; simp at hu; rcases hu with rfl | rfl <;> rfl) rfl (by decide) (by decide) (by decide) (by omega)) ?_
    rintro v6 h6 ⟨o6, m6, hv6⟩
    have m26 : Mods (fun k => k = h1.size) h2 h6 := x25.mods.trans (m6.mono (fun k _ hk => by simpa [Value.ownBlock] using hk.symm))
    refine ⟨m26, ?_⟩
    obtain ⟨A6, c6, rfl, -, -, -⟩ := o6.row
    refine run ?_
    have b6 : Blk h6 h.size (ARv a (.slice An a.names.length cn)) 32 := m26.at b2 (by omega)
    have x6 : Ext h h6 := Mods.ext x2 m26 (fun k hk he => by omega)
    refine L.op (V.load (v := .slice An a.names.length cn) rfl (by rw [Blk.cell b6]; rfl)) ?_
    have q6 := x6.size
    refine L.do1 (D.appendi (z := S []) (by constructor) rfl o6 (hrn.ext x6).row (by simp) (by intro u hu; obtain ⟨y, _, rfl⟩ := List.mem_map.1 hu; rfl) rfl (by decide) (by decide) (by omega) (by have := m26.size; omega)) ?_
    rintro v7 h7 ⟨o7, m7, hv7⟩
    have x7 : Ext h h7 := Mods.ext x6 m7 (fun k hk he => by have := (o6.base he).1; omega)
    obtain ⟨A7, c7, rfl, hc7, -, hr7⟩ := o7.rowp
    have ew : ([S a.verb] ++ [S (Lib.itoa a.sl), S (Lib.itoa a.cn)] ++ List.map S a.names) = (wordsP a).map S := by rw [hw]; simp
    have el : 1 + 2 + a.names.length = (wordsP a).length := by rw [hw]; simp; omega
    rw [ew] at hr7
    rw [el] at hc7 ⊢
    refine run ?_
    refine L.c1 rfl (show Ret _ _ [.slice A7 (wordsP a).length c7, S [32]] h7 _ from join_c A7 c7 (wordsP a) 32 h7 hr7 hc7 (by rw [← el]; omega) ht) ?_
    rintro _ h8 ⟨rfl, x8⟩
    refine run ?_
    exact ret1 rfl (by constructor) ⟨rfl, x7.trans x8⟩
  · by_cases hx : a.verb = [101, 120, 116, 101, 110, 100]
    · have hw : wordsP a = [a.verb, Lib.decDigits a.fr.toNat, Lib.itoa a.cn] := by
        unfold wordsP
        rw [if_neg (show ¬ a.verb = createS from hc), if_pos (show a.verb = extendS from hx)]
      obtain ⟨fr, hfr⟩ : ∃ fr : Nat, a.fr = (fr : Int) := ⟨a.fr.toNat, by omega⟩
      refine run ?_
      refine C.mix (fun hh => Mods (fun k => k = h1.size) h2 hh) (fun i => i == 4 || i == 7 || i == 8 || i == 9) mixed (by kernel_rfl) (Mods.refl _ _) ?_
      refine run ?_
      refine M.op (fun hh hG => V.load (v := .int .u32 (fr : Int)) rfl (by rw [Blk.cell (hG.at b2 (by omega)), ← hfr]; rfl)) ?_
      refine M.op (fun hh hG => V.conv rfl) ?_
      have ewr : IntKind.u64.wrap (fr : Int) = (fr : Int) := by rw [IntKind.wrap_u64]; omega
      rw [ewr]
      refine M.c1 rfl rfl (fmtU_c fr h2 (hV.ext x2) (by omega)) ?_
      rintro _ h3 ⟨rfl, x3⟩
      refine ⟨x3.mods, ?_⟩
      refine run ?_
      refine M.op (fun hh hG => V.load (v := .int .i64 a.cn) rfl (by rw [Blk.cell (hG.at b2 (by omega))]; rfl)) ?_
      refine M.c1 rfl rfl (itoa_c a.cn h3 (hV.ext (x2.trans x3)) r2.1 r2.2) ?_
      rintro _ h4 ⟨rfl, x4⟩
      have x24 : Ext h2 h4 := x3.trans x4
      refine ⟨x24.mods, ?_⟩
      refine M.do1 rfl (D.bslice (z := S []) (zl := [S []]) (cells := [S (Lib.decDigits fr), S (Lib.itoa a.cn)]) (vals := [(0, S (Lib.decDigits fr)), (1, S (Lib.itoa a.cn))]) rfl rfl (by decide) rfl) ?_
      rintro _ h5 ⟨rfl, he5⟩
      have n5 : New h4 h5 (.cells [S (Lib.decDigits fr), S (Lib.itoa a.cn)].toArray 9) := ⟨he5⟩
      have x25 : Ext h2 h5 := x24.trans n5.ext
      refine ⟨x25.mods, ?_⟩
      have q5 := x25.size
      refine M.do1 rfl (D.appendi (z := S []) (by constructor) rfl (o2.ext x25) (Row.of_blk n5.at_) rfl (by intro u hu; simp at hu; rcases hu with rfl | rfl <;> rfl) rfl (by decide) (by decide) (by decide) (by omega)) ?_
      rintro v6 h6 ⟨o6, m6, hv6⟩
      have m26 : Mods (fun k => k = h1.size) h2 h6 := x25.mods.trans (m6.mono (fun k _ hk => by simpa [Value.ownBlock] using hk.symm))
      refine ⟨m26, ?_⟩
      have x6 : Ext h h6 := Mods.ext x2 m26 (fun k hk he => by omega)
      obtain ⟨A7, c7, rfl, hc7, -, hr7⟩ := o6.rowp
      have ew : ([S a.verb] ++ [S (Lib.decDigits fr), S (Lib.itoa a.cn)]) = (wordsP a).map S := by rw [hw, hfr]; simp
      have el : 1 + 2 = (wordsP a).length := by rw [hw]; simp
      rw [ew] at hr7
      rw [el] at hc7 ⊢
      refine run ?_
      refine L.c1 rfl (show Ret _ _ [.slice A7 (wordsP a).length c7, S [32]] h6 _ from join_c A7 c7 (wordsP a) 32 h6 hr7 hc7 (by rw [← el]; omega) ht) ?_
      rintro _ h8 ⟨rfl, x8⟩
      refine run ?_
      exact ret1 rfl (by constructor) ⟨rfl, x6.trans x8⟩
    · have hw : wordsP a = [a.verb] := by
        unfold wordsP
        rw [if_neg (show ¬ a.verb = createS from hc), if_neg (show ¬ a.verb = extendS from hx)]
      obtain ⟨A7, c7, h7, hc7, -, hr7⟩ := o2.rowp
      cases h7
      have ew : [S a.verb] = (wordsP a).map S := by rw [hw]; rfl
      have el : 1 = (wordsP a).length := by rw [hw]; rfl
      refine run ?_
      rw [ew] at hr7
      refine L.c1 rfl (show Ret _ _ [.slice (some ⟨h1.size, 0, none⟩) 1 1, S [32]] h2 _ from by
        have := join_c (some ⟨h1.size, 0, none⟩) 1 (wordsP a) 32 h2 hr7 (by rw [← el]; exact Nat.le_refl _) (by rw [← el]; omega) ht
        rw [← el] at this; exact this) ?_
      rintro _ h8 ⟨rfl, x8⟩
      refine run ?_
      exact ret1 rfl (by constructor) ⟨rfl, x2.trans x8⟩
end Go.Proofs.YtoggdigclbcndaaDoor.E
