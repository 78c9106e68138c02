/-
  The law's own helpers: Sources.
-/
import Derived.Test.YtdphoegigdpboaaEnc4
set_option linter.unusedVariables false
set_option linter.unusedSimpArgs false
namespace Go.Proofs.Ytdphoegigdpboaa.E
open Go Go.Proofs
set_option maxRecDepth 100000
theorem sources_c {p : Nat → Prop} (A : Option Addr) (c : Nat) (bss : List (List UInt8)) (h : Heap) (hA : Bss p h A bss) :
    ∃ b, RetQ Try.prog 7 [.slice A bss.length c] h (.bool b) ∧ (b = true → looked bss) := by
  by_cases hl : looked bss
  · refine ⟨true, ?_, fun _ => hl⟩
    obtain ⟨l1, l2⟩ := hl
    refine Ret.quiet (Ret.enter Try.func7 rfl Try.ntmps7 (by show 1 ≤ 20; decide) fun w0 => ?_)
    refine run ?_
    refine C.loopv (fun k l h' => ∃ i, i ≤ bss.length ∧ k = bss.length - i ∧ h' = h ∧
      l = [(0, .slice A bss.length c), (5, .int .i64 (bss.length : Int)), (6, .int .i64 (i : Int))]) bss.length _ ⟨0, by omega, by omega, rfl, rfl⟩ ⟨rfl, rfl, rfl, trivial⟩ ?_
    rintro k l h' τ ⟨i, hi, rfl, rfl, rfl⟩
    by_cases hlt : i < bss.length
    · obtain ⟨a, Ai, ci, rfl, hc, hci, hri⟩ := hA.at_ hlt
      have h3 := l2 _ (List.getElem_mem hlt)
      have hc' : cellH h' (a.add ((i : Int).toNat * 1)) = some (.slice Ai bss[i].length ci) := by simpa using hc
      refine run ?_
      refine L.gyes rfl rfl (V.idx rfl rfl (by omega) (by omega)) ?_
      refine L.gyes rfl rfl (V.load rfl hc') ?_
      refine run ?_
      exact ⟨_, _, by omega, ⟨i + 1, by omega, rfl, rfl, rfl⟩, rfl, rfl, int_eq (by omega), trivial⟩
    · refine run ?_
      exact ret1 rfl (by constructor) ⟨rfl, rfl⟩
  · refine ⟨false, ?_, fun h => by cases h⟩
    refine Ret.quiet (Ret.enter Try.func7 rfl Try.ntmps7 (by show 1 ≤ 20; decide) fun w0 => ?_)
    refine run ?_
    refine C.loopv (fun k l h' => ∃ i, i ≤ bss.length ∧ i ≤ 70 ∧ k = bss.length - i ∧ h' = h ∧ (∀ j (hj : j < bss.length), j < i → bss[j].length ≤ 300) ∧
      l = [(0, .slice A bss.length c), (5, .int .i64 (bss.length : Int)), (6, .int .i64 (i : Int))]) bss.length _ ⟨0, by omega, by omega, by omega, rfl, fun j _ hj => by omega, rfl⟩ ⟨rfl, rfl, rfl, trivial⟩ ?_
    rintro k l h' τ ⟨i, hi, hi7, rfl, rfl, hall, rfl⟩
    by_cases hlt : i < bss.length
    · by_cases h7 : i = 70
      · subst h7
        refine run ?_
        exact ret1 rfl (by constructor) ⟨rfl, rfl⟩
      · obtain ⟨a, Ai, ci, rfl, hc, hci, hri⟩ := hA.at_ hlt
        have hc' : cellH h' (a.add ((i : Int).toNat * 1)) = some (.slice Ai bss[i].length ci) := by simpa using hc
        refine run ?_
        refine L.gyes rfl rfl (V.idx rfl rfl (by omega) (by omega)) ?_
        refine L.gyes rfl rfl (V.load rfl hc') ?_
        by_cases h3 : 300 < bss[i].length
        · refine run ?_
          exact ret1 rfl (by constructor) ⟨rfl, rfl⟩
        · refine run ?_
          refine ⟨_, _, by omega, ⟨i + 1, by omega, by omega, rfl, rfl, fun j hj hji => ?_, rfl⟩, rfl, rfl, int_eq (by omega), trivial⟩
          by_cases hji' : j = i
          · subst hji'; omega
          · exact hall j hj (by omega)
    · exfalso
      refine hl ⟨by omega, fun b hb => ?_⟩
      obtain ⟨j, hj, rfl⟩ := List.mem_iff_getElem.1 hb
      exact hall j hj (by omega)
theorem symP_all_len (bss : List (List UInt8)) (m : Nat) (id : UInt32) (ps : List (Nat × UInt8)) (hp : ps.Perm (picked bss.length id).ps) : (symP m (allOf bss m) ps).length = m :=
  symP_len m _ (allOf_each bss m) ps (fun x hx => by rw [allOf_len]; exact picked_lt _ id x (hp.mem_iff.1 hx))
theorem awake_c (h : Heap) : Ret Try.prog 6 [] h (fun v h' => v = .bool true ∧ Ext h h') := by
  refine Ret.enter Try.func6 rfl Try.ntmps6 (by show 0 ≤ 16; decide) fun w0 => ?_
  refine run ?_
  refine L.do1 (D.bs1 (v := u8v 0) (z := .int .u8 0) rfl rfl rfl) ?_
  rintro _ h1 ⟨rfl, m1⟩
  have s1 := m1.size
  refine L.do1 (D.bs1 (v := .slice (some ⟨h.size, 0, none⟩) 1 1) (z := .slice none 0 0) rfl rfl rfl) ?_
  rintro _ h2 ⟨rfl, m2⟩
  have s2 := m2.size
  have hB : Bss (fun _ => True) h2 (some ⟨h1.size, 0, none⟩) [[0]] := by
    refine ⟨[.slice (some ⟨h.size, 0, none⟩) 1 1], .inr ⟨h1.size, 0, _, _, _, rfl, trivial, m2.at_, fun i hi => by simp⟩, rfl, fun i v x hv hx => ?_⟩
    have hi : i = 0 := by have := (List.getElem?_eq_some_iff.1 hx).1; simp at this; omega
    subst hi
    simp at hv hx
    subst hv hx
    exact ⟨_, _, rfl, by simp, .inr ⟨h.size, 0, _, _, _, rfl, trivial, m2.ext.at m1.at_, fun i hi => by simp [bys]⟩⟩
  have hb : bad [[0]] ((3 : Nat) : Int) = 0 := by decide
  refine L.c1 rfl (show Ret _ _ [.slice (some ⟨h1.size, 0, none⟩) 1 1, .int .i64 3, .int .u32 1] h2 _ from esymbol_c (some ⟨h1.size, 0, none⟩) 1 [[0]] 3 1 h2 hB hb) ?_
  rintro _ h3 ⟨⟨v, ps, rfl, hp, hv⟩, x3⟩
  have hl := symP_all_len [[0]] 3 1 ps hp
  obtain ⟨A4, c4, hv4, -⟩ := hv.slice
  rw [hl] at hv4
  subst hv4
  refine run ?_
  exact ret1 rfl (by constructor) ⟨rfl, (m1.ext.trans m2.ext).trans x3⟩
end Go.Proofs.Ytdphoegigdpboaa.E
