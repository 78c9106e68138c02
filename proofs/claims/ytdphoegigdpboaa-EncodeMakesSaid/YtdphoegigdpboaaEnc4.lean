/-
  encode.Symbols, refused.
-/
import Derived.Test.YtdphoegigdpboaaEnc3
set_option linter.unusedVariables false
set_option linter.unusedSimpArgs false
namespace Go.Proofs.Ytdphoegigdpboaa.E
open Go Go.Proofs
set_option maxRecDepth 100000
theorem symbols_bad {p : Nat → Prop} (A I : Option Addr) (c ci li : Nat) (bss : List (List UInt8)) (size : Int) (h : Heap) (hA : Bss p h A bss) (hm : bss.length ≤ 1000) (hb : bad bss size ≠ 0) :
    Ret Try.prog 8 [.slice A bss.length c, .int .i64 size, .slice I li ci] h (fun r h' => r = .tuple #[.slice none 0 0, .int .i64 (bad bss size : Int)] ∧ Ext h h') := by
  refine Ret.enter Try.func8 rfl Try.ntmps8 (by show 3 ≤ 41; decide) fun w0 => ?_
  refine run ?_
  refine L.c1 rfl (begin_bad A c bss size h hA hm hb) ?_
  rintro _ h1 ⟨rfl, x1⟩
  have s1 := x1.size
  have hb' : (bad bss size : Int) ≠ 0 := by omega
  refine run ?_
  refine L.do1 (D.al (cs := [.int .i64 0, .int .i64 0, .slice none 0 0]) rfl) ?_
  rintro _ h2 ⟨rfl, m2⟩
  have s2 := m2.size
  refine L.do0 (D.sta (b := h1.size) (cs := [.int .i64 0, .int .i64 0, .slice none 0 0]) (vs := [.int .i64 0, .int .i64 0, .slice none 0 0]) rfl rfl rfl (by intro v hv; simp at hv; rcases hv with rfl | rfl | rfl <;> rfl) m2.at_ rfl) ?_
  rintro _ h3 t3
  have x3 : Ext h1 h3 := Mods.ext m2.ext t3.mods (fun k hk he => by omega)
  refine run ?_
  exact ret2 rfl (by constructor) (by constructor) ⟨rfl, x1.trans x3⟩
theorem symbols_many {p : Nat → Prop} (A I : Option Addr) (c ci li : Nat) (bss : List (List UInt8)) (m : Nat) (h : Heap) (hA : Bss p h A bss) (hb : bad bss (m : Int) = 0) (hn : 64 < li) :
    Ret Try.prog 8 [.slice A bss.length c, .int .i64 (m : Int), .slice I li ci] h (fun r h' => r = .tuple #[.slice none 0 0, .int .i64 5] ∧ Ext h h') := by
  obtain ⟨hm1, hm2, hk1, hk2, hlen⟩ := bad_zero hb
  refine Ret.enter Try.func8 rfl Try.ntmps8 (by show 3 ≤ 41; decide) fun w0 => ?_
  refine run ?_
  refine L.c1 rfl (begin_c A c bss m h hA hb) ?_
  rintro _ h1 ⟨⟨B, cb, rfl, hB⟩, x1⟩
  have s1 := x1.size
  refine run ?_
  refine L.do1 (D.al (cs := [.int .i64 0, .int .i64 0, .slice none 0 0]) rfl) ?_
  rintro _ h2 ⟨rfl, m2⟩
  have s2 := m2.size
  refine L.do0 (D.sta (b := h1.size) (cs := [.int .i64 0, .int .i64 0, .slice none 0 0]) (vs := encC bss.length m (.slice B (nof bss.length) cb)) rfl rfl rfl (by intro v hv; simp [encC] at hv; rcases hv with rfl | rfl | rfl <;> rfl) m2.at_ rfl) ?_
  rintro _ h3 t3
  have x3 : Ext h1 h3 := Mods.ext m2.ext t3.mods (fun k hk he => by omega)
  refine run ?_
  exact ret2 rfl (by constructor) (by constructor) ⟨rfl, x1.trans x3⟩
/-! the law's own helpers -/
/-- are sources of a size that is looked at? -/
def looked (bss : List (List UInt8)) : Prop := bss.length ≤ 70 ∧ ∀ b ∈ bss, b.length ≤ 300
theorem rwrong_c {p : Nat → Prop} (A : Option Addr) (c : Nat) (bss : List (List UInt8)) (size : Int) (h : Heap) (hA : Bss p h A bss) (hm : bss.length ≤ 140737488355328) :
    RetQ Try.prog 9 [.slice A bss.length c, .int .i64 size] h (.int .i64 (bad bss size : Int)) := by
  refine Ret.quiet (Ret.enter Try.func9 rfl Try.ntmps9 (by show 2 ≤ 35; decide) fun w0 => ?_)
  by_cases h1 : size < 1 ∨ 256 < size
  · rw [bad_arg h1]
    rcases h1 with h1 | h1
    · refine run ?_
      exact ret1 rfl (by constructor) ⟨rfl, rfl⟩
    · by_cases h0 : size < 1
      · omega
      · refine run ?_
        exact ret1 rfl (by constructor) ⟨rfl, rfl⟩
  · have h1a : ¬ size < 1 := by omega
    have h1b : ¬ 256 < size := by omega
    by_cases h2 : bss.length < 1 ∨ 64 < bss.length
    · rw [bad_many h1 h2]
      by_cases h3 : bss.length < 1
      · refine run ?_
        exact ret1 rfl (by constructor) ⟨rfl, rfl⟩
      · have h4 : 64 < bss.length := by omega
        refine run ?_
        exact ret1 rfl (by constructor) ⟨rfl, rfl⟩
    · have h3 : ¬ bss.length < 1 := by omega
      have h4 : ¬ 64 < bss.length := by omega
      refine run ?_
      refine C.loopv (fun k l h' => ∃ i, i ≤ bss.length ∧ k = bss.length - i ∧ h' = h ∧ (∀ j (hj : j < bss.length), j < i → (bss[j].length : Int) ≤ size) ∧
        l = [(0, .slice A bss.length c), (1, .int .i64 size), (23, .int .i64 (bss.length : Int)), (24, .int .i64 (i : Int))]) bss.length _ ⟨0, by omega, by omega, rfl, fun j _ hj => by omega, rfl⟩ ⟨rfl, rfl, rfl, rfl, trivial⟩ ?_
      rintro k l h' τ ⟨i, hi, rfl, rfl, hall, rfl⟩
      by_cases hlt : i < bss.length
      · obtain ⟨a, Ai, ci, rfl, hc, hci, hri⟩ := hA.at_ hlt
        refine run ?_
        refine L.op (V.idx rfl rfl (by omega) (by omega)) ?_
        refine L.op (V.load rfl (by simpa using hc)) ?_
        by_cases h5 : size < (bss[i].length : Int)
        · rw [bad_long h1 h2 i hlt h5]
          refine run ?_
          exact ret1 rfl (by constructor) ⟨rfl, rfl⟩
        · refine run ?_
          refine ⟨_, _, by omega, ⟨i + 1, by omega, rfl, rfl, fun j hj hji => ?_, rfl⟩, rfl, rfl, rfl, int_eq (by omega), trivial⟩
          by_cases hji' : j = i
          · subst hji'; omega
          · exact hall j hj (by omega)
      · rw [bad_ok h1 h2 (fun j hj => hall j hj (by omega))]
        refine run ?_
        exact ret1 rfl (by constructor) ⟨rfl, rfl⟩
end Go.Proofs.Ytdphoegigdpboaa.E
