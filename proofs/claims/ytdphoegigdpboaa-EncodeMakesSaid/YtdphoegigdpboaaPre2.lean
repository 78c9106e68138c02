/-
  precode: sources filled up; the rows.
-/
import Derived.Test.YtdphoegigdpboaaPre1
set_option linter.unusedVariables false
set_option linter.unusedSimpArgs false
namespace Go.Proofs.Ytdphoegigdpboaa.E
open Go Go.Proofs
set_option maxRecDepth 100000
/-- one's own row of rows, appended to by a row of its own, just made -/
theorem OB.slice {h : Heap} {base e : Nat} {v : Value} {bss : List (List UInt8)} (o : OB h base e v bss) : ∃ A c, v = .slice A bss.length c := let ⟨A, c, hv, _⟩ := o.bss; ⟨A, c, hv⟩
theorem filled_c {p : Nat → Prop} (A : Option Addr) (c : Nat) (bss : List (List UInt8)) (m : Nat) (h : Heap) (hA : Bss p h A bss) (hm : bss.length ≤ 1000) (hm2 : m ≤ 100000) (hs : ∀ i (hi : i < bss.length), bss[i].length ≤ m) :
    Ret Try.prog 68 [.slice A bss.length c, .int .i64 (m : Int)] h (fun v h' => OB h' h.size 30 v (bss.map (fill · m)) ∧ Ext h h') := by
  refine Ret.enter Try.func68 rfl Try.ntmps68 (by show 2 ≤ 26; decide) fun w0 => ?_
  refine run ?_
  refine C.loopv (fun k l h' => ∃ i v, i ≤ bss.length ∧ k = bss.length - i ∧ OB h' h.size 30 v ((bss.take i).map (fill · m)) ∧ Ext h h' ∧
    l = [(1, .int .i64 (m : Int)), (5, v), (8, .slice A bss.length c), (9, .int .i64 (bss.length : Int)), (10, .int .i64 (i : Int))]) bss.length _ ⟨0, _, by omega, by omega, OB.nil _ _ _, Mods.refl _ _, rfl⟩ ⟨rfl, rfl, rfl, rfl, rfl, trivial⟩ ?_
  rintro k l h' τ ⟨i, v, hi, rfl, ho, hx, rfl⟩
  have hsz := hx.size
  obtain ⟨A', c', rfl⟩ := ho.slice
  by_cases hlt : i < bss.length
  · have hil : ((bss.take i).map (fill · m)).length = i := by simp; omega
    obtain ⟨a, Ai, ci, rfl, hc, hci, hri⟩ := (hA.ext hx).at_ hlt
    have hbl := hs i hlt
    refine run ?_
    refine L.op (V.idx rfl rfl (by omega) (by omega)) ?_
    refine L.op (V.load rfl (by simpa using hc)) ?_
    refine run ?_
    refine L.c1 rfl (clone_c Ai ci bss[i] h' hri.row (by omega)) ?_
    rintro r h1 ⟨o1, x1⟩
    obtain ⟨A1, c1, rfl, -⟩ := o1.row
    refine run ?_
    refine L.do1 (D.appendzi (m := m - bss[i].length) (z := .int .u8 0) (by constructor) (int_eq (by omega)) o1 rfl rfl (by decide) (by omega) x1.size) ?_
    rintro r h2 ⟨o2, m2, -⟩
    have x2 : Ext h' h2 := o1.ext2 (Nat.le_refl _) x1 m2
    rw [← bys_replicate, ← bys_append, ← fill_long _ _ hbl] at o2
    obtain ⟨A2, c2, rfl, -⟩ := o2.row
    refine L.do1 (D.bs1i (z := .slice none 0 0) (by constructor) rfl rfl) ?_
    rintro _ h3 ⟨rfl, n3⟩
    obtain ⟨vs, hown, hall⟩ := ho
    have x3 : Ext h' h3 := x2.trans n3.ext
    have s3 := x3.size
    refine L.do1 (D.appendi (z := .slice none 0 0) (by constructor) rfl (hown.ext x3) (Row.of_blk n3.at_) rfl (by simp [Value.oneCell']) rfl (by decide) (by decide) (by rw [hil]; omega) (by omega)) ?_
    rintro v' h4 ⟨o4, m4, hv4⟩
    have hu : BsP (fun b => (Value.slice A' ((bss.take i).map (fill · m)).length c').ownBlock ≠ some b ∧ h.size ≤ b) h3 (.slice A2 (bss[i].length + (m - bss[i].length)) c2) (fill bss[i] m) :=
      (o2.ext n3.ext).bsq (fun b hb _ => ⟨fun he => by have := (hown.base he).2; omega, by omega⟩)
    have hob := OB.push (hall.imp fun _ _ hb => hb.ext x3) hu o4 m4 hv4
    rw [map_take_succ (fill · m) bss i hlt] at hob
    obtain ⟨A4, c4, rfl⟩ := hob.slice
    refine run ?_
    refine ⟨_, _, by omega, ⟨i + 1, _, by omega, rfl, hob, ?_, rfl⟩, rfl, rfl, rfl, rfl, int_eq (by omega), trivial⟩
    exact Mods.ext (hx.trans x3) m4 (fun k hk he => by have := (hown.base he).1; omega)
  · obtain rfl : i = bss.length := by omega
    rw [List.take_of_length_le (Nat.le_refl _)] at ho
    refine run ?_
    refine ret1 rfl (by constructor) ⟨?_, hx⟩
    simpa using ho
end Go.Proofs.Ytdphoegigdpboaa.E
