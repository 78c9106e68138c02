/-
  rand: the generator, program's and reference's.
-/
import Derived.Test.YtdphoegigdpboaaPre4
set_option linter.unusedVariables false
set_option linter.unusedSimpArgs false
namespace Go.Proofs.Ytdphoegigdpboaa.E
open Go Go.Proofs
set_option maxRecDepth 100000
theorem st_l (s : UInt32) (c : Nat) (hc : c < 32) : (s.toUInt64 ^^^ ((s.toUInt64 <<< UInt64.ofNat c) &&& 4294967295)) = (s ^^^ (s <<< UInt32.ofNat c)).toUInt64 := by
  apply UInt64.toNat_inj.1
  have h1 : (UInt64.ofNat c).toNat % 64 = c := by simp; omega
  have h2 : (UInt32.ofNat c).toNat % 32 = c := by simp; omega
  have e : (4294967295 : UInt64).toNat = 2 ^ 32 - 1 := rfl
  rw [UInt64.toNat_xor, UInt64.toNat_and, UInt64.toNat_shiftLeft, UInt32.toNat_toUInt64, UInt32.toNat_toUInt64, UInt32.toNat_xor, UInt32.toNat_shiftLeft, h1, h2, e]
  congr 1
  rw [Nat.and_two_pow_sub_one_eq_mod, Nat.mod_mod_of_dvd _ (by decide)]
theorem st_r (s : UInt32) (c : Nat) (hc : c < 32) : (s.toUInt64 ^^^ (s.toUInt64 >>> UInt64.ofNat c)) = (s ^^^ (s >>> UInt32.ofNat c)).toUInt64 := by
  apply UInt64.toNat_inj.1
  have h1 : (UInt64.ofNat c).toNat % 64 = c := by simp; omega
  have h2 : (UInt32.ofNat c).toNat % 32 = c := by simp; omega
  rw [UInt64.toNat_xor, UInt64.toNat_shiftRight, UInt32.toNat_toUInt64, UInt32.toNat_toUInt64, UInt32.toNat_xor, UInt32.toNat_shiftRight, h1, h2]
theorem sd (k : Nat) (hk : k ≤ 1000) (id : UInt32) : ((id.toUInt64 * UInt64.ofInt 2654435761 + UInt64.ofNat k * UInt64.ofInt 40503).toNat : Int) % 4294967296 = ((id * UInt32.ofInt 2654435761 + UInt32.ofNat k * UInt32.ofInt 40503).toNat : Int) := by
  have e1 : (UInt64.ofInt 2654435761).toNat = 2654435761 := rfl
  have e2 : (UInt64.ofInt 40503).toNat = 40503 := rfl
  have e3 : (UInt32.ofInt 2654435761).toNat = 2654435761 := rfl
  have e4 : (UInt32.ofInt 40503).toNat = 40503 := rfl
  have e5 : (UInt64.ofNat k).toNat = k := by simp; omega
  have e6 : (UInt32.ofNat k).toNat = k := by simp; omega
  have := id.toNat_lt
  rw [UInt64.toNat_add, UInt64.toNat_mul, UInt64.toNat_mul, UInt32.toNat_toUInt64, UInt32.toNat_add, UInt32.toNat_mul, UInt32.toNat_mul, e1, e2, e3, e4, e5, e6]
  omega
abbrev u32v (x : UInt32) : Value := .int .u32 (x.toNat : Int)
def n1 (s : UInt32) : UInt32 := s ^^^ (s <<< UInt32.ofNat 13)
def n2 (s : UInt32) : UInt32 := s ^^^ (s >>> UInt32.ofNat 17)
def n3 (s : UInt32) : UInt32 := s ^^^ (s <<< UInt32.ofNat 5)
/-- the state that follows -/
def next32 (s : UInt32) : UInt32 := n3 (n2 (n1 s))
def begin32 (s : UInt32) : UInt32 := if (s ^^^ UInt32.ofInt 2654435769).toNat = 0 then 1 else s ^^^ UInt32.ofInt 2654435769
def seed32 (k : Nat) (id : UInt32) : UInt32 := id * UInt32.ofInt 2654435761 + UInt32.ofNat k * UInt32.ofInt 40503
theorem Set_.trans {h h1 h2 : Heap} {b : Nat} {o o' : Obj} (x : Set_ h h1 b o) (y : Set_ h1 h2 b o') : Set_ h h2 b o' := by
  refine ⟨?_⟩
  rw [y.eq, x.eq]
  unfold setB
  apply Array.ext_getElem?
  intro j
  simp only [Array.getElem?_setIfInBounds, Array.size_setIfInBounds]
  split <;> rfl
theorem new_c (seed : UInt32) (h : Heap) : Ret Try.prog 71 [u32v seed] h (fun v h' => v = .pointer (some ⟨h.size, 0, none⟩) ∧ New h h' (.cells [u32v (begin32 seed)].toArray 121)) := by
  refine Ret.enter Try.func71 rfl Try.ntmps71 (by show 1 ≤ 11; decide) fun w0 => ?_
  by_cases h0 : ((seed ^^^ UInt32.ofInt 2654435769).toNat : Int) = 0
  · have hb : begin32 seed = 1 := by rw [begin32, if_pos (by omega)]
    refine run ?_
    refine L.op (V.buildS (vals := [(0, u32v 1)]) (cells := [u32v 1]) rfl rfl rfl) ?_
    refine L.do1 (D.bx (v := .agg [u32v 1].toArray) rfl rfl) ?_
    rintro _ h1 ⟨rfl, m1⟩
    refine run ?_
    exact ret1 rfl (by constructor) ⟨rfl, by rw [hb]; exact m1⟩
  · have hb : begin32 seed = seed ^^^ UInt32.ofInt 2654435769 := by rw [begin32, if_neg (by omega)]
    refine run ?_
    refine L.op (V.buildS (vals := [(0, u32v (seed ^^^ UInt32.ofInt 2654435769))]) (cells := [u32v (seed ^^^ UInt32.ofInt 2654435769)]) rfl rfl rfl) ?_
    refine L.do1 (D.bx (v := .agg [u32v (seed ^^^ UInt32.ofInt 2654435769)].toArray) rfl rfl) ?_
    rintro _ h1 ⟨rfl, m1⟩
    refine run ?_
    exact ret1 rfl (by constructor) ⟨rfl, by rw [hb]; exact m1⟩
theorem next_c (b : Nat) (s : UInt32) (h : Heap) (hb : Blk h b [u32v s] 121) :
    Ret Try.prog 87 [.pointer (some ⟨b, 0, none⟩)] h (fun v h' => v = u32v (next32 s) ∧ Set_ h h' b (.cells [u32v (next32 s)].toArray 121)) := by
  refine Ret.enter Try.func87 rfl Try.ntmps87 (by show 1 ≤ 45; decide) fun w0 => ?_
  have ld : ∀ {h' : Heap} {s' : UInt32}, Blk h' b [u32v s'] 121 → cellH h' ⟨b, 0 + 0, none⟩ = some (u32v s') := fun hb => by have := Blk.cell hb 0; simpa using this
  refine run ?_
  refine C.tail 12 mixed (by kernel_rfl) ?_
  refine run ?_
  refine L.op (V.load (v := u32v s) rfl (ld hb)) ?_
  refine run ?_
  refine L.op (V.load (v := u32v s) rfl (ld hb)) ?_
  refine run ?_
  refine L.do0 (D.st (b := b) (o := 0) (v := u32v (n1 s)) rfl rfl rfl hb (by simp)) ?_
  rintro _ h1 t1
  have b1 : Blk h1 b [u32v (n1 s)] 121 := t1.at_ hb.lt
  refine run ?_
  refine C.tail 12 mixed (by kernel_rfl) ?_
  refine run ?_
  refine L.op (V.load (v := u32v (n1 s)) rfl (ld b1)) ?_
  refine run ?_
  refine L.op (V.load (v := u32v (n1 s)) rfl (ld b1)) ?_
  refine run ?_
  refine L.do0 (D.st (b := b) (o := 0) (v := u32v (n2 (n1 s))) rfl rfl rfl b1 (by simp)) ?_
  rintro _ h2 t2
  have b2 : Blk h2 b [u32v (n2 (n1 s))] 121 := t2.at_ b1.lt
  refine run ?_
  refine C.tail 12 mixed (by kernel_rfl) ?_
  refine run ?_
  refine L.op (V.load (v := u32v (n2 (n1 s))) rfl (ld b2)) ?_
  refine run ?_
  refine L.op (V.load (v := u32v (n2 (n1 s))) rfl (ld b2)) ?_
  refine run ?_
  refine L.do0 (D.st (b := b) (o := 0) (v := u32v (next32 s)) rfl rfl rfl b2 (by simp)) ?_
  rintro _ h3 t3
  have b3 : Blk h3 b [u32v (next32 s)] 121 := t3.at_ b2.lt
  refine run ?_
  refine L.op (V.load (v := u32v (next32 s)) rfl (ld b3)) ?_
  refine run ?_
  exact ret1 rfl (by constructor) ⟨rfl, (t1.trans t2).trans t3⟩
theorem below_c (b : Nat) (s : UInt32) (m : Nat) (h : Heap) (hb : Blk h b [u32v s] 121) (hm : 1 ≤ m) (hm2 : m ≤ 1000000) :
    Ret Try.prog 74 [.pointer (some ⟨b, 0, none⟩), .int .i64 (m : Int)] h (fun v h' => v = .int .i64 (((next32 s).toNat % m : Nat) : Int) ∧ Set_ h h' b (.cells [u32v (next32 s)].toArray 121)) := by
  refine Ret.enter Try.func74 rfl Try.ntmps74 (by show 2 ≤ 18; decide) fun w0 => ?_
  refine run ?_
  refine L.c1 rfl (next_c b s h hb) ?_
  rintro _ h1 ⟨rfl, t1⟩
  have hlt : (next32 s).toNat % m < m := Nat.mod_lt _ hm
  have e : (((next32 s).toUInt64.toNat : Int) % (m : Int)) = (((next32 s).toNat % m : Nat) : Int) := by rw [UInt32.toNat_toUInt64]; push_cast; rfl
  refine run ?_
  exact ret1 rfl (by constructor) ⟨int_eq e, t1⟩
theorem seed_c (k : Nat) (id : UInt32) (h : Heap) (hk : k ≤ 1000) : RetQ Try.prog 72 [.int .i64 (k : Int), u32v id] h (u32v (seed32 k id)) := by
  refine Ret.quiet (Ret.enter Try.func72 rfl Try.ntmps72 (by show 2 ≤ 11; decide) fun w0 => ?_)
  have e : (k : Int) = ((UInt32.ofNat k).toNat : Int) := by simp; omega
  refine run ?_
  refine L.op (V.mulWc (a := UInt32.ofNat k) (int_eq e)) ?_
  refine run ?_
  exact ret1 rfl (by constructor) ⟨rfl, rfl⟩
/-! the reference -/
abbrev u64v (x : UInt64) : Value := .int .u64 (x.toNat : Int)
theorem rnext_c (s : UInt32) (h : Heap) : RetQ Try.prog 51 [u64v s.toUInt64] h (u64v (next32 s).toUInt64) := by
  refine Ret.quiet (Ret.enter Try.func51 rfl Try.ntmps51 (by show 1 ≤ 17; decide) fun w0 => ?_)
  refine run ?_
  refine ret1 rfl (by constructor) ⟨?_, rfl⟩
  have e1 := st_l s 13 (by decide)
  have e2 := st_r (n1 s) 17 (by decide)
  have e3 := st_l (n2 (n1 s)) 5 (by decide)
  show u64v _ = u64v _
  rw [show (next32 s).toUInt64 = _ from e3.symm, show (n2 (n1 s)).toUInt64 = _ from e2.symm, show (n1 s).toUInt64 = _ from e1.symm]
  rfl
theorem begin_x (s : UInt32) : s.toUInt64 ^^^ UInt64.ofInt 2654435769 = (s ^^^ UInt32.ofInt 2654435769).toUInt64 := by
  apply UInt64.toNat_inj.1
  rw [UInt64.toNat_xor, UInt32.toNat_toUInt64, UInt32.toNat_toUInt64, UInt32.toNat_xor]; rfl
theorem rbegin_c (s : UInt32) (h : Heap) : RetQ Try.prog 52 [u32v s] h (u64v (begin32 s).toUInt64) := by
  refine Ret.quiet (Ret.enter Try.func52 rfl Try.ntmps52 (by show 1 ≤ 10; decide) fun w0 => ?_)
  have hx : ((s.toUInt64 ^^^ UInt64.ofInt 2654435769).toNat : Int) = ((s ^^^ UInt32.ofInt 2654435769).toNat : Int) := by rw [begin_x, UInt32.toNat_toUInt64]
  by_cases h0 : ((s ^^^ UInt32.ofInt 2654435769).toNat : Int) = 0
  · have hb : begin32 s = 1 := by rw [begin32, if_pos (by omega)]
    refine run ?_
    exact ret1 rfl (by constructor) ⟨by rw [hb]; rfl, rfl⟩
  · have hb : begin32 s = s ^^^ UInt32.ofInt 2654435769 := by rw [begin32, if_neg (by omega)]
    refine run ?_
    refine ret1 rfl (by constructor) ⟨?_, rfl⟩
    rw [hb, ← begin_x]
theorem rseed_c (k : Nat) (id : UInt32) (h : Heap) (hk : k ≤ 1000) : RetQ Try.prog 53 [.int .i64 (k : Int), u32v id] h (u32v (seed32 k id)) := by
  refine Ret.quiet (Ret.enter Try.func53 rfl Try.ntmps53 (by show 2 ≤ 14; decide) fun w0 => ?_)
  have e : (k : Int) = ((UInt64.ofNat k).toNat : Int) := by simp; omega
  refine run ?_
  refine L.op (V.mulQc (a := UInt64.ofNat k) (int_eq e)) ?_
  refine run ?_
  refine ret1 rfl (by constructor) ⟨int_eq ?_, rfl⟩
  exact sd k hk id
/-- a degree ahead of its bounds -/
def raw (x : Nat) : Nat := if x < 16 then 1 else if x < 528 then 2 else if x < 696 then 3 else if x < 780 then 4 else if x < 860 then 6 else if x < 930 then 10 else if x < 980 then 18 else 34
def deg (x n : Nat) : Nat := max (min (raw x) n) 1
theorem rdegree_c (x m : Nat) (h : Heap) (hx : x < 1024) (hm : m ≤ 1000000) : RetQ Try.prog 54 [.int .u64 (x : Int), .int .i64 (m : Int)] h (.int .i64 (deg x m : Int)) := by
  refine Ret.quiet (Ret.enter Try.func54 rfl Try.ntmps54 (by show 2 ≤ 34; decide) fun w0 => ?_)
  rcases (by omega : x < 16 ∨ (16 ≤ x ∧ x < 528) ∨ (528 ≤ x ∧ x < 696) ∨ (696 ≤ x ∧ x < 780) ∨ (780 ≤ x ∧ x < 860) ∨ (860 ≤ x ∧ x < 930) ∨ (930 ≤ x ∧ x < 980) ∨ 980 ≤ x) with hc | hc | hc | hc | hc | hc | hc | hc
  all_goals
    have hr : raw x = raw x := rfl
    conv at hr => rhs; unfold raw
    first
      | rw [if_pos (by omega)] at hr
      | rw [if_neg (by omega), if_pos (by omega)] at hr
      | rw [if_neg (by omega), if_neg (by omega), if_pos (by omega)] at hr
      | rw [if_neg (by omega), if_neg (by omega), if_neg (by omega), if_pos (by omega)] at hr
      | rw [if_neg (by omega), if_neg (by omega), if_neg (by omega), if_neg (by omega), if_pos (by omega)] at hr
      | rw [if_neg (by omega), if_neg (by omega), if_neg (by omega), if_neg (by omega), if_neg (by omega), if_pos (by omega)] at hr
      | rw [if_neg (by omega), if_neg (by omega), if_neg (by omega), if_neg (by omega), if_neg (by omega), if_neg (by omega), if_pos (by omega)] at hr
      | rw [if_neg (by omega), if_neg (by omega), if_neg (by omega), if_neg (by omega), if_neg (by omega), if_neg (by omega), if_neg (by omega)] at hr
    by_cases hm0 : m < 1
    · refine run ?_
      exact ret1 rfl (by constructor) ⟨int_eq (by simp only [deg, hr]; omega), rfl⟩
    · by_cases hmr : m < raw x
      · rw [hr] at hmr
        refine run ?_
        exact ret1 rfl (by constructor) ⟨int_eq (by simp only [deg, hr]; omega), rfl⟩
      · rw [hr] at hmr
        refine run ?_
        exact ret1 rfl (by constructor) ⟨int_eq (by simp only [deg, hr]; omega), rfl⟩
end Go.Proofs.Ytdphoegigdpboaa.E
