/-
  Powers: both texts.
-/
import Derived.Test.YtdphoegigdpboaaFld
set_option linter.unusedVariables false
namespace Go.Proofs.Ytdphoegigdpboaa.E
open Go Go.Proofs
set_option maxRecDepth 100000
theorem power_c (a : UInt8) (m : Nat) (hm : m < 2 ^ 62) (h : Heap) : RetQ Try.prog 102 [.int .u8 (a.toNat : Int), .int .i64 (m : Int)] h (.int .u8 ((Gf.pow a m).toNat : Int)) := by
  refine Ret.quiet (Ret.enter Try.func102 rfl Try.ntmps102 (by show 2 ≤ 20; decide) fun w0 => ?_)
  refine run ?_
  refine C.loopv (fun k l h' => h' = h ∧ ∃ (x o : UInt8), k < 2 ^ 62 ∧ Gf.mul o (Gf.pow x k) = Gf.pow a m ∧ l = [(0, .int .u8 (x.toNat : Int)), (1, .int .i64 (k : Int)), (5, .int .u8 (o.toNat : Int))]) m _ ⟨rfl, a, 1, hm, Gf.one_mul _, rfl⟩ ⟨rfl, rfl, rfl, trivial⟩ ?_
  rintro k l h τ ⟨rfl, x, o, hk, hp, rfl⟩
  by_cases h0 : k = 0
  · subst h0
    refine run ?_
    refine ret1 rfl (by constructor) ⟨?_, rfl⟩
    rw [← hp, Gf.pow, Gf.mul_one]
  · refine run ?_
    refine L.op (V.andN (b := 1) rfl rfl (by omega)) ?_
    refine run ?_
    have hand : k &&& 1 = k % 2 := Nat.and_one_is_mod k
    have hshr : k >>> 1 = k / 2 := rfl
    refine C.condD rfl (fun hbit => ?_) (fun hbit => ?_)
    · have hodd : k % 2 = 1 := by omega
      refine run ?_
      refine L.cq rfl (mul_c o x h) ?_
      refine run ?_
      refine L.cq rfl (mul_c x x h) ?_
      refine run ?_
      refine L.op (V.shrN (a := k) (c := 1) rfl rfl (by decide)) ?_
      refine run ?_
      refine ⟨k / 2, _, by omega, ⟨rfl, Gf.mul x x, Gf.mul o x, by omega, ?_, rfl⟩, rfl, int_eq (by rw [hshr]), rfl, trivial⟩
      rw [Gf.pow_two, Gf.mul_assoc, ← hp]
      congr 1
      have e : k = 2 * (k / 2) + 1 := by omega
      conv => rhs; rw [e, Gf.pow, Gf.mul_comm]
    · have heven : k % 2 = 0 := by omega
      refine run ?_
      refine L.cq rfl (mul_c x x h) ?_
      refine run ?_
      refine L.op (V.shrN (a := k) (c := 1) rfl rfl (by decide)) ?_
      refine run ?_
      refine ⟨k / 2, _, by omega, ⟨rfl, Gf.mul x x, o, by omega, ?_, rfl⟩, rfl, int_eq (by rw [hshr]), rfl, trivial⟩
      rw [Gf.pow_two, ← hp]
      congr 2
      omega
theorem pow_c (a : UInt8) (m : Nat) (hm : m < 2 ^ 62) (h : Heap) : RetQ Try.prog 86 [.int .u8 (a.toNat : Int), .int .i64 (m : Int)] h (.int .u8 ((Gf.powN a m).toNat : Int)) := by
  have ha := a.toNat_lt
  refine Ret.quiet (Ret.enter Try.func86 rfl Try.ntmps86 (by show 2 ≤ 17; decide) fun w0 => ?_)
  by_cases h0 : m = 0
  · subst h0
    refine run ?_
    exact ret1 rfl (by constructor) ⟨rfl, rfl⟩
  · by_cases ha0 : a = 0
    · subst ha0
      refine run ?_
      refine ret1 rfl (by constructor) ⟨?_, rfl⟩
      simp [Gf.powN, h0]
    · have hane : a.toNat ≠ 0 := fun e => ha0 (UInt8.toNat_inj.1 (by rw [e]; rfl))
      refine run ?_
      refine L.cq rfl (show RetQ _ _ [.int .u8 (a.toNat : Int), .int .i64 (((m : Int) % 255 + 255) % 255)] _ _ from by
        have e : ((m : Int) % 255 + 255) % 255 = ((m % 255 : Nat) : Int) := by omega
        rw [e]; exact power_c a (m % 255) (by omega) h) ?_
      refine run ?_
      refine ret1 rfl (by constructor) ⟨?_, rfl⟩
      simp [Gf.powN, h0, ha0]
theorem rpow_c (a : UInt8) (m : Nat) (hm : m < 2 ^ 62) (h : Heap) : RetQ Try.prog 55 [.int .u8 (a.toNat : Int), .int .i64 (m : Int)] h (.int .u8 ((Gf.powN a m).toNat : Int)) := by
  have ha := a.toNat_lt
  refine Ret.quiet (Ret.enter Try.func55 rfl Try.ntmps55 (by show 2 ≤ 24; decide) fun w0 => ?_)
  by_cases h0 : m = 0
  · subst h0
    refine run ?_
    exact ret1 rfl (by constructor) ⟨rfl, rfl⟩
  · by_cases ha0 : a = 0
    · subst ha0
      refine run ?_
      refine ret1 rfl (by constructor) ⟨?_, rfl⟩
      simp [Gf.powN, h0]
    · have hane : a.toNat ≠ 0 := fun e => ha0 (UInt8.toNat_inj.1 (by rw [e]; rfl))
      refine run ?_
      refine C.loopv (fun k l h' => h' = h ∧ ∃ i, i ≤ m % 255 ∧ k = m % 255 - i ∧ l = [(0, .int .u8 (a.toNat : Int)), (5, .int .u8 ((Gf.pow a i).toNat : Int)), (16, .int .i64 ((m % 255 : Nat) : Int)), (17, .int .i64 (i : Int))]) (m % 255) _ ⟨rfl, 0, by omega, by omega, rfl⟩ ⟨rfl, rfl, rfl, rfl, trivial⟩ ?_
      rintro k l h τ ⟨rfl, i, hi, rfl, rfl⟩
      by_cases hlt : i < m % 255
      · refine run ?_
        refine L.cq rfl (rmul_c (Gf.pow a i) a h) ?_
        refine run ?_
        exact ⟨_, _, by omega, ⟨rfl, i + 1, by omega, rfl, rfl⟩, rfl, rfl, rfl, int_eq (by omega), trivial⟩
      · obtain rfl : i = m % 255 := by omega
        refine run ?_
        refine ret1 rfl (by constructor) ⟨?_, rfl⟩
        simp [Gf.powN, h0, ha0]
end Go.Proofs.Ytdphoegigdpboaa.E
