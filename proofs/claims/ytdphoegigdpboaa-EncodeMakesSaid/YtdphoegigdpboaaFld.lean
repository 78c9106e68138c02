import Derived.Test.YtdphoegigdpboaaRun
import Derived.Test.YtdphoegigdpboaaTy
import Derived.Test.YtdphoegigdpboaaGf
namespace Go.Proofs.Ytdphoegigdpboaa.E
open Go Go.Proofs
set_option maxRecDepth 100000
theorem mul_c (a b : UInt8) (h : Heap) : RetQ Try.prog 90 [.int .u8 (a.toNat : Int), .int .u8 (b.toNat : Int)] h (.int .u8 ((Gf.mul a b).toNat : Int)) := by
  refine Ret.quiet (Ret.enter Try.func90 rfl Try.ntmps90 (by show 2 ≤ 30; decide) fun w0 => ?_)
  refine run ?_
  refine C.loopv (fun k l h' => h' = h ∧ ∃ i, k = b.toNat >>> i ∧ l = [(5, .int .i64 ((Gf.parts a b i).toNat : Int)), (6, .int .i64 ((Gf.xts i a).toNat : Int)), (7, .int .i64 ((b.toNat >>> i : Nat) : Int))]) b.toNat _ ⟨rfl, 0, rfl, rfl⟩ ⟨rfl, rfl, rfl, trivial⟩ ?_
  rintro k l h τ ⟨rfl, i, rfl, rfl⟩
  have hy : b.toNat >>> i < 256 := by have := b.toNat_lt; have : b.toNat >>> i ≤ b.toNat := Nat.shiftRight_le _ _; omega
  have hx := (Gf.xts i a).toNat_lt
  have hs := (Gf.parts a b i).toNat_lt
  have hx2 : (Gf.xts i a).toNat <<< 1 < 512 := by rw [Nat.shiftLeft_eq]; omega
  refine run ?_
  refine C.condD rfl (fun hpos => ?_) (fun hpos => ?_)
  · have hn : b.toNat >>> (i + 1) < b.toNat >>> i := by rw [Nat.shiftRight_add]; generalize b.toNat >>> i = y at *; show y / 2 < y; omega
    refine run ?_
    refine L.op (V.andN (b := 1) rfl rfl (by omega)) ?_
    refine run ?_
    refine C.condD rfl (fun hbit => ?_) (fun hbit => ?_) <;> (
      refine run ?_
      first
        | (refine L.op (V.xorN rfl rfl (by omega)) ?_; refine run ?_)
        | skip
      refine L.op (V.shlN (c := 1) rfl rfl (by omega) (by omega)) ?_
      refine run ?_
      refine C.condD rfl (fun hbig => ?_) (fun hbig => ?_) <;> (
        refine run ?_
        first
          | (refine L.op (V.xorN (b := 285) rfl rfl (by omega)) ?_; refine run ?_)
          | skip
        refine L.op (V.shrN (c := 1) rfl rfl (by decide)) ?_
        refine run ?_
        refine ⟨_, _, hn, ⟨rfl, i + 1, rfl, rfl⟩, int_eq ?_, int_eq ?_, int_eq ?_, trivial⟩
        · first
            | (rw [Gf.parts_one a b i (by omega)]; done)
            | (rw [Gf.parts_zero a b i (by omega)]; done)
        · rw [Gf.xts_succ]
          first
            | (rw [Gf.xt_high _ (by omega)]; done)
            | (rw [Gf.xt_low _ (by omega)]; done)
        · rw [Nat.shiftRight_add]))
  · refine run ?_
    refine ret1 rfl (by constructor) ⟨?_, rfl⟩
    rw [Gf.parts_end a b i (by generalize b.toNat >>> i = y at *; omega)]
theorem toNat_mod (v : Nat) : ((UInt8.ofInt (v : Int)).toNat : Nat) = v % 256 := by rw [toNat_ofInt_u8]; omega
theorem rmul_c (a b : UInt8) (h : Heap) : RetQ Try.prog 50 [.int .u8 (a.toNat : Int), .int .u8 (b.toNat : Int)] h (.int .u8 ((Gf.mul a b).toNat : Int)) := by
  have ha := a.toNat_lt
  have hb := b.toNat_lt
  refine Ret.quiet (Ret.enter Try.func50 rfl Try.ntmps50 (by show 2 ≤ 43; decide) fun w0 => ?_)
  refine run ?_
  refine C.loopv (fun k l h' => h' = h ∧ ∃ i, i ≤ 8 ∧ k = 8 - i ∧ l = [(0, .int .u8 (a.toNat : Int)), (1, .int .u8 (b.toNat : Int)), (5, .int .i64 (Gf.vm a.toNat b.toNat i : Nat)), (8, .int .i64 (i : Int))]) 8 _ ⟨rfl, 0, by omega, rfl, rfl⟩ ⟨rfl, rfl, rfl, rfl, trivial⟩ ?_
  rintro k l h τ ⟨rfl, i, hi, rfl, rfl⟩
  have hv := Gf.vm_lt a b i hi
  by_cases hlt : i < 8
  · have hs : b.toNat >>> i < 256 := by have : b.toNat >>> i ≤ b.toNat := Nat.shiftRight_le _ _; omega
    have hsh : a.toNat <<< i < 32768 := by
      rw [Nat.shiftLeft_eq]
      have h1 : 2 ^ i ≤ 2 ^ 7 := Nat.pow_le_pow_right (by decide) (by omega)
      have := Nat.mul_le_mul (show a.toNat ≤ 255 by omega) h1
      omega
    refine run ?_
    refine L.op (V.shrN (a := b.toNat) (c := i) rfl rfl (by show i ≤ 8; omega)) ?_
    refine L.op (V.andNB (b := 1) rfl rfl (by omega)) ?_
    refine run ?_
    refine C.condD rfl (fun hbit => ?_) (fun hbit => ?_)
    · refine run ?_
      refine L.op (V.shlN (a := a.toNat) (c := i) rfl rfl (by omega) (by rw [← Nat.shiftLeft_eq]; omega)) ?_
      refine L.op (V.xorN rfl rfl (by omega)) ?_
      refine run ?_
      exact ⟨_, _, by omega, ⟨rfl, i + 1, by omega, rfl, rfl⟩, rfl, rfl, int_eq (by rw [Gf.vm_one _ _ _ (by omega)]), int_eq (by omega), trivial⟩
    · refine run ?_
      exact ⟨_, _, by omega, ⟨rfl, i + 1, by omega, rfl, rfl⟩, rfl, rfl, int_eq (by rw [Gf.vm_zero _ _ _ (by omega)]), int_eq (by omega), trivial⟩
  · obtain rfl : i = 8 := by omega
    have hv8 := Gf.vm_lt a b 8 (by omega)
    refine run ?_
    refine C.loopv (fun k l h' => h' = h ∧ ∃ j, j ≤ 7 ∧ k = 7 - j ∧ l = [(5, .int .i64 (Gf.rd (Gf.vm a.toNat b.toNat 8) j : Nat)), (7, .int .i64 (14 - j : Int))]) 7 _ ⟨rfl, 0, by omega, rfl, rfl⟩ ⟨rfl, rfl, trivial⟩ ?_
    rintro k l h τ ⟨rfl, j, hj, rfl, rfl⟩
    have hv := Gf.rd_lt _ hv8 j
    by_cases hlt : j < 7
    · have e1 : (14 - (j : Int)) = ((14 - j : Nat) : Int) := by omega
      have e2 : (14 - (j : Int)) - 8 = ((6 - j : Nat) : Int) := by omega
      have hsh : 285 <<< (6 - j) < 32768 := by
        rw [Nat.shiftLeft_eq]
        have h1 : 2 ^ (6 - j) ≤ 2 ^ 6 := Nat.pow_le_pow_right (by decide) (by omega)
        have := Nat.mul_le_mul (show 285 ≤ 285 by omega) h1
        omega
      have hsr : Gf.rd (Gf.vm a.toNat b.toNat 8) j >>> (14 - j) < 32768 := by have := Nat.shiftRight_le (Gf.rd (Gf.vm a.toNat b.toNat 8) j) (14 - j); omega
      refine run ?_
      refine L.op (V.shrN (k := .i64) (a := Gf.rd (Gf.vm a.toNat b.toNat 8) j) (c := 14 - j) rfl (congrArg (Value.int .u64) e1) (by show 14 - j ≤ 64; omega)) ?_
      refine L.op (V.andN (b := 1) rfl rfl (by omega)) ?_
      refine run ?_
      refine C.condD rfl (fun hbit => ?_) (fun hbit => ?_)
      · refine run ?_
        refine L.op (V.shlN (a := 285) (c := 6 - j) rfl (congrArg (Value.int .u64) e2) (by omega) (by rw [← Nat.shiftLeft_eq]; omega)) ?_
        refine L.op (V.xorN rfl rfl (by omega)) ?_
        refine run ?_
        exact ⟨_, _, by omega, ⟨rfl, j + 1, by omega, rfl, rfl⟩, int_eq (by rw [Gf.rd_one _ _ (by omega)]), int_eq (by omega), trivial⟩
      · refine run ?_
        exact ⟨_, _, by omega, ⟨rfl, j + 1, by omega, rfl, rfl⟩, int_eq (by rw [Gf.rd_none _ _ (by omega)]), int_eq (by omega), trivial⟩
    · obtain rfl : j = 7 := by omega
      refine run ?_
      refine ret1 rfl (by constructor) ⟨?_, rfl⟩
      refine int_eq ?_
      rw [toNat_mod, Gf.rd_vm a b 8 (by omega), Nat.mod_eq_of_lt (UInt8.toNat_lt _)]
      rfl
end Go.Proofs.Ytdphoegigdpboaa.E
