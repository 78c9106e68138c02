/-! The field of 256 numbers: plain, no program in sight. -/
namespace Go.Proofs.Ytdphoegigdpboaa.Gf
/-- twice a number -/
def xt (a : UInt8) : UInt8 := (a <<< 1) ^^^ (if a.toNat.testBit 7 then 0x1d else 0)
def xts : Nat → UInt8 → UInt8
  | 0, a => a
  | n + 1, a => xts n (xt a)
/-- what bit i of b takes of a -/
def part (a b : UInt8) (i : Nat) : UInt8 := if b.toNat.testBit i then xts i a else 0
/-- the first n bits' parts, together -/
def parts (a b : UInt8) : Nat → UInt8
  | 0 => 0
  | n + 1 => parts a b n ^^^ part a b n
def mul (a b : UInt8) : UInt8 := parts a b 8

theorem x4 (a b c d : UInt8) : (a ^^^ b) ^^^ (c ^^^ d) = (a ^^^ c) ^^^ (b ^^^ d) := by
  rw [UInt8.xor_assoc, UInt8.xor_assoc, ← UInt8.xor_assoc b c d, UInt8.xor_comm b c, UInt8.xor_assoc c b d]
theorem xt_xor (a b : UInt8) : xt (a ^^^ b) = xt a ^^^ xt b := by
  unfold xt
  rw [show (a ^^^ b) <<< 1 = (a <<< 1) ^^^ (b <<< 1) from by
    apply UInt8.eq_of_toBitVec_eq; simp [UInt8.toBitVec_shiftLeft, BitVec.shiftLeft_xor_distrib], UInt8.toNat_xor, Nat.testBit_xor, x4]
  congr 1
  cases a.toNat.testBit 7 <;> cases b.toNat.testBit 7 <;> rfl
theorem xts_xor (n : Nat) : ∀ a b : UInt8, xts n (a ^^^ b) = xts n a ^^^ xts n b := by
  induction n with
  | zero => intro a b; rfl
  | succ n ih => intro a b; show xts n (xt _) = xts n (xt _) ^^^ xts n (xt _); rw [xt_xor, ih]
theorem xts_zero (n : Nat) : xts n 0 = 0 := by
  induction n with
  | zero => rfl
  | succ n ih => exact ih
theorem part_xor_left (a b c : UInt8) (i : Nat) : part (a ^^^ b) c i = part a c i ^^^ part b c i := by
  unfold part; split
  · exact xts_xor _ _ _
  · rfl
theorem part_xor_right (a b c : UInt8) (i : Nat) : part a (b ^^^ c) i = part a b i ^^^ part a c i := by
  unfold part
  rw [UInt8.toNat_xor, Nat.testBit_xor]
  cases b.toNat.testBit i <;> cases c.toNat.testBit i <;> simp
theorem parts_xor_left (a b c : UInt8) (n : Nat) : parts (a ^^^ b) c n = parts a c n ^^^ parts b c n := by
  induction n with
  | zero => simp [parts]
  | succ n ih => simp only [parts]; rw [ih, part_xor_left, x4]
theorem parts_xor_right (a b c : UInt8) (n : Nat) : parts a (b ^^^ c) n = parts a b n ^^^ parts a c n := by
  induction n with
  | zero => simp [parts]
  | succ n ih => simp only [parts]; rw [ih, part_xor_right, x4]
theorem mul_add_left (a b c : UInt8) : mul (a ^^^ b) c = mul a c ^^^ mul b c := parts_xor_left _ _ _ _
theorem mul_add_right (a b c : UInt8) : mul a (b ^^^ c) = mul a b ^^^ mul a c := parts_xor_right _ _ _ _
theorem mul_zero_right (a : UInt8) : mul a 0 = 0 := by simp [mul, parts, part]
theorem mul_zero_left (a : UInt8) : mul 0 a = 0 := by simp [mul, parts, part, xts_zero]
/-- whatever holds of 0 and of the eight powers of two, and of sums, holds of all -/
theorem lin_ind {P : UInt8 → Prop} (h0 : P 0) (hb : ∀ i : Fin 8, P (UInt8.ofNat (2 ^ i.val))) (hx : ∀ a b, P a → P b → P (a ^^^ b)) (a : UInt8) : P a := by
  have key : ∀ a : Fin 256, ((List.finRange 8).foldl (fun s (i : Fin 8) => s ^^^ (if a.val.testBit i.val then UInt8.ofNat (2 ^ i.val) else 0)) 0) = UInt8.ofNat a.val := by decide +kernel
  have hf : ∀ (l : List (Fin 8)) (s : UInt8) (n : Nat), P s → P (l.foldl (fun s (i : Fin 8) => s ^^^ (if n.testBit i.val then UInt8.ofNat (2 ^ i.val) else 0)) s) := by
    intro l
    induction l with
    | nil => intro s n hs; exact hs
    | cons i l ih =>
      intro s n hs
      refine ih _ n (hx _ _ hs ?_)
      split
      · exact hb i
      · exact h0
  have h := hf (List.finRange 8) 0 a.toNat h0
  rw [key ⟨a.toNat, a.toNat_lt⟩] at h
  simpa using h
theorem mul_comm (a b : UInt8) : mul a b = mul b a := by
  refine lin_ind (P := fun a => mul a b = mul b a) ?_ ?_ ?_ a
  · rw [mul_zero_left, mul_zero_right]
  · intro i
    refine lin_ind (P := fun b => mul (UInt8.ofNat (2 ^ i.val)) b = mul b (UInt8.ofNat (2 ^ i.val))) ?_ ?_ ?_ b
    · rw [mul_zero_left, mul_zero_right]
    · intro j
      have : ∀ i j : Fin 8, mul (UInt8.ofNat (2 ^ i.val)) (UInt8.ofNat (2 ^ j.val)) = mul (UInt8.ofNat (2 ^ j.val)) (UInt8.ofNat (2 ^ i.val)) := by decide +kernel
      exact this i j
    · intro x y hx hy; rw [mul_add_left, mul_add_right, hx, hy]
  · intro x y hx hy; rw [mul_add_left, mul_add_right, hx, hy]
theorem mul_assoc (a b c : UInt8) : mul (mul a b) c = mul a (mul b c) := by
  refine lin_ind (P := fun a => mul (mul a b) c = mul a (mul b c)) ?_ ?_ ?_ a
  · simp only [mul_zero_left]
  · intro i
    refine lin_ind (P := fun b => mul (mul (UInt8.ofNat (2 ^ i.val)) b) c = mul (UInt8.ofNat (2 ^ i.val)) (mul b c)) ?_ ?_ ?_ b
    · simp only [mul_zero_left, mul_zero_right]
    · intro j
      refine lin_ind (P := fun c => mul (mul (UInt8.ofNat (2 ^ i.val)) (UInt8.ofNat (2 ^ j.val))) c = mul (UInt8.ofNat (2 ^ i.val)) (mul (UInt8.ofNat (2 ^ j.val)) c)) ?_ ?_ ?_ c
      · simp only [mul_zero_right]
      · intro k
        have : ∀ i j k : Fin 8, mul (mul (UInt8.ofNat (2 ^ i.val)) (UInt8.ofNat (2 ^ j.val))) (UInt8.ofNat (2 ^ k.val)) = mul (UInt8.ofNat (2 ^ i.val)) (mul (UInt8.ofNat (2 ^ j.val)) (UInt8.ofNat (2 ^ k.val))) := by decide +kernel
        exact this i j k
      · intro x y hx hy; simp only [mul_add_right, hx, hy]
    · intro x y hx hy; simp only [mul_add_left, mul_add_right, hx, hy]
  · intro x y hx hy; simp only [mul_add_left, hx, hy]
theorem mul_one (a : UInt8) : mul a 1 = a := by
  have h : parts a 1 8 = a := by
    simp [parts, part, xts, show (1 : Nat).testBit 0 = true from rfl, show (1 : Nat).testBit 1 = false from rfl, show (1 : Nat).testBit 2 = false from rfl, show (1 : Nat).testBit 3 = false from rfl, show (1 : Nat).testBit 4 = false from rfl, show (1 : Nat).testBit 5 = false from rfl, show (1 : Nat).testBit 6 = false from rfl, show (1 : Nat).testBit 7 = false from rfl]
  exact h
theorem one_mul (a : UInt8) : mul 1 a = a := by rw [mul_comm, mul_one]

theorem xts_succ (n : Nat) : ∀ a, xts (n + 1) a = xt (xts n a) := by
  induction n with
  | zero => intro a; rfl
  | succ n ih => intro a; exact ih (xt a)
theorem xt_low : ∀ x : UInt8, x.toNat <<< 1 ≤ 255 → (xt x).toNat = x.toNat <<< 1 := by
  have : ∀ x : Fin 256, (UInt8.ofNat x).toNat <<< 1 ≤ 255 → (xt (UInt8.ofNat x)).toNat = (UInt8.ofNat x).toNat <<< 1 := by decide +kernel
  intro x; have := this ⟨x.toNat, x.toNat_lt⟩; simpa using this
theorem xt_high : ∀ x : UInt8, 255 < x.toNat <<< 1 → (xt x).toNat = x.toNat <<< 1 ^^^ 285 := by
  have : ∀ x : Fin 256, 255 < (UInt8.ofNat x).toNat <<< 1 → (xt (UInt8.ofNat x)).toNat = (UInt8.ofNat x).toNat <<< 1 ^^^ 285 := by decide +kernel
  intro x; have := this ⟨x.toNat, x.toNat_lt⟩; simpa using this
theorem parts_end (a b : UInt8) (i : Nat) (h : b.toNat >>> i = 0) : parts a b i = mul a b := by
  have hb : ∀ j, i ≤ j → b.toNat.testBit j = false := by
    intro j hj
    have h2 : (b.toNat >>> i).testBit (j - i) = b.toNat.testBit j := by rw [Nat.testBit_shiftRight]; congr 1; omega
    rw [← h2, h]; simp
  have hstay : ∀ d, parts a b (i + d) = parts a b i := by
    intro d
    induction d with
    | zero => rfl
    | succ d ih => rw [← Nat.add_assoc]; simp only [parts]; rw [ih]; unfold part; rw [hb (i + d) (by omega)]; simp
  have hgt : ∀ j, 8 ≤ j → b.toNat.testBit j = false := fun j hj => Nat.testBit_lt_two_pow (Nat.lt_of_lt_of_le b.toNat_lt (Nat.pow_le_pow_right (by decide) hj))
  have hstay8 : ∀ d, parts a b (8 + d) = parts a b 8 := by
    intro d
    induction d with
    | zero => rfl
    | succ d ih =>
      rw [← Nat.add_assoc, ← ih]
      show parts a b (8 + d) ^^^ part a b (8 + d) = _
      unfold part; rw [hgt (8 + d) (by omega)]; simp
  have h1 := hstay 8
  have h2 := hstay8 i
  rw [Nat.add_comm 8 i] at h2
  rw [← h1, h2]; rfl
theorem bit_one (b : Nat) (i : Nat) (h : b >>> i &&& 1 = 1) : b.testBit i = true := by simp [Nat.testBit, Nat.and_comm, h]
theorem bit_zero (b : Nat) (i : Nat) (h : ¬ b >>> i &&& 1 = 1) : b.testBit i = false := by
  have h2 : b >>> i &&& 1 = 0 := by have : b >>> i &&& 1 ≤ 1 := Nat.and_le_right; omega
  simp [Nat.testBit, Nat.and_comm, h2]
theorem parts_one (a b : UInt8) (i : Nat) (h : b.toNat >>> i &&& 1 = 1) : (parts a b (i + 1)).toNat = (parts a b i).toNat ^^^ (xts i a).toNat := by
  simp only [parts, part, bit_one _ _ h, if_true, UInt8.toNat_xor]
theorem parts_zero (a b : UInt8) (i : Nat) (h : ¬ b.toNat >>> i &&& 1 = 1) : (parts a b (i + 1)).toNat = (parts a b i).toNat := by
  simp [parts, part, bit_zero _ _ h]
/-! the same product, by long division -/
def vm (a b : Nat) : Nat → Nat
  | 0 => 0
  | i + 1 => if b.testBit i then vm a b i ^^^ (a <<< i) else vm a b i
def rd (v : Nat) : Nat → Nat
  | 0 => v
  | j + 1 => if (rd v j).testBit (14 - j) then rd v j ^^^ (285 <<< (6 - j)) else rd v j
theorem nx4 (a b c d : Nat) : (a ^^^ b) ^^^ (c ^^^ d) = (a ^^^ c) ^^^ (b ^^^ d) := by
  rw [Nat.xor_assoc, Nat.xor_assoc, ← Nat.xor_assoc b c d, Nat.xor_comm b c, Nat.xor_assoc c b d]
theorem rd_xor (u v : Nat) : ∀ j, rd (u ^^^ v) j = rd u j ^^^ rd v j := by
  intro j
  induction j with
  | zero => rfl
  | succ j ih =>
    simp only [rd]
    rw [ih, Nat.testBit_xor]
    cases (rd u j).testBit (14 - j) <;> cases (rd v j).testBit (14 - j) <;> simp
    · rw [Nat.xor_assoc]
    · rw [Nat.xor_assoc, Nat.xor_comm (rd v j) (285 <<< (6 - j)), ← Nat.xor_assoc]
    · rw [nx4, Nat.xor_self, Nat.xor_zero]
theorem rd_zero : ∀ j, rd 0 j = 0 := by
  intro j
  induction j with
  | zero => rfl
  | succ j ih => simp [rd, ih]
theorem rd_shift (a : UInt8) (i : Fin 8) : rd (a.toNat <<< i.val) 7 = (xts i.val a).toNat := by
  have : ∀ (a : Fin 256) (i : Fin 8), rd (a.val <<< i.val) 7 = (xts i.val (UInt8.ofNat a.val)).toNat := by decide +kernel
  have h := this ⟨a.toNat, a.toNat_lt⟩ i
  simpa using h
theorem rd_vm (a b : UInt8) : ∀ i, i ≤ 8 → rd (vm a.toNat b.toNat i) 7 = (parts a b i).toNat := by
  intro i
  induction i with
  | zero => intro _; show rd 0 7 = 0; exact rd_zero 7
  | succ i ih =>
    intro hi
    simp only [vm, parts, part]
    split
    · rw [rd_xor, ih (by omega), UInt8.toNat_xor, rd_shift a ⟨i, by omega⟩]
    · rw [ih (by omega)]; simp
theorem vm_lt (a b : UInt8) : ∀ i, i ≤ 8 → vm a.toNat b.toNat i < 2 ^ 15 := by
  intro i
  induction i with
  | zero => intro _; show 0 < 2 ^ 15; decide
  | succ i ih =>
    intro hi
    simp only [vm]
    split
    · refine Nat.xor_lt_two_pow (ih (by omega)) ?_
      rw [Nat.shiftLeft_eq]
      have h1 : 2 ^ i ≤ 2 ^ 7 := Nat.pow_le_pow_right (by decide) (by omega)
      have h2 := a.toNat_lt
      calc a.toNat * 2 ^ i ≤ 255 * 2 ^ 7 := Nat.mul_le_mul (by omega) h1
        _ < 2 ^ 15 := by decide
    · exact ih (by omega)
theorem rd_lt (v : Nat) (hv : v < 2 ^ 15) : ∀ j, rd v j < 2 ^ 15 := by
  intro j
  induction j with
  | zero => exact hv
  | succ j ih =>
    simp only [rd]
    split
    · refine Nat.xor_lt_two_pow ih ?_
      rw [Nat.shiftLeft_eq]
      have h1 : 2 ^ (6 - j) ≤ 2 ^ 6 := Nat.pow_le_pow_right (by decide) (by omega)
      calc 285 * 2 ^ (6 - j) ≤ 285 * 2 ^ 6 := Nat.mul_le_mul (by omega) h1
        _ < 2 ^ 15 := by decide
    · exact ih
theorem vm_one (a b i : Nat) (h : b >>> i &&& 1 = 1) : vm a b (i + 1) = vm a b i ^^^ (a <<< i) := by simp only [vm, bit_one _ _ h, if_true]
theorem vm_zero (a b i : Nat) (h : ¬ b >>> i &&& 1 = 1) : vm a b (i + 1) = vm a b i := by simp [vm, bit_zero _ _ h]
theorem rd_one (v j : Nat) (h : rd v j >>> (14 - j) &&& 1 = 1) : rd v (j + 1) = rd v j ^^^ (285 <<< (6 - j)) := by simp only [rd, bit_one _ _ h, if_true]
theorem rd_none (v j : Nat) (h : ¬ rd v j >>> (14 - j) &&& 1 = 1) : rd v (j + 1) = rd v j := by simp [rd, bit_zero _ _ h]
/-! powers -/
def pow (a : UInt8) : Nat → UInt8
  | 0 => 1
  | n + 1 => mul (pow a n) a
theorem pow_add (a : UInt8) (m n : Nat) : pow a (m + n) = mul (pow a m) (pow a n) := by
  induction n with
  | zero => rw [Nat.add_zero, pow, mul_one]
  | succ n ih => rw [← Nat.add_assoc, pow, ih, pow, mul_assoc]
theorem pow_two (a : UInt8) (n : Nat) : pow (mul a a) n = pow a (2 * n) := by
  induction n with
  | zero => rfl
  | succ n ih => rw [pow, ih, show 2 * (n + 1) = 2 * n + 1 + 1 by omega, pow, pow, mul_assoc]
/-- a number's power, as both texts have it, of a whole number from 0 on -/
def powN (a : UInt8) (n : Nat) : UInt8 := if n = 0 then 1 else if a = 0 then 0 else pow a (n % 255)
end Go.Proofs.Ytdphoegigdpboaa.Gf
