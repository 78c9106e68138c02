/-
  The plain law: sums of rows times numbers, in whatever order.
-/
import Derived.Test.YtdphoegigdpboaaLaw1
set_option linter.unusedVariables false
set_option linter.unusedSimpArgs false
namespace Go.Proofs.Ytdphoegigdpboaa.E
open Go Go.Proofs
/-- the sum of a list of bytes -/
def xs (l : List UInt8) : UInt8 := l.foldl (· ^^^ ·) 0
theorem xs_foldl (l : List UInt8) : ∀ a, l.foldl (· ^^^ ·) a = a ^^^ xs l := by
  induction l with
  | nil => intro a; simp [xs]
  | cons b l ih =>
    intro a
    have h1 := ih (a ^^^ b)
    have h2 := ih (0 ^^^ b)
    simp only [xs, List.foldl_cons] at *
    rw [h1, h2, UInt8.zero_xor, UInt8.xor_assoc]
theorem xs_cons (b : UInt8) (l : List UInt8) : xs (b :: l) = b ^^^ xs l := by
  have := xs_foldl l (0 ^^^ b)
  rw [UInt8.zero_xor] at this
  simpa [xs] using this
theorem xs_append (l m : List UInt8) : xs (l ++ m) = xs l ^^^ xs m := by
  induction l with
  | nil => simp [xs]
  | cons b l ih => rw [List.cons_append, xs_cons, xs_cons, ih, UInt8.xor_assoc]
theorem xs_perm {l m : List UInt8} (h : l.Perm m) : xs l = xs m := by
  induction h with
  | nil => rfl
  | cons b _ ih => rw [xs_cons, xs_cons, ih]
  | swap a b l => rw [xs_cons, xs_cons, xs_cons, xs_cons, ← UInt8.xor_assoc, ← UInt8.xor_assoc, UInt8.xor_comm b a]
  | trans _ _ h1 h2 => exact h1.trans h2
theorem axpy_at (a b : List UInt8) (c : UInt8) (h : a.length = b.length) (t : Nat) : (axpy a b c).getD t 0 = a.getD t 0 ^^^ Gf.mul (b.getD t 0) c := by
  by_cases ht : t < a.length
  · have hb : t < b.length := by omega
    have hx : t < (axpy a b c).length := by rw [axpy_len _ _ _ h]; exact ht
    rw [List.getD_eq_getElem?_getD, List.getD_eq_getElem?_getD, List.getD_eq_getElem?_getD, List.getElem?_eq_getElem hx, List.getElem?_eq_getElem ht, List.getElem?_eq_getElem hb]
    exact axpy_get a b c t ht hb
  · have hb : ¬ t < b.length := by omega
    have hx : ¬ t < (axpy a b c).length := by rw [axpy_len _ _ _ h]; exact ht
    rw [List.getD_eq_getElem?_getD, List.getD_eq_getElem?_getD, List.getD_eq_getElem?_getD, List.getElem?_eq_none (by omega), List.getElem?_eq_none (by omega), List.getElem?_eq_none (by omega)]
    simp [Gf.mul_zero_left]
theorem symP_at_aux (m : Nat) (LL : List (List UInt8)) (hL : ∀ x ∈ LL, x.length = m) (t : Nat) : ∀ (ps : List (Nat × UInt8)) (p : List UInt8), p.length = m → (∀ x ∈ ps, x.1 < LL.length) →
    (ps.foldl (fun p x => axpy p (LL.getD x.1 []) x.2) p).getD t 0 = p.getD t 0 ^^^ xs (ps.map fun x => Gf.mul ((LL.getD x.1 []).getD t 0) x.2)
  | [], p, hp, _ => by simp [xs]
  | x :: ps, p, hp, hx => by
    have h2 : x.1 < LL.length := hx x (by simp)
    have hl : (LL.getD x.1 []).length = m := by rw [List.getD_eq_getElem?_getD, List.getElem?_eq_getElem h2]; exact hL _ (List.getElem_mem h2)
    rw [List.foldl_cons, symP_at_aux m LL hL t ps _ (by rw [axpy_len _ _ _ (by rw [hp, hl]), hp]) (fun y hy => hx y (by simp [hy])), axpy_at _ _ _ (by rw [hp, hl]), List.map_cons, xs_cons, UInt8.xor_assoc]
theorem symP_at (m : Nat) (LL : List (List UInt8)) (hL : ∀ x ∈ LL, x.length = m) (t : Nat) (ps : List (Nat × UInt8)) (hx : ∀ x ∈ ps, x.1 < LL.length) :
    (symP m LL ps).getD t 0 = xs (ps.map fun x => Gf.mul ((LL.getD x.1 []).getD t 0) x.2) := by
  rw [symP, symP_at_aux m LL hL t ps _ (by simp) hx]
  have : (List.replicate m (0 : UInt8)).getD t 0 = 0 := by
    rw [List.getD_eq_getElem?_getD, List.getElem?_replicate]; split <;> rfl
  rw [this, UInt8.zero_xor]
theorem zip_at (m t : Nat) : ∀ (l : List (List UInt8 × UInt8)) (p : List UInt8), p.length = m → (∀ x ∈ l, x.1.length = m) →
    (l.foldl (fun p x => axpy p x.1 x.2) p).getD t 0 = p.getD t 0 ^^^ xs (l.map fun x => Gf.mul (x.1.getD t 0) x.2)
  | [], p, hp, _ => by simp [xs]
  | x :: l, p, hp, hx => by
    have hl : x.1.length = m := hx x (by simp)
    rw [List.foldl_cons, zip_at m t l _ (by rw [axpy_len _ _ _ (by rw [hp, hl]), hp]) (fun y hy => hx y (by simp [hy])), axpy_at _ _ _ (by rw [hp, hl]), List.map_cons, xs_cons, UInt8.xor_assoc]
theorem axs_at (m t : Nat) (F : List (List UInt8)) (cs : List UInt8) (hF : ∀ x ∈ F, x.length = m) : (axs m F cs).getD t 0 = xs ((F.zip cs).map fun x => Gf.mul (x.1.getD t 0) x.2) := by
  rw [axs, zip_at m t _ _ (by simp) (fun x hx => hF _ (List.of_mem_zip hx).1)]
  have : (List.replicate m (0 : UInt8)).getD t 0 = 0 := by
    rw [List.getD_eq_getElem?_getD, List.getElem?_replicate]; split <;> rfl
  rw [this, UInt8.zero_xor]
theorem rowP_at (k t : Nat) (o : List UInt8) (ho : o.length = k + (sp k + 2)) : (rowP k o (sp k + 2)).getD t 0 = (o.take k).getD t 0 ^^^ xs (((pars k).zip (o.drop k)).map fun x => Gf.mul (x.1.getD t 0) x.2) := by
  have hz : ((pars k).zip (o.drop k)).take (sp k + 2) = (pars k).zip (o.drop k) := List.take_of_length_le (by simp [pars_len]; omega)
  rw [rowP, hz, zip_at k t _ _ (by simp; omega) (fun x hx => by
    obtain ⟨j, _, hj⟩ := List.mem_map.1 (List.of_mem_zip hx).1
    rw [← hj, parR_len])]
theorem xs_map_xor {α : Type} (f g : α → UInt8) : ∀ (l : List α), xs (l.map fun x => f x ^^^ g x) = xs (l.map f) ^^^ xs (l.map g)
  | [] => by simp [xs]
  | x :: l => by rw [List.map_cons, List.map_cons, List.map_cons, xs_cons, xs_cons, xs_cons, xs_map_xor f g l, Gf.x4]
theorem xs_map_zero {α : Type} : ∀ (l : List α), xs (l.map fun _ => (0 : UInt8)) = 0
  | [] => rfl
  | x :: l => by rw [List.map_cons, xs_cons, xs_map_zero l]; rfl
theorem xs_swap {α β : Type} (f : α → β → UInt8) (m : List β) : ∀ (l : List α), xs (l.map fun x => xs (m.map fun y => f x y)) = xs (m.map fun y => xs (l.map fun x => f x y))
  | [] => by
    show xs [] = xs (m.map fun y => xs [])
    exact (xs_map_zero m).symm
  | x :: l => by
    rw [List.map_cons, xs_cons, xs_swap f m l, ← xs_map_xor]
    congr 1
    apply List.map_congr_left
    intro y _
    rw [List.map_cons, xs_cons]
theorem mul_xs (c : UInt8) : ∀ (l : List UInt8), Gf.mul (xs l) c = xs (l.map fun x => Gf.mul x c)
  | [] => Gf.mul_zero_left c
  | x :: l => by rw [xs_cons, Gf.mul_add_left, mul_xs c l, List.map_cons, xs_cons]
theorem mul_xs' (c : UInt8) : ∀ (l : List UInt8), Gf.mul c (xs l) = xs (l.map fun x => Gf.mul c x)
  | [] => Gf.mul_zero_right c
  | x :: l => by rw [xs_cons, Gf.mul_add_right, mul_xs' c l, List.map_cons, xs_cons]
theorem xs_one (b : UInt8) : xs [b] = b := by rw [xs_cons]; simp [xs]
theorem xs_range_succ (f : Nat → UInt8) (n : Nat) : xs ((List.range (n + 1)).map f) = xs ((List.range n).map f) ^^^ f n := by
  rw [List.range_succ, List.map_append, xs_append, List.map_singleton, xs_one]
theorem xs_range_one (f g : Nat → UInt8) (a : Nat) (hfg : ∀ b, b ≠ a → f b = g b) : ∀ n, a < n → xs ((List.range n).map f) ^^^ xs ((List.range n).map g) = f a ^^^ g a
  | 0, h => by omega
  | n + 1, h => by
    rw [xs_range_succ, xs_range_succ, Gf.x4]
    by_cases han : a = n
    · subst han
      have e : (List.range a).map f = (List.range a).map g := List.map_congr_left fun b hb => hfg b (by have := List.mem_range.1 hb; omega)
      rw [e, UInt8.xor_self, UInt8.zero_xor]
    · rw [xs_range_one f g a hfg n (by omega), hfg n (fun e => han e.symm), UInt8.xor_self, UInt8.xor_zero]
theorem runP_sum (g : Nat → UInt8 → UInt8) (hg : ∀ b, g b 0 = 0) (n : Nat) (x0 : UInt32) (hn : 1 ≤ n) : ∀ i, i ≤ n →
    xs ((List.range n).map fun b => g b ((runP n x0 i).o.getD b 0)) = xs ((runP n x0 i).ps.map fun x => g x.1 x.2)
  | 0, _ => by
    have e : ((List.range n).map fun b => g b ((runP n x0 0).o.getD b 0)) = (List.range n).map fun _ => (0 : UInt8) := by
      apply List.map_congr_left
      intro b _
      have : (runP n x0 0).o.getD b 0 = 0 := by
        show (List.replicate n (0 : UInt8)).getD b 0 = 0
        rw [List.getD_eq_getElem?_getD, List.getElem?_replicate]; split <;> rfl
      rw [this, hg]
    rw [e, xs_map_zero]; rfl
  | i + 1, hi => by
    have ih := runP_sum g hg n x0 hn i (by omega)
    obtain ⟨ts, hts, hz⟩ := free_at (runP n x0 i).o n ((next32 (runP n x0 i).x).toNat % n) (Nat.mod_lt _ hn) (free_of _ n (runP_len n x0 i) (by have := runP_took n x0 i; omega))
    obtain ⟨f1, f2⟩ := pr_free (runP n x0 i).o n _ ts hts hz ts 0 (by omega)
    have hl := runP_len n x0 i
    simp only [runP, stepP] at ih ⊢
    rw [Nat.sub_zero] at f1 f2
    generalize pr (runP n x0 i).o n ((next32 (runP n x0 i).x).toNat % n) 0 n = a at *
    generalize byteOf (next32 (next32 (runP n x0 i).x)) = c
    have h1 := xs_range_one (fun b => g b (((runP n x0 i).o.set a c).getD b 0)) (fun b => g b ((runP n x0 i).o.getD b 0)) a (fun b hb => by
      simp only [List.getD_eq_getElem?_getD, List.getElem?_set_ne (Ne.symm hb)]) n f1
    have h2 : ((runP n x0 i).o.set a c).getD a 0 = c := by
      rw [List.getD_eq_getElem?_getD, List.getElem?_set_self (by omega)]; rfl
    simp only [h2, f2, hg, UInt8.xor_zero] at h1
    rw [List.map_append, xs_append, List.map_singleton, xs_one, ← ih, ← h1, UInt8.xor_comm, UInt8.xor_assoc, UInt8.xor_self, UInt8.xor_zero]
end Go.Proofs.Ytdphoegigdpboaa.E
