/-
  The plain law: a symbol is its row's.
-/
import Derived.Test.YtdphoegigdpboaaPlain
set_option linter.unusedVariables false
set_option linter.unusedSimpArgs false
namespace Go.Proofs.Ytdphoegigdpboaa.E
open Go Go.Proofs
theorem xs_range_add (f : Nat → UInt8) (a : Nat) : ∀ b, xs ((List.range (a + b)).map f) = xs ((List.range a).map f) ^^^ xs ((List.range b).map fun j => f (a + j))
  | 0 => by simp [xs]
  | b + 1 => by rw [← Nat.add_assoc, xs_range_succ, xs_range_add f a b, xs_range_succ, UInt8.xor_assoc]
theorem zip_range (l : List (List UInt8)) (cs : List UInt8) (h : l.length = cs.length) (g : List UInt8 → UInt8 → UInt8) :
    (l.zip cs).map (fun x => g x.1 x.2) = (List.range l.length).map fun i => g (l.getD i []) (cs.getD i 0) := by
  apply List.ext_getElem
  · simp [h]
  · intro i h1 h2
    have hi : i < l.length := by simpa using h2
    have hc : i < cs.length := by omega
    simp [List.getD_eq_getElem?_getD, List.getElem?_eq_getElem hi, List.getElem?_eq_getElem hc]
theorem ext_getD {a b : List UInt8} (hl : a.length = b.length) (h : ∀ t, a.getD t 0 = b.getD t 0) : a = b := by
  apply List.ext_getElem hl
  intro i h1 h2
  have := h i
  simpa [List.getD_eq_getElem?_getD, List.getElem?_eq_getElem h1, List.getElem?_eq_getElem h2] using this
theorem take_getD (o : List UInt8) (k i : Nat) (hi : i < k) : (o.take k).getD i 0 = o.getD i 0 := by
  rw [List.getD_eq_getElem?_getD, List.getD_eq_getElem?_getD, List.getElem?_take, if_pos hi]
theorem drop_getD (o : List UInt8) (k j : Nat) : (o.drop k).getD j 0 = o.getD (k + j) 0 := by
  rw [List.getD_eq_getElem?_getD, List.getD_eq_getElem?_getD, List.getElem?_drop]
theorem pars_getD (k j : Nat) (hj : j < sp k + 2) : (pars k).getD j [] = parR k j := by
  rw [List.getD_eq_getElem?_getD]; simp [pars, hj]
theorem parR_getD (k j i : Nat) (hi : i < k) : (parR k j).getD i 0 = parC k j i := by
  rw [List.getD_eq_getElem?_getD]; simp [parR, hi]
theorem row_getD (k : Nat) (id : UInt32) (i : Nat) (hi : i < k) :
    (rowOf k id).getD i 0 = (picked k id).o.getD i 0 ^^^ xs ((List.range (sp k + 2)).map fun j => Gf.mul (parC k j i) ((picked k id).o.getD (k + j) 0)) := by
  have ho : (picked k id).o.length = k + (sp k + 2) := runP_len _ _ _
  rw [rowOf, rowP_at k i _ ho, take_getD _ _ _ hi]
  congr 1
  rw [zip_range (pars k) _ (by simp [pars_len, ho]) (fun r c => Gf.mul (r.getD i 0) c), pars_len]
  congr 1
  apply List.map_congr_left
  intro j hj
  rw [pars_getD k j (List.mem_range.1 hj), parR_getD k j i hi, drop_getD]
theorem plain (bss : List (List UInt8)) (m : Nat) (id : UInt32) (ps : List (Nat × UInt8)) (hk : 1 ≤ bss.length) (hp : ps.Perm (picked bss.length id).ps) :
    symP m (allOf bss m) ps = axs m (bss.map (fill · m)) (rowOf bss.length id) := by
  have ho : (picked bss.length id).o.length = bss.length + (sp bss.length + 2) := runP_len _ _ _
  have hrl : (rowOf bss.length id).length = bss.length := rowP_len _ _ ho _ (Nat.le_refl _)
  have hF : ∀ x ∈ bss.map (fill · m), x.length = m := by intro x hx; obtain ⟨y, _, rfl⟩ := List.mem_map.1 hx; exact fill_len y m
  have hFl : (bss.map (fill · m)).length = bss.length := by simp
  refine ext_getD (by rw [symP_all_len bss m id ps hp, axs_len m _ _ hF (by rw [hFl, hrl])]) fun t => ?_
  rw [symP_at m _ (allOf_each bss m) t ps (fun x hx => by rw [allOf_len]; exact picked_lt _ id x (hp.mem_iff.1 hx)), axs_at m t _ _ hF]
  rw [xs_perm (hp.map _)]
  have h1 := runP_sum (fun b c => Gf.mul (((allOf bss m).getD b []).getD t 0) c) (fun b => Gf.mul_zero_right _) (nof bss.length) (x0of bss.length id) (by unfold nof; omega) (dof bss.length id) (deg_le _ _ (by unfold nof; omega))
  have h2 : (picked bss.length id).ps = (runP (nof bss.length) (x0of bss.length id) (dof bss.length id)).ps := rfl
  have h3 : (picked bss.length id).o = (runP (nof bss.length) (x0of bss.length id) (dof bss.length id)).o := rfl
  rw [← h2, ← h3] at h1
  rw [← h1]
  generalize hod : (picked bss.length id).o = o at *
  obtain ⟨F, hFd⟩ : ∃ F, F = bss.map (fill · m) := ⟨_, rfl⟩
  rw [← hFd] at hF hFl ⊢
  have hall : allOf bss m = F ++ par bss m := by rw [hFd]; rfl
  have y1 : ∀ i, i < bss.length → (allOf bss m).getD i [] = F.getD i [] := by
    intro i hi
    rw [hall, List.getD_eq_getElem?_getD, List.getD_eq_getElem?_getD, List.getElem?_append_left (by omega)]
  have y2 : ∀ j, j < sp bss.length + 2 → ((allOf bss m).getD (bss.length + j) []).getD t 0 = xs ((List.range bss.length).map fun i => Gf.mul ((F.getD i []).getD t 0) (parC bss.length j i)) := by
    intro j hj
    have e : (allOf bss m).getD (bss.length + j) [] = axs m F (parR bss.length j) := by
      rw [hall, List.getD_eq_getElem?_getD, List.getElem?_append_right (by omega), show bss.length + j - F.length = j by omega]
      simp [par, pars, hj, hFd]
    rw [e, axs_at m t F _ hF, zip_range F _ (by rw [hFl, parR_len]) (fun r c => Gf.mul (r.getD t 0) c), hFl]
    congr 1
    apply List.map_congr_left
    intro i hi
    rw [parR_getD _ _ _ (List.mem_range.1 hi)]
  rw [zip_range F _ (by rw [hFl, hrl]) (fun r c => Gf.mul (r.getD t 0) c), hFl]
  show xs ((List.range (bss.length + (sp bss.length + 2))).map _) = _
  rw [xs_range_add]
  have l1 : ((List.range bss.length).map fun i => Gf.mul (((allOf bss m).getD i []).getD t 0) (o.getD i 0)) = (List.range bss.length).map fun i => Gf.mul ((F.getD i []).getD t 0) (o.getD i 0) :=
    List.map_congr_left fun i hi => by rw [y1 i (List.mem_range.1 hi)]
  have l2 : ((List.range (sp bss.length + 2)).map fun j => Gf.mul (((allOf bss m).getD (bss.length + j) []).getD t 0) (o.getD (bss.length + j) 0)) = (List.range (sp bss.length + 2)).map fun j => xs ((List.range bss.length).map fun i => Gf.mul (Gf.mul ((F.getD i []).getD t 0) (parC bss.length j i)) (o.getD (bss.length + j) 0)) :=
    List.map_congr_left fun j hj => by rw [y2 j (List.mem_range.1 hj), mul_xs, List.map_map]; rfl
  have l3 : ((List.range bss.length).map fun i => Gf.mul ((F.getD i []).getD t 0) ((rowOf bss.length id).getD i 0)) = (List.range bss.length).map fun i => Gf.mul ((F.getD i []).getD t 0) (o.getD i 0) ^^^ xs ((List.range (sp bss.length + 2)).map fun j => Gf.mul (Gf.mul ((F.getD i []).getD t 0) (parC bss.length j i)) (o.getD (bss.length + j) 0)) :=
    List.map_congr_left fun i hi => by
      rw [row_getD _ _ _ (List.mem_range.1 hi), hod, Gf.mul_add_right, mul_xs', List.map_map]
      congr 2
      apply List.map_congr_left
      intro j _
      exact (Gf.mul_assoc _ _ _).symm
  rw [l1, l2, l3, xs_map_xor, xs_swap]
end Go.Proofs.Ytdphoegigdpboaa.E
