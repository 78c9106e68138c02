/-
  What comes in, as the calculus reads it: slices of bytes, of numbers of 32 bits, of slices of bytes. And what a row asks behind the call.
-/
import Derived.Test.YtdphoegigdpboaaEnc3
import Derived.OpenShut
import Derived.Below
import Derived.Deep.Matrix
set_option linter.unusedVariables false
set_option linter.unusedSimpArgs false
namespace Go.Proofs.Ytdphoegigdpboaa.E
open Go Go.Proofs Go.ChangeShapes Go.WideShapes Go.RowKit Go.Deep
theorem row_cells {w : World} {a : Addr} {vs : List Value} (h : ∀ i, i < vs.length → w.cell? (a.add i) = vs[i]?) : RowP (fun _ => True) w.heap (some a) vs := by
  by_cases h0 : vs.length = 0
  · exact .inl (List.eq_nil_of_length_eq_zero h0)
  · have h1 := h 0 (by omega)
    rw [List.getElem?_eq_getElem (by omega)] at h1
    have hs := World.cell?_spot h1
    obtain ⟨b, o, s⟩ := a
    have hsp : s = none := by simpa [Addr.add] using hs
    subst hsp
    rw [add_lit, Nat.add_zero] at h1
    have h2 : cellH w.heap ⟨b, o, none⟩ = some (vs[0]'(by omega)) := h1
    unfold cellH at h2
    cases hb : w.heap[b]? with
    | none => simp only [hb] at h2; cases h2
    | some ob =>
      cases ob with
      | cells cs t z =>
        refine .inr ⟨b, o, cs, t, z, rfl, trivial, hb, fun i hi => ?_⟩
        have h3 : cellH w.heap ((⟨b, o, none⟩ : Addr).add i) = vs[i]? := h i hi
        rw [add_lit] at h3
        rw [← h3]; simp [cellH, hb]
      | _ => simp only [hb] at h2; cases h2
def u8s (zs : List Int) : List UInt8 := zs.map fun n => UInt8.ofNat n.toNat
def u32s (zs : List Int) : List UInt32 := zs.map fun n => UInt32.ofNat n.toNat
theorem bys_u8s {zs : List Int} (h : ∀ n ∈ zs, (Lit.int .u8 n).wf = true) : bys (u8s zs) = zs.map fun n => .int .u8 n := by
  simp only [bys, u8s, List.map_map]
  apply List.map_congr_left
  intro n hn
  have := bounds_u8 (h n hn)
  simp only [Function.comp, u8v]
  congr 1
  rw [UInt8.toNat_ofNat']
  omega
theorem ids_u32s {zs : List Int} (h : ∀ n ∈ zs, (Lit.int .u32 n).wf = true) : ids32 (u32s zs) = zs.map fun n => .int .u32 n := by
  simp only [ids32, u32s, List.map_map]
  apply List.map_congr_left
  intro n hn
  have := bounds_u32 (h n hn)
  simp only [Function.comp, u32v]
  congr 1
  rw [UInt32.toNat_ofNat']
  omega
theorem row_ints {w : World} {a : Addr} {k : IntKind} {zs : List Int} {l : Nat} (hl : l ≤ zs.length) (h : ∀ i, i < zs.length → w.cell? (a.add i) = some (.int k (zs.getD i 0))) : RowP (fun _ => True) w.heap (some a) ((zs.take l).map fun n => .int k n) := by
  refine row_cells fun i hi => ?_
  have hi' : i < l := by simp at hi; omega
  rw [h i (by omega)]
  have : i < zs.length := by omega
  simp [List.getElem?_take, hi', List.getElem?_eq_getElem this, List.getD_eq_getElem?_getD]
section
variable {H : Type} {enc : TypeId × Value → H} {P : Program} {w : World} {base : Nat} {held : Bool}
/-- a slice of bytes that came in -/
theorem open_bytes {t e : TypeId} {fuel : Nat} {A : Option Addr} {l c : Nat} {x : DataW H × List MemPlace} (ht : P.underlying t = some (.slice e)) (he : P.underlying e = some (.int .u8)) (ce : P.cellsOf e = 1)
    (hf : DataW.trod enc P w base (fun _ => true) held fuel t (.slice A l c : Value).cells.toList = some x) : ∃ bs : List UInt8, l = bs.length ∧ l ≤ c ∧ c ≤ maxLen ∧ RowP (fun _ => True) w.heap A (bys bs) := by
  rcases open_ints ht he ce hf with ⟨hcs, _⟩ | ⟨a, l', c', zs, hcs, _, hl, hm, hz, _, hcell, hwz⟩
  · simp [Value.cells] at hcs
    obtain ⟨rfl, rfl, rfl⟩ := hcs
    exact ⟨[], rfl, by omega, by simp [maxLen], .inl rfl⟩
  · simp [Value.cells] at hcs
    obtain ⟨rfl, rfl, rfl⟩ := hcs
    have hz' : zs.length = c := by simpa using hz
    refine ⟨u8s (zs.take l), by simp [u8s]; omega, hl, hm, ?_⟩
    rw [bys_u8s (fun n hn => hwz n (List.mem_of_mem_take hn))]
    exact row_ints (by omega) hcell
theorem open_u32s {t e : TypeId} {fuel : Nat} {A : Option Addr} {l c : Nat} {x : DataW H × List MemPlace} (ht : P.underlying t = some (.slice e)) (he : P.underlying e = some (.int .u32)) (ce : P.cellsOf e = 1)
    (hf : DataW.trod enc P w base (fun _ => true) held fuel t (.slice A l c : Value).cells.toList = some x) : ∃ bs : List UInt32, l = bs.length ∧ l ≤ c ∧ c ≤ maxLen ∧ RowP (fun _ => True) w.heap A (ids32 bs) := by
  rcases open_ints ht he ce hf with ⟨hcs, _⟩ | ⟨a, l', c', zs, hcs, _, hl, hm, hz, _, hcell, hwz⟩
  · simp [Value.cells] at hcs
    obtain ⟨rfl, rfl, rfl⟩ := hcs
    exact ⟨[], rfl, by omega, by simp [maxLen], .inl rfl⟩
  · simp [Value.cells] at hcs
    obtain ⟨rfl, rfl, rfl⟩ := hcs
    have hz' : zs.length = c := by simpa using hz
    refine ⟨u32s (zs.take l), by simp [u32s]; omega, hl, hm, ?_⟩
    rw [ids_u32s (fun n hn => hwz n (List.mem_of_mem_take hn))]
    exact row_ints (by omega) hcell
theorem open_bss {t e q : TypeId} {fuel : Nat} {A : Option Addr} {l c : Nat} {x : DataW H × List MemPlace} (ht : P.underlying t = some (.slice e)) (he : P.underlying e = some (.slice q)) (hq : P.underlying q = some (.int .u8)) (ce : P.cellsOf e = 1) (cq : P.cellsOf q = 1)
    (hf : DataW.trod enc P w base (fun _ => true) held fuel t (.slice A l c : Value).cells.toList = some x) : ∃ bss : List (List UInt8), l = bss.length ∧ l ≤ c ∧ c ≤ maxLen ∧ Bss (fun _ => True) w.heap A bss := by
  rcases open_int_rows ht he hq ce cq hf with ⟨hcs, _⟩ | ⟨a, l', c', B, L, C, Z, hcs, _, hl, hm, _, hcell⟩
  · simp [Value.cells] at hcs
    obtain ⟨rfl, rfl, rfl⟩ := hcs
    exact ⟨[], rfl, by omega, by simp [maxLen], [], .inl rfl, All2.nil _⟩
  · simp [Value.cells] at hcs
    obtain ⟨rfl, rfl, rfl⟩ := hcs
    refine ⟨(List.range l).map fun r => u8s ((Z r).take (L r)), by simp, hl, hm, (List.range l).map fun r => .slice (B r) (L r) (C r), ?_, by simp, ?_⟩
    · refine row_cells fun i hi => ?_
      have hi' : i < l := by simpa using hi
      rw [(hcell i (by omega)).1]; simp [hi']
    · intro i v x hv hx
      have hi : i < l := by have := (List.getElem?_eq_some_iff.1 hv).1; simpa using this
      simp [hi] at hv hx
      subst hv hx
      obtain ⟨_, h1, h2, h3, h4, h5, h6⟩ := hcell i (by omega)
      have hlen : (u8s ((Z i).take (L i))).length = L i := by simp [u8s]; omega
      refine ⟨B i, C i, by rw [hlen], by rw [hlen]; exact h1, ?_⟩
      rw [bys_u8s (fun n hn => h4 n (List.mem_of_mem_take hn))]
      cases hB : B i with
      | none =>
        have hc0 := h5 hB
        have : (Z i).take (L i) = [] := List.eq_nil_of_length_eq_zero (by simp; omega)
        rw [this]; exact .inl rfl
      | some a' => exact row_ints (by omega) (fun j hj => (h6 a' hB).2 j (by omega))
end
theorem below_ext {w : World} {h' : Heap} {d' : Nat} (x : Ext w.heap h') : Below w.heap.size w (wld w h' d') := ⟨rfl, rfl, rfl, x.size, fun k hk => x.block k hk id⟩
/-- a law's walk, as its row asks for it -/
theorem walk_of {P : Program} {f : FuncId} {args : List Value} {w : World} (hr : Ret P f args w.heap (fun v h' => v = .bool true ∧ Ext w.heap h')) : Calls P f args.toArray w fun e w' => e = .returned (.bool true) ∧ Below w.heap.size w w' :=
  (hr w rfl).mono fun e w' ⟨v, he, h', d', hw, hv, hx⟩ => by subst hv; subst hw; exact ⟨he, below_ext hx⟩
end Go.Proofs.Ytdphoegigdpboaa.E
