/-
  The picks are sorted: some order of them.
-/
import Derived.Test.YtdphoegigdpboaaPick
import Derived.Test.YtdphoegigdpboaaSort0
set_option linter.unusedVariables false
set_option linter.unusedSimpArgs false
namespace Go.Proofs.Ytdphoegigdpboaa.E
open Go Go.Proofs Go.Shelf Go.RowKit Go.Lib Go.Sort
set_option maxRecDepth 100000
theorem closure_c (x y : Nat × UInt8) (W : World) : Calls Try.prog 76 #[.agg #[.int .i64 (x.1 : Int), u8v x.2], .agg #[.int .i64 (y.1 : Int), u8v y.2]] W fun e w' => e = .returned (.int .i64 (Lib.compareInt (x.1 : Int) (y.1 : Int))) ∧ ∃ q os', w' = grow (W.drewN q) os' := by
  have hcon := fun W' => Try.cmp_Compare_int (x.1 : Int) (y.1 : Int) W'
  generalize Lib.compareInt (x.1 : Int) (y.1 : Int) = r at hcon ⊢
  generalize (x.1 : Int) = xa at *
  generalize (y.1 : Int) = ya at *
  generalize (x.2.toNat : Int) = xb at *
  generalize (y.2.toNat : Int) = yb at *
  go_enter Try.func76, Try.ntmps76
  go_wp2_with (go_at_call 77; refine (hcon _).mono ?_; rintro e w' ⟨rfl, rfl⟩)
  go_ret
  exact ⟨rfl, 0, _, by rw [alloc_eq_grow, alloc_eq_grow, grow_grow]; rfl⟩
theorem cmpLays_c (blk off size : Nat) (w : World) : CmpLays Try.prog 76 #[] cell2 2 (fun x y => Lib.compareInt (x.1 : Int) (y.1 : Int)) blk off size w :=
  fun _ _ _ _ x y => closure_c x y _
theorem lt_c (x y : Nat × UInt8) : ltOf (fun x y : Nat × UInt8 => Lib.compareInt (x.1 : Int) (y.1 : Int)) x y = decide (x.1 < y.1) := by
  unfold ltOf Lib.compareInt
  by_cases h1 : x.1 < y.1
  · simp [h1]
  · by_cases h2 : y.1 < x.1 <;> simp [h1, h2]
theorem swo_c : SWO (ltOf fun x y : Nat × UInt8 => Lib.compareInt (x.1 : Int) (y.1 : Int)) where
  irrefl x := by rw [lt_c]; simp
  trans x y z h1 h2 := by rw [lt_c] at *; simp at *; omega
  ntrans x y z h1 h2 := by rw [lt_c] at *; simp at *; omega
theorem flat_flatK (ps : List (Nat × UInt8)) : (flatK cell2 2 ps.toArray).toList = flat ps := by
  apply List.ext_getElem?
  intro t
  by_cases ht : t < ps.length * 2
  · have h1 : t / 2 < ps.length := by omega
    obtain ⟨g1, g2⟩ := flat_get ps (t / 2) h1
    rw [Array.getElem?_toList, Array.getElem?_eq_getElem (by simp; omega)]
    simp only [flatK, Array.getElem_map, Array.getElem_range]
    have hp : ps.toArray[t / 2]! = ps[t / 2] := by simp [h1]
    rw [hp]
    rcases (by omega : t % 2 = 0 ∨ t % 2 = 1) with hm | hm
    · have e : 2 * (t / 2) = t := by omega
      rw [e] at g1
      rw [g1, hm]; rfl
    · have e : 2 * (t / 2) + 1 = t := by omega
      rw [e] at g2
      rw [g2, hm]; rfl
  · rw [List.getElem?_eq_none (by simp; omega), List.getElem?_eq_none (by rw [flat_len]; omega)]
theorem sort_ok : SortOK := by
  intro h b cap ps cur hg htake hlen w hw
  subst hw
  have hbs : b < w.heap.size := (Array.getElem?_eq_some_iff.1 hg).1
  have eg : ∀ args w, (callFunc 76 args).run Try.prog w = .ok (.enter 76 args) w := enters_of Try.func76 (by kernel_rfl) rfl
  have hH : HoldsK cell2 2 w b 0 ps.toArray := by
    intro j hj
    have hj' : j < (flatK cell2 2 ps.toArray).toList.length := by simpa using hj
    have hv : (flatK cell2 2 ps.toArray)[j]! = (flat ps)[j]'(by rw [← flat_flatK]; exact hj') := by
      simp only [← flat_flatK]
      rw [getElem!_pos _ j hj, Array.getElem_toList]
    refine ⟨?_, ?_⟩
    · rw [Nat.zero_add, cell_of_row w b j cur _ (0, 0) hg, hv]
      have hjl : j < (flat ps).length := by rw [← flat_flatK]; exact hj'
      have : (flat ps)[j]? = cur.toList[j]? := by rw [← htake, List.getElem?_take, if_pos (by rw [flat_len] at hjl; exact hjl)]
      rw [← Array.getElem?_toList, ← this, List.getElem?_eq_getElem hjl]; rfl
    · simp [World.frozen?, hg]
  have hcon := AnyQ.slices_SortFunc Try.sortCell 2 Try.isAgg92 Try.sizeOf92 cell2 (fun _ => rfl) (fun x v hv => by simp [cell2] at hv; rcases hv with rfl | rfl <;> rfl) (fun x y => Lib.compareInt (x.1 : Int) (y.1 : Int)) swo_c 76 #[] b 0 cap ps.toArray w eg (cmpLays_c b 0 ps.toArray.size w) hH hbs (by simp; omega)
  refine Calls.mono hcon ?_
  rintro e w' ⟨rfl, d', n, os, hp, -, rfl⟩
  have hsz : d'.size = ps.toArray.size := hp.1
  have hperm : d'.toList.Perm ps := by
    have := hp.2.2
    rw [Array.extract_eq_self_of_le (by omega), Array.extract_eq_self_of_le (by omega)] at this
    simpa using this
  have hH2 := holdsK_sortWorldK_c cell2 2 w b 0 ps.toArray d' n os hH hbs hsz
  refine ⟨_, rfl, (sortWorldK cell2 2 w b 0 n d' os).heap, (sortWorldK cell2 2 w b 0 n d' os).drawn, rfl, d'.toList, hperm, ?_, ?_⟩
  · have hfl := flat_flatK d'.toList
    have hcell : ∀ i, i < (flat d'.toList).length → cellH (sortWorldK cell2 2 w b 0 n d' os).heap ⟨b, i, none⟩ = (flat d'.toList)[i]? := by
      intro i hi
      have hi' : i < (flatK cell2 2 d').size := by rw [← hfl] at hi; simpa using hi
      obtain ⟨hc, _⟩ := hH2 i hi'
      rw [Nat.zero_add] at hc
      rw [← hfl, Array.getElem?_toList]
      rw [getElem!_pos _ i hi'] at hc
      rw [Array.getElem?_eq_getElem hi']
      exact hc
    by_cases h0 : (flat d'.toList).length = 0
    · exact .inl (List.eq_nil_of_length_eq_zero h0)
    · cases hb : (sortWorldK cell2 2 w b 0 n d' os).heap[b]? with
      | none =>
        have := hcell 0 (by omega)
        unfold cellH at this
        simp only [hb] at this
        rw [List.getElem?_eq_getElem (by omega)] at this; cases this
      | some o =>
        cases o with
        | cells cs t z =>
          refine .inr ⟨b, 0, cs, t, z, rfl, hb, fun i hi => ?_⟩
          have := hcell i hi
          unfold cellH at this
          simp only [hb] at this
          rw [Nat.zero_add]; exact this
        | _ =>
          have := hcell 0 (by omega)
          unfold cellH at this
          simp only [hb] at this
          rw [List.getElem?_eq_getElem (by omega)] at this; cases this
  · refine ⟨by simp [sortWorldK, grow, putRowK, Sort.ahead], fun k hk hne => ?_⟩
    have hne' : b ≠ k := fun e => hne e.symm
    unfold sortWorldK
    rw [heap_grow_old _ _ (by simpa [putRowK, Sort.ahead] using hk)]
    simp [putRowK, putRow, mapBlock, Sort.ahead, Array.getElem?_modify, hne']
end Go.Proofs.Ytdphoegigdpboaa.E
