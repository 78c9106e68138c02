/-
  Rows of bytes; blocks of one's own, read and written.
-/
import Derived.Test.YtoggdigclbcndaaDoorRun
import Derived.Test.YtoggdigclbcndaaDoorTail
set_option linter.unusedVariables false
set_option linter.unusedSimpArgs false
namespace Go.Proofs.YtoggdigclbcndaaDoor.E
open Go

abbrev u8v (b : UInt8) : Value := .int .u8 (b.toNat : Int)
def bys (l : List UInt8) : List Value := l.map u8v
@[simp] theorem bys_length (l : List UInt8) : (bys l).length = l.length := by simp [bys]
theorem bys_append (l m : List UInt8) : bys (l ++ m) = bys l ++ bys m := by simp [bys]
theorem bys_one (l : List UInt8) : ∀ u ∈ bys l, u.oneCell' = true := by intro u hu; obtain ⟨b, _, rfl⟩ := List.mem_map.1 hu; rfl
theorem bys_get (l : List UInt8) (i : Nat) (hi : i < l.length) : (bys l)[i]'(by simpa using hi) = u8v l[i] := by simp [bys]
theorem bys_set (l : List UInt8) (i : Nat) (b : UInt8) : (bys l).set i (u8v b) = bys (l.set i b) := by simp [bys, List.map_set]
theorem bys_take (l : List UInt8) (n : Nat) : (bys l).take n = bys (l.take n) := by simp [bys, List.map_take]
theorem bys_drop (l : List UInt8) (n : Nat) : (bys l).drop n = bys (l.drop n) := by simp [bys, List.map_drop]
theorem bys_replicate (n : Nat) : bys (List.replicate n 0) = List.replicate n (.int .u8 0) := by simp [bys, u8v]
/-- the byte at i of a row that is read -/
theorem Row.byte {h : Heap} {A : Option Addr} {bs : List UInt8} (r : Row h A (bys bs)) {i : Nat} (hi : i < bs.length) : ∃ a, A = some a ∧ cellH h (a.add i) = some (u8v bs[i]) := by
  obtain ⟨a, ha, hc⟩ := r.cell (i := i) (by simpa using hi)
  exact ⟨a, ha, by rw [hc, bys_get]⟩

theorem Own.low {h : Heap} {base base' e sz nn : Nat} {v : Value} {xs : List Value} (o : Own h base e sz v nn xs) (hb : base' ≤ base) : Own h base' e sz v nn xs := by
  refine ⟨o.1, ?_⟩
  rcases o.2 with o | ⟨g, cap, cur, hv, hg, r⟩
  · exact .inl o
  · exact .inr ⟨g, cap, cur, hv, Nat.le_trans hb hg, r⟩
/-- an element of one's own row: its block, its cell; and what becomes of it -/
theorem Own.at_ {h : Heap} {base e nn : Nat} {v : Value} {xs : List Value} (o : Own h base e 1 v nn xs) {i : Nat} (hi : i < nn) :
    ∃ g cap cs, v = .slice (some ⟨g, 0, none⟩) nn cap ∧ base ≤ g ∧ Blk h g cs e ∧ i < cs.length ∧ cs[i]? = xs[i]? ∧ (∀ u, Own (setB h g (.cells (cs.set i u).toArray e (0, 0))) base e 1 v nn (xs.set i u)) := by
  rcases o.2 with ⟨rfl, rfl⟩ | ⟨g, cap, cur, rfl, hb, hg, hn, hm, hs, ht⟩
  · omega
  · rw [Nat.mul_one] at ht hs
    have hlen : i < cur.toList.length := by rw [Array.length_toList, hs]; omega
    refine ⟨g, cap, cur.toList, rfl, hb, by simpa [Blk] using hg, hlen, ?_, ?_⟩
    · rw [← ht, List.getElem?_take, if_pos hi]
    · intro u
      refine ⟨by simpa using o.1, .inr ⟨g, cap, (cur.toList.set i u).toArray, rfl, hb, ?_, hn, hm, by simpa using hs, ?_⟩⟩
      · exact setB_same _ (Array.getElem?_eq_some_iff.1 hg).1
      · simp only [Nat.mul_one, List.toList_toArray]
        rw [List.take_set, ht]
theorem setB_push_last (h : Heap) (x o : Obj) : setB (h.push x) h.size o = h.push o := by
  unfold setB
  apply Array.ext_getElem?
  intro k
  simp only [Array.getElem?_setIfInBounds, Array.getElem?_push, Array.size_push]
  by_cases hk : h.size = k
  · subst hk; simp
  · rw [if_neg hk, if_neg (fun e => hk e.symm), if_neg (fun e => hk e.symm)]
theorem setB_push_old (h : Heap) (x o : Obj) (k : Nat) (hk : k < h.size) : setB (h.push x) k o = (setB h k o).push x := by
  unfold setB
  apply Array.ext_getElem?
  intro j
  simp only [Array.getElem?_setIfInBounds, Array.getElem?_push, Array.size_push, Array.size_setIfInBounds]
  by_cases hj : k = j
  · subst hj
    rw [if_pos rfl, if_pos (by omega), if_neg (by omega), if_pos rfl, if_pos hk]
  · rw [if_neg hj, if_neg hj]

/-- what was the call's own, and new, was turned alone -/
theorem Own.ext2 {h h1 h2 : Heap} {base e sz nn : Nat} {v : Value} {xs : List Value} (o : Own h1 base e sz v nn xs) (hb : h.size ≤ base) (x : Ext h h1) (m : Mods (fun k => v.ownBlock = some k) h1 h2) : Ext h h2 :=
  Mods.ext x m (fun k hk he => by have := (o.base he).1; omega)
/-- a heap with one block more -/
structure New (h h' : Heap) (o : Obj) : Prop where
  mk :: (eq : h' = h.push o)
theorem New.size {h h' : Heap} {o : Obj} (x : New h h' o) : h'.size = h.size + 1 := by rw [x.eq]; simp
theorem New.ext {h h' : Heap} {o : Obj} (x : New h h' o) : Ext h h' := by rw [x.eq]; exact Mods.push _ _ _
theorem New.at_ {h h' : Heap} {o : Obj} (x : New h h' o) : h'[h.size]? = some o := by rw [x.eq]; exact push_new _ _
/-- a heap with block b turned -/
structure Set_ (h h' : Heap) (b : Nat) (o : Obj) : Prop where
  mk :: (eq : h' = setB h b o)
theorem Set_.size {h h' : Heap} {b : Nat} {o : Obj} (x : Set_ h h' b o) : h'.size = h.size := by rw [x.eq, setB_size]
theorem Set_.mods {h h' : Heap} {b : Nat} {o : Obj} (x : Set_ h h' b o) : Mods (fun k => k = b) h h' := by rw [x.eq]; exact setB_mods _ _ _
theorem Set_.at_ {h h' : Heap} {b : Nat} {o : Obj} (x : Set_ h h' b o) (hb : b < h.size) : h'[b]? = some o := by rw [x.eq]; exact setB_same _ hb
theorem Set_.other {h h' : Heap} {b k : Nat} {o : Obj} (x : Set_ h h' b o) (hk : k ≠ b) : h'[k]? = h[k]? := by rw [x.eq]; exact setB_other _ hk
section
variable {P : Program} {w0 : World} {n : Nat} {σ : Slots} {h : Heap} {ty : TypeId}
theorem D.al {t : TypeId} {z : Value} [hz : ZeroT P t z] {cs : List Value} (hc : z.cells = cs.toArray) : D P w0 n σ h (.alloc t) ty (fun v h' => v = .pointer (some ⟨h.size, 0, none⟩) ∧ New h h' (.cells cs.toArray t)) :=
  D.alloc.post fun v h' ⟨h1, h2⟩ => ⟨h1, ⟨by rw [h2, hc]⟩⟩
theorem D.bx {t : TypeId} {x : Operand} {v : Value} {cs : List Value} (hx : ev n σ x = v) (hc : v.cells = cs.toArray) : D P w0 n σ h (.box t x) ty (fun u h' => u = .pointer (some ⟨h.size, 0, none⟩) ∧ New h h' (.cells cs.toArray t)) :=
  (D.box hx).post fun v h' ⟨h1, h2⟩ => ⟨h1, ⟨by rw [h2, hc]⟩⟩
theorem D.st {t : TypeId} {x y : Operand} {b o : Nat} {v : Value} {cs : List Value} {e : TypeId} [ht : FlatT P t] {by_ : Nat} [hi : InfoT P t 1 by_] (hx : ev n σ x = .pointer (some ⟨b, o, none⟩)) (hy : ev n σ y = v) (hv : v.oneCell' = true)
    (hb : Blk h b cs e) (ho : o < cs.length) : D P w0 n σ h (.store t x y) ty (fun u h' => Set_ h h' b (.cells (cs.set o v).toArray e (0, 0))) :=
  (D.store hx hy hv hb ho).post fun _ _ ⟨_, h2⟩ => ⟨h2⟩
theorem D.sta {t sz by_ : Nat} {x y : Operand} {b : Nat} {vs cs : List Value} {e : TypeId} [hi : InfoT P t sz by_] (hx : ev n σ x = .pointer (some ⟨b, 0, none⟩)) (hy : ev n σ y = .agg vs.toArray) (hl : vs.length = sz) (h1 : ∀ v ∈ vs, v.oneCell' = true)
    (hb : Blk h b cs e) (hc : cs.length = sz) : D P w0 n σ h (.store t x y) ty (fun u h' => Set_ h h' b (.cells vs.toArray e (0, 0))) :=
  (D.storea hx hy hl h1 hb hc).post fun _ _ ⟨_, h2⟩ => ⟨h2⟩
theorem D.mk' {t e by_ : Nat} {x y : Operand} {k k' : IntKind} {l : Nat} {z : Value} [ht : SliceT P t e] [hi : InfoT P e 1 by_] [hz : ZeroT P e z] (hx : ev n σ x = .int k (l : Int)) (hy : ev n σ y = .int k' (l : Int)) (hz1 : z.cells = #[z]) (hb : by_ * l ≤ 281474976710656) (hl : l ≤ 281474976710656) :
    D P w0 n σ h (.makeSlice t x y) ty (fun v h' => v = .slice (some ⟨h.size, 0, none⟩) l l ∧ New h h' (.cells (List.replicate l z).toArray e)) :=
  (D.make hx hy hz1 hb hl).post fun _ _ ⟨h1, h2⟩ => ⟨h1, ⟨h2⟩⟩
theorem D.bs0 {t e sz by_ : Nat} [ht : SliceT P t e] [hi : InfoT P e sz by_] : D P w0 n σ h (.buildSlice t 0 #[]) ty (fun v h' => v = .slice (some ⟨h.size, 0, none⟩) 0 0 ∧ New h h' (.cells ([] : List Value).toArray e)) :=
  D.bslice0.post fun _ _ ⟨h1, h2⟩ => ⟨h1, ⟨h2⟩⟩
theorem D.bs1 {t e by_ : Nat} {x : Operand} {v z : Value} [ht : SliceT P t e] [hi : InfoT P e 1 by_] [hz : ZeroT P e z] (hx : ev n σ x = v) (hv : v.oneCell' = true) (hz1 : z.cells = #[z]) :
    D P w0 n σ h (.buildSlice t 1 #[(0, x)]) ty (fun u h' => u = .slice (some ⟨h.size, 0, none⟩) 1 1 ∧ New h h' (.cells [v].toArray e)) :=
  (D.bslice1 hx hv hz1).post fun _ _ ⟨h1, h2⟩ => ⟨h1, ⟨h2⟩⟩
theorem D.copy {t e sz by_ g l cap mm c k : Nat} {x y : Operand} {A : Option Addr} {cs vs : List Value} {e' : TypeId} [ht : SliceT P t e] [hi : InfoT P e sz by_] (hx : ev n σ x = .slice (some ⟨g, 0, none⟩) l cap) (hy : ev n σ y = .slice A mm c)
    (hb : Blk h g cs e') (hr : Row h A vs) (hl : vs.length = mm * sz) (h1 : ∀ u ∈ vs, u.oneCell' = true) (hk : min mm l = k) (hc : k * sz ≤ cs.length) :
    D P w0 n σ h (.call { callee := .builtin .copy, args := #[x, y], argTypes := #[t, t] }) ty (fun v h' => v = .int .i64 (k : Int) ∧ Set_ h h' g (.cells (vs.take (k * sz) ++ cs.drop (k * sz)).toArray e' (0, 0))) :=
  .intro fun w op hw hop _ => by
    subst hw hk
    have hle : min mm l * sz ≤ vs.length := by rw [hl]; exact Nat.mul_le_mul_right _ (Nat.min_le_left _ _)
    have hlen : (vs.take (min mm l * sz)).length = min mm l * sz := by rw [List.length_take]; omega
    have hf : (Builtin.firstCells sz (min mm l) (.slice A mm c)).run P w = .ok (vs.take (min mm l * sz)).toArray w := by
      cases A with
      | none =>
        have : vs = [] := by
          rcases hr with hr | ⟨_, _, _, _, _, hA, _⟩
          · exact hr
          · cases hA
        subst this
        simp [Builtin.firstCells]
      | some a =>
        have := run_loadCellsFrom (P := P) w a (vs.take (min mm l * sz)) 0 #[] (fun j hj => by
          rw [hlen] at hj
          obtain ⟨a', ha', hc'⟩ := hr.cell (i := j) (by omega)
          cases ha'
          rw [Nat.zero_add, List.getElem?_take, if_pos hj, List.getElem?_eq_getElem (by omega)]
          exact hc')
        rw [hlen] at this
        simpa [Builtin.firstCells, loadCells] using this
    have hs := run_storeCells (P := P) w g e' (vs.take (min mm l * sz)) 0 cs (fun v hv => h1 v (List.mem_of_mem_take hv)) hb (by omega)
    rw [hlen] at hs
    simp only [List.take_zero, List.nil_append, Nat.zero_add] at hs
    refine ⟨_, _, w.drawn, .inl ?_, rfl, ⟨rfl⟩⟩
    have hmin : Nat.min mm l = min mm l := rfl
    simp [execOp, hop, hx, hy, resolve, invoke, builtin, Builtin.copy_, run_underlying ht.out, Builtin.lenOf, run_sizeOf, hmin, hf, hs, goInt]
theorem New.empty {h h' : Heap} {base e sz : Nat} (x : New h h' (.cells ([] : List Value).toArray e)) (hb : base ≤ h.size) : Own h' base e sz (.slice (some ⟨h.size, 0, none⟩) 0 0) 0 [] := by
  rw [x.eq]; exact own_empty hb
theorem New.made {h h' : Heap} {base e l : Nat} {cs : List Value} (x : New h h' (.cells cs.toArray e)) (hb : base ≤ h.size) (hl : cs.length = l) (hm : l ≤ maxLen) : Own h' base e 1 (.slice (some ⟨h.size, 0, none⟩) l l) l cs := by
  rw [x.eq]; exact own_made hb hl hm
end

section
variable {P : Program} {w0 : World} {n : Nat} {σ : Slots} {h : Heap}
theorem results_cell {fn : Func} {t a : Nat} (hr : fn.results = #[.cell t a]) (tmps : Array Value) (w : World) {ad : Addr} {v : Value} (ht : tmps.getD t undef = .pointer (some ad)) (hl : (loadVar a ad).run P w = .ok v w) :
    (results fn tmps).run P w = .ok v w := by
  simp only [results, hr]
  have ht' : tmps[t]?.getD undef = .pointer (some ad) := by rw [← ht]; simp
  simp [asAddr, ht', hl]
theorem retA {fn : Func} {t a sz by_ : Nat} {S : Value → Heap → Prop} {ad : Addr} {vs : List Value} [hg : AggT P a] [hi : InfoT P a sz by_] (hr : fn.results = #[.cell t a]) (ht : ev n σ (.tmp t) = .pointer (some ad)) (hl : vs.length = sz) (hc : ∀ i, i < vs.length → cellH h (ad.add i) = vs[i]?) (hS : S (.agg vs.toArray) h) : leave P n fn S .ret σ h := by
  unfold leave
  refine ⟨_, fun w hw => ?_, hS⟩
  subst hw
  refine results_cell hr _ w (by rw [tmps_getD]; exact ht) ?_
  have := run_loadCellsFrom (P := P) w ad vs 0 #[] (fun j hj => by rw [Nat.zero_add]; exact hc j hj)
  rw [hl] at this
  simp [loadVar, hg.out, run_sizeOf, loadCells, this]
end
end Go.Proofs.YtoggdigclbcndaaDoor.E
