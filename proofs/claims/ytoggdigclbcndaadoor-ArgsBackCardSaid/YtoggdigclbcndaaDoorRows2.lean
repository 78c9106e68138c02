/-
  Rows of rows: read; and built by append.
-/
import Derived.Test.YtoggdigclbcndaaDoorMem
set_option linter.unusedVariables false
set_option linter.unusedSimpArgs false
namespace Go.Proofs.YtoggdigclbcndaaDoor.E
open Go

/-- a row that is read, in a block that p lets -/
def RowP (p : Nat → Prop) (h : Heap) (A : Option Addr) (vs : List Value) : Prop :=
  vs = [] ∨ ∃ b o cs t z, A = some ⟨b, o, none⟩ ∧ p b ∧ h[b]? = some (.cells cs t z) ∧ ∀ i, i < vs.length → cs[o + i]? = vs[i]?
theorem RowP.row {p : Nat → Prop} {h : Heap} {A : Option Addr} {vs : List Value} (r : RowP p h A vs) : Row h A vs := by
  rcases r with r | ⟨b, o, cs, t, z, hA, _, hb, hc⟩
  · exact .inl r
  · exact .inr ⟨b, o, cs, t, z, hA, hb, hc⟩
theorem RowP.mods {p S : Nat → Prop} {h h' : Heap} {A : Option Addr} {vs : List Value} (r : RowP p h A vs) (m : Mods S h h') (hS : ∀ b, b < h.size → p b → ¬ S b) : RowP p h' A vs := by
  rcases r with r | ⟨b, o, cs, t, z, hA, hp, hb, hc⟩
  · exact .inl r
  · exact .inr ⟨b, o, cs, t, z, hA, hp, m.at hb (hS b (Array.getElem?_eq_some_iff.1 hb).1 hp), hc⟩
theorem RowP.ext {p : Nat → Prop} {h h' : Heap} {A : Option Addr} {vs : List Value} (r : RowP p h A vs) (x : Ext h h') : RowP p h' A vs := r.mods x (fun _ _ _ => id)
theorem RowP.mono {p q : Nat → Prop} {h : Heap} {A : Option Addr} {vs : List Value} (r : RowP p h A vs) (hpq : ∀ b, b < h.size → p b → q b) : RowP q h A vs := by
  rcases r with r | ⟨b, o, cs, t, z, hA, hp, hb, hc⟩
  · exact .inl r
  · exact .inr ⟨b, o, cs, t, z, hA, hpq b (Array.getElem?_eq_some_iff.1 hb).1 hp, hb, hc⟩
theorem Own.rowp {h : Heap} {base e sz nn : Nat} {v : Value} {xs : List Value} (o : Own h base e sz v nn xs) : ∃ A c, v = .slice A nn c ∧ nn ≤ c ∧ c ≤ maxLen ∧ RowP (fun b => v.ownBlock = some b) h A xs := by
  rcases o.2 with ⟨rfl, rfl⟩ | ⟨g, cap, cur, rfl, hb, hg, hn, hm, hs, ht⟩
  · have : xs = [] := List.eq_nil_of_length_eq_zero (by simpa using o.1)
    subst this
    exact ⟨none, 0, rfl, Nat.le_refl _, by simp, .inl rfl⟩
  · refine ⟨_, cap, rfl, hn, hm, .inr ⟨g, 0, cur, e, _, rfl, rfl, hg, fun i hi => ?_⟩⟩
    rw [← ht, List.getElem?_take, if_pos (by rw [o.1] at hi; exact hi)]
    simp
theorem Row.rowp {h : Heap} {A : Option Addr} {vs : List Value} (r : Row h A vs) : RowP (fun b => b < h.size) h A vs := by
  rcases r with r | ⟨b, o, cs, t, z, hA, hb, hc⟩
  · exact .inl r
  · exact .inr ⟨b, o, cs, t, z, hA, (Array.getElem?_eq_some_iff.1 hb).1, hb, hc⟩

/-- a slice of bytes, in a block that p lets -/
def BsP (p : Nat → Prop) (h : Heap) (v : Value) (bs : List UInt8) : Prop := ∃ A c, v = .slice A bs.length c ∧ bs.length ≤ c ∧ RowP p h A (bys bs)
theorem BsP.mods {p S : Nat → Prop} {h h' : Heap} {v : Value} {bs : List UInt8} (r : BsP p h v bs) (m : Mods S h h') (hS : ∀ b, b < h.size → p b → ¬ S b) : BsP p h' v bs :=
  let ⟨A, c, hv, hc, hr⟩ := r; ⟨A, c, hv, hc, hr.mods m hS⟩
theorem BsP.ext {p : Nat → Prop} {h h' : Heap} {v : Value} {bs : List UInt8} (r : BsP p h v bs) (x : Ext h h') : BsP p h' v bs := r.mods x (fun _ _ _ => id)
theorem BsP.mono {p q : Nat → Prop} {h : Heap} {v : Value} {bs : List UInt8} (r : BsP p h v bs) (hpq : ∀ b, b < h.size → p b → q b) : BsP q h v bs :=
  let ⟨A, c, hv, hc, hr⟩ := r; ⟨A, c, hv, hc, hr.mono hpq⟩
theorem Own.bsp {h : Heap} {base e : Nat} {v : Value} {bs : List UInt8} {nn : Nat} (o : Own h base e 1 v nn (bys bs)) : BsP (fun b => v.ownBlock = some b) h v bs := by
  have hl : bs.length = nn := by have := o.len; simpa using this
  subst hl
  obtain ⟨A, c, hv, hc, _, hr⟩ := o.rowp
  exact ⟨A, c, hv, hc, hr⟩
theorem BsP.one {p : Nat → Prop} {h : Heap} {v : Value} {bs : List UInt8} (r : BsP p h v bs) : v.oneCell' = true := by
  obtain ⟨A, c, rfl, _⟩ := r; rfl

/-- elements, one by one -/
def All2 {α : Type} (R : Value → α → Prop) (vs : List Value) (xs : List α) : Prop := vs.length = xs.length ∧ ∀ (i : Nat) v x, vs[i]? = some v → xs[i]? = some x → R v x
theorem All2.nil {α : Type} (R : Value → α → Prop) : All2 R [] [] := ⟨rfl, fun _ _ _ h => by simp at h⟩
theorem All2.imp {α : Type} {R R' : Value → α → Prop} {vs : List Value} {xs : List α} (a : All2 R vs xs) (hR : ∀ v x, R v x → R' v x) : All2 R' vs xs := ⟨a.1, fun i v x h1 h2 => hR _ _ (a.2 i v x h1 h2)⟩
theorem All2.snoc {α : Type} {R : Value → α → Prop} {vs : List Value} {xs : List α} (a : All2 R vs xs) {v : Value} {x : α} (hvx : R v x) : All2 R (vs ++ [v]) (xs ++ [x]) := by
  refine ⟨by simp [a.1], fun i u y hu hy => ?_⟩
  by_cases hi : i < vs.length
  · rw [List.getElem?_append_left hi] at hu
    rw [List.getElem?_append_left (by rw [← a.1]; exact hi)] at hy
    exact a.2 i u y hu hy
  · rw [List.getElem?_append_right (by omega)] at hu
    rw [List.getElem?_append_right (by rw [← a.1]; omega), ← a.1] at hy
    cases hk : i - vs.length with
    | zero => rw [hk] at hu hy; simp at hu hy; subst hu hy; exact hvx
    | succ k => rw [hk] at hu; simp at hu
theorem All2.get {α : Type} {R : Value → α → Prop} {vs : List Value} {xs : List α} (a : All2 R vs xs) {i : Nat} (hi : i < xs.length) : ∃ v, vs[i]? = some v ∧ R v xs[i] := by
  have h1 : i < vs.length := by rw [a.1]; exact hi
  exact ⟨vs[i], List.getElem?_eq_getElem h1, a.2 i _ _ (List.getElem?_eq_getElem h1) (List.getElem?_eq_getElem hi)⟩
theorem All2.set {α : Type} {R : Value → α → Prop} {vs : List Value} {xs : List α} (a : All2 R vs xs) {v : Value} {x : α} {i : Nat} (hvx : R v x) : All2 R (vs.set i v) (xs.set i x) := by
  refine ⟨by simp [a.1], fun j u y hu hy => ?_⟩
  rw [List.getElem?_set] at hu hy
  by_cases hij : i = j
  · subst hij
    rw [if_pos rfl] at hu hy
    split at hu
    · rw [if_pos (by rw [← a.1]; assumption)] at hy
      cases hu; cases hy; exact hvx
    · cases hu
  · rw [if_neg hij] at hu hy
    exact a.2 j u y hu hy
/-- a slice of slices of bytes that is read -/
def Bss (p : Nat → Prop) (h : Heap) (A : Option Addr) (bss : List (List UInt8)) : Prop := ∃ vs, RowP p h A vs ∧ All2 (BsP p h) vs bss
theorem Bss.mods {p S : Nat → Prop} {h h' : Heap} {A : Option Addr} {bss : List (List UInt8)} (r : Bss p h A bss) (m : Mods S h h') (hS : ∀ b, b < h.size → p b → ¬ S b) : Bss p h' A bss :=
  let ⟨vs, hr, ha⟩ := r; ⟨vs, hr.mods m hS, ha.imp fun _ _ hb => hb.mods m hS⟩
theorem Bss.ext {p : Nat → Prop} {h h' : Heap} {A : Option Addr} {bss : List (List UInt8)} (r : Bss p h A bss) (x : Ext h h') : Bss p h' A bss := r.mods x (fun _ _ _ => id)
theorem Bss.at_ {p : Nat → Prop} {h : Heap} {A : Option Addr} {bss : List (List UInt8)} (r : Bss p h A bss) {i : Nat} (hi : i < bss.length) :
    ∃ a Ai ci, A = some a ∧ cellH h (a.add i) = some (.slice Ai bss[i].length ci) ∧ bss[i].length ≤ ci ∧ RowP p h Ai (bys bss[i]) := by
  obtain ⟨vs, hr, ha⟩ := r
  obtain ⟨v, hv, Ai, ci, rfl, hc, hri⟩ := ha.get hi
  have hi' : i < vs.length := (List.getElem?_eq_some_iff.1 hv).1
  obtain ⟨a, hA, hcell⟩ := hr.row.cell hi'
  refine ⟨a, Ai, ci, hA, ?_, hc, hri⟩
  rw [hcell, ← hv, List.getElem?_eq_getElem hi']
/-- one's own row of rows of bytes: none of the inner ones lies in its own block -/
def OB (h : Heap) (base e : Nat) (v : Value) (bss : List (List UInt8)) : Prop := ∃ vs, Own h base e 1 v bss.length vs ∧ All2 (BsP (fun b => v.ownBlock ≠ some b ∧ base ≤ b) h) vs bss
theorem OB.nil (h : Heap) (base e : Nat) : OB h base e (.slice none 0 0) [] := ⟨[], Own.nil _ _ _ _, All2.nil _⟩
theorem OB.ext {h h' : Heap} {base e : Nat} {v : Value} {bss : List (List UInt8)} (o : OB h base e v bss) (x : Ext h h') : OB h' base e v bss :=
  let ⟨vs, ho, ha⟩ := o; ⟨vs, ho.ext x, ha.imp fun _ _ hb => hb.ext x⟩
theorem OB.base {h : Heap} {base e : Nat} {v : Value} {bss : List (List UInt8)} (o : OB h base e v bss) {k : Nat} (hk : v.ownBlock = some k) : base ≤ k ∧ k < h.size := let ⟨_, ho, _⟩ := o; ho.base hk
/-- appended to -/
theorem OB.push {h h' : Heap} {base e : Nat} {v v' u : Value} {vs : List Value} {bss : List (List UInt8)} {bs : List UInt8}
    (ha : All2 (BsP (fun b => v.ownBlock ≠ some b ∧ base ≤ b) h) vs bss) (hu : BsP (fun b => v.ownBlock ≠ some b ∧ base ≤ b) h u bs)
    (ho : Own h' base e 1 v' (bss.length + 1) (vs ++ [u])) (hm : Mods (fun k => v.ownBlock = some k) h h') (hv : v'.ownBlock = v.ownBlock ∨ v'.ownBlock = some h.size) : OB h' base e v' (bss ++ [bs]) := by
  refine ⟨vs ++ [u], by simpa using ho, ?_⟩
  have key : ∀ w x, BsP (fun b => v.ownBlock ≠ some b ∧ base ≤ b) h w x → BsP (fun b => v'.ownBlock ≠ some b ∧ base ≤ b) h' w x := by
    rintro w x ⟨A, c, hw, hc, hr⟩
    refine ⟨A, c, hw, hc, ?_⟩
    have h2 : RowP (fun b => (v.ownBlock ≠ some b ∧ base ≤ b) ∧ b < h.size) h A (bys x) := hr.mono (fun b hb hp => ⟨hp, hb⟩)
    refine (h2.mods hm (fun b _ hp => hp.1.1)).mono ?_
    rintro b _ ⟨hp, hb⟩
    rcases hv with hv | hv
    · rw [hv]; exact hp
    · rw [hv]; exact ⟨by intro he; injection he with he; omega, hp.2⟩
  exact (ha.imp key).snoc (key _ _ hu)
theorem OB.bss {h : Heap} {base e : Nat} {v : Value} {bss : List (List UInt8)} (o : OB h base e v bss) : ∃ A c, v = .slice A bss.length c ∧ bss.length ≤ c ∧ c ≤ maxLen ∧ Bss (fun _ => True) h A bss := by
  obtain ⟨vs, ho, ha⟩ := o
  obtain ⟨A, c, hv, hc, hm, hr⟩ := ho.rowp
  exact ⟨A, c, hv, hc, hm, vs, hr.mono (fun _ _ _ => trivial), ha.imp fun _ _ hb => hb.mono (fun _ _ _ => trivial)⟩
section
variable {P : Program} {w0 : World} {n : Nat} {σ : Slots} {h : Heap} {ty : TypeId}
/-- append(s, make([]T, m)..): the call's own row, with noughts behind -/
theorem D.appendz {t t' e by_ base nn m : Nat} {s x : Operand} {v z : Value} {xs : List Value} {kk : IntKind} [ht : SliceT P t e] [ht' : IntT P t' kk] [hi : InfoT P e 1 by_] [hz : ZeroT P e z]
    (hs : ev n σ s = v) (hx : ev n σ x = .int .i64 (m : Int)) (hown : Own h base e 1 v nn xs) (hz1 : z.cells = #[z]) (hz2 : z.oneCell' = true) (hby : 0 < by_) (hb : (nn + m) * by_ ≤ 140737488355328) (hbase : base ≤ h.size) :
    D P w0 n σ h (.call { callee := .builtin .append, args := #[s, x], argTypes := #[t, t'] }) ty (fun v' h' => Own h' base e 1 v' (nn + m) (xs ++ List.replicate m z) ∧ Mods (fun k => v.ownBlock = some k) h h' ∧ (v'.ownBlock = v.ownBlock ∨ v'.ownBlock = some h.size)) :=
  .intro fun w op hw hop _ => by
    subst hw
    obtain ⟨i, hi', hh⟩ := Option.map_eq_some_iff.1 hi.out
    simp only [Prod.mk.injEq] at hh
    obtain ⟨hh1, hh2⟩ := hh
    have hz' : i.zero = some z := by have := hz.out; rw [hi'] at this; simpa using this
    have hle : nn + m ≤ (nn + m) * by_ := Nat.le_mul_of_pos_right _ hby
    have hmb : m * by_ ≤ (nn + m) * by_ := Nat.mul_le_mul_right _ (by omega)
    have hw64 : IntKind.i64.wrap (m : Int) = (m : Int) := Go.IntWalk.i64_in _ (by omega)
    have hn0 : ¬ ((m : Int) < 0) := by omega
    have hw0 : IntKind.i64.wrap 0 = 0 := rfl
    have hai : asInt (Value.int .i64 (m : Int)) = pure (m : Int) := rfl
    have hai0 : asInt (Value.int .i64 0) = pure 0 := rfl
    have hn1 : ¬ ((281474976710656 : Int) < (m : Int) * (by_ : Int)) := by
      rw [← Int.natCast_mul]; omega
    have hnews : (if m = 0 then (#[] : Array Value) else Builtin.zeroCells #[z] m) = (List.replicate m z).toArray := by
      split
      · rename_i h0; subst h0; rfl
      · apply Array.ext
        · simp [Builtin.zeroCells]
        · intro i h1 h2; simp [Builtin.zeroCells, Nat.mod_one]
    have hown' : w.ownsRow base e 1 v nn xs := hown
    have hlen : (xs ++ List.replicate m z).length = (nn + m) * 1 := by rw [List.length_append, hown.1]; simp
    have grown : ∀ (old : Nat), old < nn + m → ∀ (row : Option Nat),
        (w.drew.alloc (.cells (xs.toArray ++ (List.replicate m z).toArray ++ Builtin.zeroCells z.cells (grownCap w (nn + m) old e - (nn + m))) e)).ownsRow base e 1
          (.slice (some ⟨w.heap.size, 0, none⟩) (nn + m) (grownCap w (nn + m) old e)) (nn + m) (xs ++ List.replicate m z) ∧
        w.grownBy (w.drew.alloc (.cells (xs.toArray ++ (List.replicate m z).toArray ++ Builtin.zeroCells z.cells (grownCap w (nn + m) old e - (nn + m))) e)) row := by
      intro old ho row
      have hge := grownCap_ge w (nn + m) old e
      have hcm : grownCap w (nn + m) old e ≤ maxLen := grownCap_le_maxLen w (nn + m) old e (by simp only [maxLen]; omega)
      refine ⟨⟨hlen, .inr ⟨w.heap.size, _, _, rfl, hbase, heap_alloc_new w.drew _, hge, hcm, ?_, ?_⟩⟩, ⟨rfl, rfl, rfl, by simp, (World.grownBy_alloc w.drew _ row).block⟩⟩
      · have hx0 := hown.1
        have hz1' : z.cells.size = 1 := by rw [hz1]; rfl
        simp only [Array.size_append, List.size_toArray, size_zeroCells, hz1', List.length_replicate]
        omega
      · simp only [Array.toList_append, List.append_assoc]
        rw [← List.append_assoc, ← hlen]
        exact List.take_left
    have key : ∃ v' w', (Builtin.append_ #[t, t'] op.type #[v, .int .i64 (m : Int)]).run P w = .ok v' w' ∧ w'.ownsRow base e 1 v' (nn + m) (xs ++ List.replicate m z) ∧ w.grownBy w' v.ownBlock ∧ (v'.ownBlock = v.ownBlock ∨ v'.ownBlock = some w.heap.size) := by
      rcases hown'.2 with ⟨rfl, rfl⟩ | ⟨g, cap, cur, rfl, hbg, hg, hnc, hcm, hcs, htake⟩
      · have hx : xs = [] := List.eq_nil_of_length_eq_zero (by simpa using hown.1)
        subst hx
        by_cases hm : m = 0
        · subst hm
          refine ⟨.slice none 0 0, w, ?_, by simpa using World.ownsRow_nil w base e 1, World.grownBy.refl w _, .inl rfl⟩
          simp [Builtin.append_, run_underlying ht.out, run_underlying ht'.out, sizeOf, typeInfo, hi', hai, hai0, hw0, hw64, hn1, hh1, hh2]
        · have hgr := grown 0 (by omega) (Value.ownBlock (.slice none 0 0))
          have h48' : ¬ (281474976710656 < Builtin.nextslicecap m 0 * by_) := by rw [nextslicecap_zero (by omega)]; omega
          have h63' : ¬ (9223372036854775807 < (m : Int)) := by omega
          refine ⟨_, _, ?_, hgr.1, hgr.2, .inr rfl⟩
          simp only [if_neg hm] at hnews
          simp [Builtin.append_, run_underlying ht.out, run_underlying ht'.out, sizeOf, typeInfo, zeroValue, hi', hz', hz1, hh1, hh2, hai, hai0, hw0, hw64, hn0, hn1, hm, h63', h48', Question.forced, run_firstCells_none, newRow, grownCap, hnews]
      · have hcl : cur.toList.length = cap := by simpa using hcs
        have hxl : xs.length = nn := by simpa using hown.1
        by_cases hroom : nn + m ≤ cap
        · have hst := run_storeCells_at P g nn e (List.replicate m z) 0 cur w hg (by simp [hcs]; omega) (by intro u hu; rw [List.eq_of_mem_replicate hu]; exact hz2)
          simp only [Nat.add_zero] at hst
          refine ⟨_, w.setRow g (cur.toList.take nn ++ List.replicate m z ++ cur.toList.drop (nn + (List.replicate m z).length)).toArray, ?_, ⟨hlen, .inr ⟨g, cap, _, rfl, hbg, setRow_heap w g cur _ e _ hg, hroom, hcm, ?_, ?_⟩⟩, ⟨rfl, rfl, rfl, by simp, fun k _ hk => setRow_other w g k _ (fun e => hk (by simp [Value.ownBlock, e]))⟩, .inl rfl⟩
          · by_cases hm : m = 0
            · subst hm
              have hroom' : nn ≤ cap := by omega
              have hst' : (storeCells ⟨g, nn, none⟩ []).run P w = .ok () (w.setRow g cur) := by simpa using hst
              simp [Builtin.append_, run_underlying ht.out, run_underlying ht'.out, sizeOf, typeInfo, zeroValue, hi', hz', hz1, hh1, hh2, hai, hai0, hw0, hw64, hn0, hn1, hroom', Addr.add_lit, hst']
            · simp only [if_neg hm] at hnews
              have hst' : (storeCells ⟨g, nn, none⟩ (List.replicate m z)).run P w = .ok () (w.setRow g (cur.toList.take nn ++ List.replicate m z ++ cur.toList.drop (nn + (List.replicate m z).length)).toArray) := hst
              simp [Builtin.append_, run_underlying ht.out, run_underlying ht'.out, sizeOf, typeInfo, zeroValue, hi', hz', hz1, hh1, hh2, hai, hai0, hw0, hw64, hn0, hn1, hroom, hm, hnews, Addr.add_lit, hst']
          · simp only [List.size_toArray, List.length_append, List.length_take, List.length_drop, List.length_replicate, hcl]
            omega
          · simp only [List.toList_toArray]
            rw [show cur.toList.take nn = xs by simpa using htake, ← hlen]
            exact List.take_left
        · have holds : ∀ j u, xs[j]? = some u → w.drew.cell? ((⟨g, 0, none⟩ : Addr).add j) = some u := hown'.cells (g := g) rfl
          have hgr := grown cap (by omega) (Value.ownBlock (.slice (some ⟨g, 0, none⟩) nn cap))
          have hfo := run_firstCells_some (P := P) w.drew 1 nn ⟨g, 0, none⟩ nn cap xs (by simpa using hxl) holds
          have h48' : ¬ (281474976710656 < Builtin.nextslicecap (nn + m) cap * by_) := by have := growslice_fits (need := nn + m) (old := cap) (bytes := by_) (by omega) hb; omega
          have h63' : ¬ (9223372036854775807 < ((nn : Int) + (m : Int))) := by omega
          have hm : m ≠ 0 := by omega
          simp only [if_neg hm] at hnews
          refine ⟨_, _, ?_, hgr.1, hgr.2, .inr rfl⟩
          simp [Builtin.append_, run_underlying ht.out, run_underlying ht'.out, sizeOf, typeInfo, zeroValue, hi', hz', hz1, hh1, hh2, hai, hai0, hw0, hw64, hn0, hn1, hm, hroom, h63', h48', Question.forced, hfo, newRow, grownCap, hnews]
    obtain ⟨v', w', hr, h2, h3, h4⟩ := key
    have hw' : w' = wld w w'.heap w'.drawn := by
      cases w'; cases w
      have a1 := h3.os; have a2 := h3.tape; have a3 := h3.output
      simp only at a1 a2 a3
      subst a1 a2 a3; rfl
    refine ⟨v', w'.heap, w'.drawn, .inl ?_, h2, ⟨h3.size, fun k hk hS => h3.block k hk (fun e => hS e.symm)⟩, h4⟩
    simp only [execOp, hop, resolve, invoke, builtin, Sem.run_bind, Sem.run_pure, Result.andThen_ok, List.map_toArray, List.map_cons, List.map_nil, hs, hx, hr]
    rw [← hw']
theorem D.bs1i {t e by_ : Nat} {x : Operand} {v z : Value} [ht : SliceT P t e] [hi : InfoT P e 1 by_] [hz : ZeroT P e z] (hx : Is (ev n σ x) v) (hv : v.oneCell' = true) (hz1 : z.cells = #[z]) :
    D P w0 n σ h (.buildSlice t 1 #[(0, x)]) ty (fun u h' => u = .slice (some ⟨h.size, 0, none⟩) 1 1 ∧ New h h' (.cells [v].toArray e)) := D.bs1 hx.eq hv hz1
theorem D.appendi {t e sz by_ base nn m c : Nat} {s x : Operand} {v : Value} {xs news : List Value} {A : Option Addr} {z : Value} [ht : SliceT P t e] [hi : InfoT P e sz by_] [hz : ZeroT P e z]
    (hs : Is (ev n σ s) v) (hx : ev n σ x = .slice A m c) (hown : Own h base e sz v nn xs) (hrow : Row h A news) (hl : news.length = m * sz) (h1 : ∀ u ∈ news, u.oneCell' = true) (hzs : z.cells.size = sz) (hsz : 0 < sz) (hby : 0 < by_) (hb : (nn + m) * by_ ≤ 140737488355328) (hbase : base ≤ h.size) :
    D P w0 n σ h (.call { callee := .builtin .append, args := #[s, x], argTypes := #[t, t] }) ty (fun v' h' => Own h' base e sz v' (nn + m) (xs ++ news) ∧ Mods (fun k => v.ownBlock = some k) h h' ∧ (v'.ownBlock = v.ownBlock ∨ v'.ownBlock = some h.size)) :=
  D.append hs.eq hx hown hrow hl h1 hzs hsz hby hb hbase
theorem D.appendzi {t t' e by_ base nn m : Nat} {s x : Operand} {v z : Value} {xs : List Value} {kk : IntKind} [ht : SliceT P t e] [ht' : IntT P t' kk] [hi : InfoT P e 1 by_] [hz : ZeroT P e z]
    (hs : Is (ev n σ s) v) (hx : ev n σ x = .int .i64 (m : Int)) (hown : Own h base e 1 v nn xs) (hz1 : z.cells = #[z]) (hz2 : z.oneCell' = true) (hby : 0 < by_) (hb : (nn + m) * by_ ≤ 140737488355328) (hbase : base ≤ h.size) :
    D P w0 n σ h (.call { callee := .builtin .append, args := #[s, x], argTypes := #[t, t'] }) ty (fun v' h' => Own h' base e 1 v' (nn + m) (xs ++ List.replicate m z) ∧ Mods (fun k => v.ownBlock = some k) h h' ∧ (v'.ownBlock = v.ownBlock ∨ v'.ownBlock = some h.size)) :=
  D.appendz hs.eq hx hown hz1 hz2 hby hb hbase
end
end Go.Proofs.YtoggdigclbcndaaDoor.E
