/-
  Copies of rows, and vectors: bytes.Clone, slices.Clone, table, Axpy; the reference's Plus and Fill.
-/
import Derived.Test.YtdphoegigdpboaaFld2
import Derived.Test.YtdphoegigdpboaaMem
set_option linter.unusedVariables false
namespace Go.Proofs.Ytdphoegigdpboaa.E
open Go Go.Proofs
set_option maxRecDepth 100000
theorem clone_c (A : Option Addr) (c : Nat) (bs : List UInt8) (h : Heap) (hr : Row h A (bys bs)) (hl : bs.length ≤ 140737488355328) :
    Ret Try.prog 40 [.slice A bs.length c] h (fun v h' => Own h' h.size 5 1 v bs.length (bys bs) ∧ Ext h h') := by
  refine Ret.enter Try.func40 rfl Try.ntmps40 (by show 1 ≤ 8; decide) fun w0 => ?_
  refine run ?_
  refine L.op (V.eqlSnil rfl rfl) ?_
  refine run ?_
  cases A with
  | none =>
    have hb : bs = [] := by
      rcases hr with hr | ⟨_, _, _, _, _, hA, _⟩
      · exact List.map_eq_nil_iff.1 hr
      · cases hA
    subst hb
    refine run ?_
    exact ret1 rfl (by constructor) ⟨Own.nil _ _ _ _, Mods.refl _ _⟩
  | some a =>
    refine run ?_
    refine L.do1 D.bs0 ?_
    rintro v h1 ⟨rfl, n1⟩
    refine run ?_
    have ho0 : Own h1 h.size 5 1 _ 0 [] := n1.empty (Nat.le_refl h.size)
    refine L.do1 (D.append rfl rfl ho0 (hr.ext n1.ext) (by simp) (bys_one bs) rfl (by decide) (by decide) (by omega) (by have := n1.size; omega)) ?_
    rintro v h2 ⟨ho, hm, _⟩
    obtain ⟨A', c', rfl, -⟩ := ho.row
    refine run ?_
    exact ret1 rfl (by constructor) ⟨by simpa using ho, ho0.ext2 (Nat.le_refl _) n1.ext hm⟩
theorem sclone_c (A : Option Addr) (c : Nat) (bs : List UInt8) (h : Heap) (hr : Row h A (bys bs)) (hl : bs.length ≤ 140737488355328) :
    Ret Try.prog 47 [.slice A bs.length c] h (fun v h' => Own h' h.size 5 1 v bs.length (bys bs) ∧ Ext h h') := by
  refine Ret.enter Try.func47 rfl Try.ntmps47 (by show 1 ≤ 8; decide) fun w0 => ?_
  refine run ?_
  refine L.op (V.eqlSnil rfl rfl) ?_
  refine run ?_
  cases A with
  | none =>
    have hb : bs = [] := by
      rcases hr with hr | ⟨_, _, _, _, _, hA, _⟩
      · exact List.map_eq_nil_iff.1 hr
      · cases hA
    subst hb
    refine run ?_
    exact ret1 rfl (by constructor) ⟨Own.nil _ _ _ _, Mods.refl _ _⟩
  | some a =>
    refine run ?_
    refine L.do1 D.bs0 ?_
    rintro v h1 ⟨rfl, n1⟩
    refine run ?_
    have ho0 : Own h1 h.size 5 1 _ 0 [] := n1.empty (Nat.le_refl h.size)
    refine L.do1 (D.append rfl rfl ho0 (hr.ext n1.ext) (by simp) (bys_one bs) rfl (by decide) (by decide) (by omega) (by have := n1.size; omega)) ?_
    rintro v h2 ⟨ho, hm, _⟩
    obtain ⟨A', c', rfl, -⟩ := ho.row
    refine run ?_
    exact ret1 rfl (by constructor) ⟨by simpa using ho, ho0.ext2 (Nat.le_refl _) n1.ext hm⟩
/-- all products of a number, the first i of them -/
def tab (c : UInt8) (i : Nat) : List Value := (List.range 256).map (fun x => if x < i then u8v (Gf.mul (UInt8.ofNat x) c) else .int .u8 0)
theorem tab_len (c : UInt8) (i : Nat) : (tab c i).length = 256 := by simp [tab]
theorem tab_zero (c : UInt8) : tab c 0 = List.replicate 256 (.int .u8 0) := by
  apply List.ext_getElem
  · simp [tab]
  · intro i h1 h2; rw [List.getElem_replicate]; simp [tab]
theorem tab_set (c : UInt8) (i : Nat) (hi : i < 256) : (tab c i).set i (u8v (Gf.mul (UInt8.ofNat i) c)) = tab c (i + 1) := by
  apply List.ext_getElem
  · simp [tab]
  · intro j h1 h2
    simp only [tab, List.getElem_set, List.getElem_map, List.getElem_range]
    by_cases hj : i = j
    · subst hj; rw [if_pos rfl, if_pos (by omega)]
    · rw [if_neg hj]
      by_cases hl : j < i
      · rw [if_pos hl, if_pos (by omega)]
      · rw [if_neg hl, if_neg (by omega)]
theorem tab_get (c x : UInt8) : (tab c 256)[x.toNat]? = some (u8v (Gf.mul x c)) := by
  have hx := x.toNat_lt
  simp [tab, hx]
theorem tab_one (c : UInt8) (i : Nat) : ∀ v ∈ tab c i, v.oneCell' = true := by
  intro v hv
  obtain ⟨x, _, rfl⟩ := List.mem_map.1 hv
  split <;> rfl
theorem table_c (c : UInt8) (h : Heap) : Ret Try.prog 78 [.int .u8 (c.toNat : Int)] h (fun v h' => v = .agg (tab c 256).toArray ∧ Ext h h') := by
  refine Ret.enter Try.func78 rfl Try.ntmps78 (by show 1 ≤ 16; decide) fun w0 => ?_
  refine run ?_
  refine L.do1 (D.al (cs := tab c 0) (by rw [tab_zero]; rfl)) ?_
  rintro v h1 ⟨rfl, n1⟩
  refine run ?_
  refine L.do1 (D.al (cs := tab c 0) (by rw [tab_zero]; rfl)) ?_
  rintro v h2 ⟨rfl, n2⟩
  have s1 := n1.size
  have s2 := n2.size
  refine run ?_
  refine C.loopv (fun k l h' => ∃ i, i ≤ 256 ∧ k = 256 - i ∧ Mods (fun k => k = h1.size) h2 h' ∧ Blk h' h1.size (tab c i) 113 ∧ l = [(0, .int .u8 (c.toNat : Int)), (2, .pointer (some ⟨h.size, 0, none⟩)), (3, .pointer (some ⟨h1.size, 0, none⟩)), (5, .int .i64 (i : Int))]) 256 _ ⟨0, by omega, by omega, Mods.refl _ _, n2.at_, rfl⟩ ⟨rfl, rfl, rfl, rfl, trivial⟩ ?_
  rintro k l h' τ ⟨i, hi, rfl, hm, hb, rfl⟩
  have hs := hm.size
  by_cases hlt : i < 256
  · refine run ?_
    have e : (i : Int) = ((UInt8.ofNat i).toNat : Int) := by simp; omega
    refine L.cq rfl (show RetQ _ _ [.int .u8 (i : Int), .int .u8 (c.toNat : Int)] h' (u8v (Gf.mul (UInt8.ofNat i) c)) from by rw [e]; exact mul_c (UInt8.ofNat i) c h') ?_
    refine L.op (V.idxa rfl rfl (by omega) (by omega)) ?_
    refine L.do0 (D.st (b := h1.size) (o := i) (v := u8v (Gf.mul (UInt8.ofNat i) c)) (by rw [add_lit]; show Value.pointer (some ⟨h1.size, 0 + (i : Int).toNat * 1, none⟩) = _; simp) rfl rfl hb (by rw [tab_len]; exact hlt)) ?_
    rintro v h3 hset
    refine run ?_
    refine ⟨_, _, by omega, ⟨i + 1, by omega, rfl, hm.trans hset.mods, ?_, rfl⟩, rfl, rfl, rfl, int_eq (by omega), trivial⟩
    have := hset.at_ (by omega)
    rw [tab_set c i hlt] at this
    exact this
  · obtain rfl : i = 256 := by omega
    refine run ?_
    refine L.op (V.loada (vs := tab c 256) rfl (tab_len _ _) (fun i hi => by rw [add_lit, Blk.cell hb]; simp)) ?_
    have hb2 : Blk h' h.size (tab c 0) 113 := hm.at (n2.ext.at n1.at_) (by omega)
    refine L.do0 (D.sta (b := h.size) (cs := tab c 0) rfl rfl (tab_len _ _) (tab_one _ _) hb2 (tab_len _ _)) ?_
    rintro v h3 hset
    refine run ?_
    have hb3 : Blk h3 h.size (tab c 256) 113 := hset.at_ (by omega)
    refine retA rfl rfl (tab_len _ _) (fun i hi => by rw [add_lit, Blk.cell hb3]; simp) ⟨rfl, ?_⟩
    refine Mods.ext (S := fun k => k = h1.size ∨ k = h.size) (n1.ext.trans n2.ext) ((hm.mono (fun _ _ h => .inl h)).trans (hset.mods.mono (fun _ _ h => .inr h))) ?_
    intro k hk; omega
/-- a, and c times b -/
def axpy (a b : List UInt8) (c : UInt8) : List UInt8 := List.zipWith (fun x y => x ^^^ Gf.mul y c) a b
theorem axpy_len (a b : List UInt8) (c : UInt8) (h : a.length = b.length) : (axpy a b c).length = a.length := by simp [axpy, h]
/-- the first i places done -/
def upto (a r : List UInt8) (i : Nat) : List UInt8 := r.take i ++ a.drop i
theorem upto_zero (a r : List UInt8) : upto a r 0 = a := by simp [upto]
theorem upto_all (a r : List UInt8) (h : r.length = a.length) : upto a r a.length = r := by simp [upto, ← h]
theorem upto_len (a r : List UInt8) (h : r.length = a.length) (i : Nat) (hi : i ≤ a.length) : (upto a r i).length = a.length := by simp [upto, h]; omega
theorem upto_get (a r : List UInt8) (h : r.length = a.length) (i : Nat) (hi : i < a.length) : (upto a r i)[i]? = some a[i] := by
  rw [upto, List.getElem?_append_right (by simp; omega)]
  simp [h, Nat.min_eq_left (Nat.le_of_lt hi), List.getElem?_eq_getElem hi]
theorem upto_set (a r : List UInt8) (h : r.length = a.length) (i : Nat) (hi : i < a.length) : (upto a r i).set i (r[i]'(by omega)) = upto a r (i + 1) := by
  unfold upto
  rw [List.set_append_right _ _ (by simp; omega)]
  have e1 : i - (r.take i).length = 0 := by simp; omega
  rw [e1, List.take_succ_eq_append_getElem (by omega), List.append_assoc]
  congr 1
  rw [List.drop_eq_getElem_cons hi]
  rfl
theorem axpy_get (a b : List UInt8) (c : UInt8) (i : Nat) (ha : i < a.length) (hb : i < b.length) : (axpy a b c)[i]'(by simp [axpy]; omega) = a[i] ^^^ Gf.mul b[i] c := by simp [axpy]
theorem mixed : (Try.prog).follows .mixedOrders = true := by kernel_rfl
theorem axpy_c (A B : Option Addr) (ca cb : Nat) (a b : List UInt8) (c : UInt8) (h : Heap) (hA : Row h A (bys a)) (hB : Row h B (bys b)) (hl : a.length = b.length) (hmax : a.length ≤ 140737488355328) :
    Ret Try.prog 49 [.slice A a.length ca, .slice B b.length cb, .int .u8 (c.toNat : Int)] h (fun v h' => ∃ r, v = .tuple #[r, .int .i64 0] ∧ Own h' h.size 5 1 r a.length (bys (axpy a b c)) ∧ Ext h h') := by
  have hrl := axpy_len a b c hl
  refine Ret.enter Try.func49 rfl Try.ntmps49 (by show 3 ≤ 39; decide) fun w0 => ?_
  refine run ?_
  refine L.c1 rfl (table_c c h) ?_
  rintro v h1 ⟨rfl, x1⟩
  have s1 := x1.size
  refine L.do1 (D.al (cs := tab c 0) (by rw [tab_zero]; rfl)) ?_
  rintro v h2 ⟨rfl, n2⟩
  have s2 := n2.size
  refine L.do0 (D.sta (b := h1.size) (cs := tab c 0) rfl rfl (tab_len _ _) (tab_one _ _) n2.at_ (tab_len _ _)) ?_
  rintro v h3 t3
  have s3 := t3.size
  have x3 : Ext h h3 := Mods.ext (x1.trans n2.ext) t3.mods (by intro k hk; omega)
  have ht3 : Blk h3 h1.size (tab c 256) 113 := t3.at_ (by omega)
  refine run ?_
  refine L.c1 rfl (clone_c A ca a h3 (hA.ext x3) hmax) ?_
  rintro v h4 ⟨o4, x4⟩
  have s4 := x4.size
  obtain ⟨A4, c4, rfl, -⟩ := o4.row
  refine run ?_
  refine C.loopv (fun k l h' => ∃ i, i ≤ a.length ∧ k = a.length - i ∧ Mods (fun k => (Value.slice A4 a.length c4).ownBlock = some k) h4 h' ∧ Own h' h3.size 5 1 (.slice A4 a.length c4) a.length (bys (upto a (axpy a b c) i)) ∧
    l = [(8, .pointer (some ⟨h1.size, 0, none⟩)), (9, .slice A4 a.length c4), (21, .slice B b.length cb), (22, .int .i64 (b.length : Int)), (23, .int .i64 (i : Int))]) a.length _ ⟨0, by omega, by omega, Mods.refl _ _, by rw [upto_zero]; exact o4, rfl⟩ ⟨rfl, rfl, rfl, rfl, rfl, trivial⟩ ?_
  rintro k l h' τ ⟨i, hi, rfl, hm, ho, rfl⟩
  have hs := hm.size
  have hx : Ext h h' := o4.ext2 (h := h) (by omega) (x3.trans x4) hm
  by_cases hlt : i < a.length
  · obtain ⟨g, cap, cs, hv, hg, hb, hic, hget, hset⟩ := ho.at_ hlt
    injection hv with hv1 hv2 hv3
    subst hv1 hv3
    obtain ⟨ab, rfl, hcb⟩ := (hB.ext hx).byte (i := i) (by omega)
    have htb : Blk h' h1.size (tab c 256) 113 := hm.at (x4.at ht3) (by simp [Value.ownBlock]; omega)
    have hca : cs[i]? = some (u8v a[i]) := by
      rw [hget]; simp only [bys, List.getElem?_map, upto_get a _ hrl i hlt]; rfl
    refine run ?_
    refine L.op (V.idx rfl rfl (by omega) (by omega)) ?_
    refine L.op (V.load rfl (by simpa using hcb)) ?_
    refine run ?_
    refine C.tail 9 mixed (by kernel_rfl) ?_
    refine run ?_
    refine L.op (V.idx rfl rfl (by omega) (by omega)) ?_
    refine L.op (V.load (v := u8v a[i]) rfl (by rw [add_lit, Blk.cell hb]; simpa using hca)) ?_
    refine run ?_
    refine L.op (V.idxa rfl rfl (by omega) (by have := b[i].toNat_lt; omega)) ?_
    refine L.op (V.load (v := u8v (Gf.mul b[i] c)) rfl (by rw [add_lit, Blk.cell htb]; simpa using tab_get c b[i])) ?_
    refine run ?_
    refine L.op (V.idx rfl rfl (by omega) (by omega)) ?_
    refine run ?_
    refine L.do0 (D.st (b := g) (o := i) (v := u8v (a[i] ^^^ Gf.mul b[i] c)) (by rw [add_lit]; show Value.pointer (some ⟨g, 0 + (i : Int).toNat * 1, none⟩) = _; simp) rfl rfl hb hic) ?_
    rintro v h5 t5
    refine run ?_
    refine ⟨_, _, by omega, ⟨i + 1, by omega, rfl, hm.trans (t5.mods.mono ?_), ?_, rfl⟩, rfl, rfl, rfl, rfl, int_eq (by omega), trivial⟩
    · rintro k _ rfl; rfl
    · have := hset (u8v (a[i] ^^^ Gf.mul b[i] c))
      rw [← t5.eq, bys_set, ← axpy_get a b c i hlt (by omega), upto_set a _ hrl i hlt] at this
      exact this
  · obtain rfl : i = a.length := by omega
    refine run ?_
    rw [upto_all a _ hrl] at ho
    exact ret2 rfl (by constructor) (by constructor) ⟨_, rfl, ho.low (by omega), hx⟩
theorem plus_c (A B : Option Addr) (ca cb : Nat) (a b : List UInt8) (c : UInt8) (h : Heap) (hA : Row h A (bys a)) (hB : Row h B (bys b)) (hl : a.length = b.length) (hmax : a.length ≤ 140737488355328) :
    Ret Try.prog 26 [.slice A a.length ca, .slice B b.length cb, .int .u8 (c.toNat : Int)] h (fun r h' => Own h' h.size 5 1 r a.length (bys (axpy a b c)) ∧ Ext h h') := by
  have hrl := axpy_len a b c hl
  refine Ret.enter Try.func26 rfl Try.ntmps26 (by show 3 ≤ 33; decide) fun w0 => ?_
  refine run ?_
  refine L.do1 (D.mk' (l := a.length) rfl rfl rfl (by omega) (by omega)) ?_
  rintro v h1 ⟨rfl, n1⟩
  have s1 := n1.size
  have hz : (List.replicate a.length (0 : UInt8)).length = a.length := by simp
  have o1 : Own h1 h.size 5 1 (.slice (some ⟨h.size, 0, none⟩) a.length a.length) a.length (bys (List.replicate a.length 0)) := by
    rw [bys_replicate]; exact n1.made (Nat.le_refl _) (by simp) (by simp only [maxLen]; omega)
  refine run ?_
  refine C.loopv (fun k l h' => ∃ i, i ≤ a.length ∧ k = a.length - i ∧ Mods (fun k => (Value.slice (some ⟨h.size, 0, none⟩) a.length a.length).ownBlock = some k) h1 h' ∧ Own h' h.size 5 1 (.slice (some ⟨h.size, 0, none⟩) a.length a.length) a.length (bys (upto (List.replicate a.length 0) (axpy a b c) i)) ∧
    l = [(0, .slice A a.length ca), (1, .slice B b.length cb), (2, .int .u8 (c.toNat : Int)), (7, .slice (some ⟨h.size, 0, none⟩) a.length a.length), (13, .int .i64 (a.length : Int)), (14, .int .i64 (i : Int))]) a.length _ ⟨0, by omega, by omega, Mods.refl _ _, by rw [upto_zero]; exact o1, rfl⟩ ⟨rfl, rfl, rfl, rfl, rfl, rfl, trivial⟩ ?_
  rintro k l h' τ ⟨i, hi, rfl, hm, ho, rfl⟩
  have hs := hm.size
  have hx : Ext h h' := o1.ext2 (h := h) (by omega) n1.ext hm
  by_cases hlt : i < a.length
  · obtain ⟨g, cap, cs, hv, hg, hb, hic, hget, hset⟩ := ho.at_ hlt
    injection hv with hv1 hv2 hv3
    injection hv1 with hv1
    injection hv1 with hv1
    subst hv1 hv3
    obtain ⟨aa, rfl, hca⟩ := (hA.ext hx).byte (i := i) (by omega)
    obtain ⟨ab, rfl, hcb⟩ := (hB.ext hx).byte (i := i) (by omega)
    refine run ?_
    refine C.tail 14 mixed (by kernel_rfl) ?_
    refine run ?_
    refine L.op (V.idx rfl rfl (by omega) (by omega)) ?_
    refine L.op (V.load (v := u8v a[i]) rfl (by simpa using hca)) ?_
    refine run ?_
    refine L.op (V.idx rfl rfl (by omega) (by omega)) ?_
    refine L.op (V.load (v := u8v b[i]) rfl (by simpa using hcb)) ?_
    refine run ?_
    refine L.cqq rfl (rmul_c b[i] c h') ?_
    refine run ?_
    refine L.op (V.idx rfl rfl (by omega) (by omega)) ?_
    refine run ?_
    refine L.do0 (D.st (b := h.size) (o := i) (v := u8v (a[i] ^^^ Gf.mul b[i] c)) (by rw [add_lit]; show Value.pointer (some ⟨h.size, 0 + (i : Int).toNat * 1, none⟩) = _; simp) rfl rfl hb hic) ?_
    rintro v h5 t5
    refine run ?_
    refine ⟨_, _, by omega, ⟨i + 1, by omega, rfl, hm.trans (t5.mods.mono ?_), ?_, rfl⟩, rfl, rfl, rfl, rfl, rfl, int_eq (by omega), trivial⟩
    · rintro k _ rfl; rfl
    · have := hset (u8v (a[i] ^^^ Gf.mul b[i] c))
      have e := upto_set (List.replicate a.length 0) (axpy a b c) (by rw [hrl, hz]) i (by rw [hz]; exact hlt)
      rw [axpy_get a b c i hlt (by omega)] at e
      rw [← t5.eq, bys_set, e] at this
      exact this
  · obtain rfl : i = a.length := by omega
    refine run ?_
    have e := upto_all (List.replicate a.length (0 : UInt8)) (axpy a b c) (by rw [hrl, hz])
    rw [hz] at e
    rw [e] at ho
    exact ret1 rfl (by constructor) ⟨ho, hx⟩
/-- so many bytes, with noughts behind -/
def fill (b : List UInt8) (n : Nat) : List UInt8 := b.take n ++ List.replicate (n - b.length) 0
theorem fill_len (b : List UInt8) (n : Nat) : (fill b n).length = n := by simp [fill]; omega
theorem fill_c (A : Option Addr) (ca : Nat) (a : List UInt8) (m : Nat) (h : Heap) (hA : Row h A (bys a)) (hmax : m ≤ 140737488355328) :
    Ret Try.prog 27 [.slice A a.length ca, .int .i64 (m : Int)] h (fun r h' => Own h' h.size 5 1 r m (bys (fill a m)) ∧ Ext h h') := by
  refine Ret.enter Try.func27 rfl Try.ntmps27 (by show 2 ≤ 12; decide) fun w0 => ?_
  refine run ?_
  refine L.do1 (D.mk' (l := m) rfl rfl rfl (by omega) (by omega)) ?_
  rintro v h1 ⟨rfl, n1⟩
  have s1 := n1.size
  refine run ?_
  refine L.do1 (D.copy (k := min a.length m) (cs := List.replicate m (.int .u8 0)) rfl rfl n1.at_ (hA.ext n1.ext) (by simp) (bys_one a) rfl (by simp; omega)) ?_
  rintro v h2 ⟨rfl, t2⟩
  refine run ?_
  have e : (bys a).take (min a.length m * 1) ++ (List.replicate m (Value.int .u8 0)).drop (min a.length m * 1) = bys (fill a m) := by
    rw [Nat.mul_one, fill, bys_append, bys_replicate, bys_take, List.drop_replicate]
    congr 2
    · rw [List.take_eq_take_iff]; omega
    · omega
  have hb2 := t2.at_ (by omega)
  rw [e] at hb2
  refine ret1 rfl (by constructor) ⟨⟨by simp [fill_len], .inr ⟨h.size, m, (bys (fill a m)).toArray, rfl, Nat.le_refl _, hb2, Nat.le_refl _, by simp only [maxLen]; omega, by simp [fill_len], ?_⟩⟩, ?_⟩
  · simp only [List.toList_toArray, Nat.mul_one]
    rw [List.take_of_length_le (by simp [fill_len])]
  · exact Mods.ext n1.ext t2.mods (by intro k hk; omega)
end Go.Proofs.Ytdphoegigdpboaa.E
