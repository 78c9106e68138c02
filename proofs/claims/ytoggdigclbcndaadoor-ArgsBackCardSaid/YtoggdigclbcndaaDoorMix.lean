/-
  A region that draws its order: operations that only read, in every heap that may stand there, and a chain of others
  (calls, stores, appends ..), each of which waits for the one ahead. The walk in the order of the text is enough.
-/
import Derived.Test.YtoggdigclbcndaaDoorTail
set_option linter.unusedVariables false
set_option linter.unusedSimpArgs false
namespace Go.Proofs.YtoggdigclbcndaaDoor.E
open Go
section
variable (P : Program) (w0 : World) (n : Nat) (ops : Array Oper) (G : Heap → Prop) (wr : Nat → Bool) (lst : Bool)
/-- an operation that yields v in every heap -/
def Rd (o : Oper) (v : Value) (σ : Slots) : Prop :=
  (Region.wanted o (yielded ops (fr n σ).tmps) = true ∧ ∀ h d, G h → (execOp (fr n σ).eval o).run P (wld w0 h d) = .ok (.value v) (wld w0 h d)) ∨
  (Region.wanted o (yielded ops (fr n σ).tmps) = false ∧ v = undef)
def Upon (S : Value → Heap → Prop) : Result Next → Prop
  | .ok (.value v) w' => ∃ h' d', w' = wld w0 h' d' ∧ S v h'
  | .ok .skip w' => ∃ h' d', w' = wld w0 h' d' ∧ S undef h'
  | .ok (.enter f args) w' => Calls P f args w' (fun e w'' => ∃ v, e = .returned v ∧ ∃ h' d', w'' = wld w0 h' d' ∧ S v h')
  | _ => False
/-- an operation that may turn the heap -/
def Wr (o : Oper) (S : Value → Heap → Prop) (σ : Slots) (h : Heap) : Prop :=
  Region.wanted o (yielded ops (fr n σ).tmps) = true ∧ (∃ v h', S v h') ∧ ∀ d, Upon P w0 S ((execOp (fr n σ).eval o).run P (wld w0 h d))
def Mix (Φ : Post) : List Oper → Nat → Array Bool → Slots → Heap → Prop
  | [], _, _, σ, h => Φ .normal σ h
  | o :: l, k, listed, σ, h =>
    if listed.getD k true = true then Mix Φ l (k + 1) listed σ h else
      (∃ v, Rd P w0 n ops G o v σ ∧ Mix Φ l (k + 1) listed (put σ o.dst v) h) ∨
      (wr k = true ∧ ∃ S, Wr P w0 n ops o S σ h ∧ ∀ v h', S v h' → (G h' ∨ (lst = true ∧ l = [])) ∧ Mix Φ l (k + 1) listed (put σ o.dst v) h')
def mixB (ops : Array Oper) (wr : Nat → Bool) : Bool :=
  Region.noSelect ops && (List.range ops.size).all fun j => match ops[j]? with
    | none => true
    | some oj => oj.after.all (fun e => !Region.binds .any e || decide (e.on < j)) && (List.range j).all fun i => match ops[i]? with
      | none => true
      | some oi => (oj.after.any (fun e => Region.binds .any e && e.on == i) || oi.apart ops oj) &&
        (!wr i || !wr j || (List.range j).any fun m => decide (i ≤ m) && wr m && oj.after.any (fun e => Region.binds .any e && e.on == m))
end
section
variable {P : Program} {w0 : World} {n : Nat} {ops : Array Oper} {G : Heap → Prop} {wr : Nat → Bool} {lst : Bool} {Φ : Post}
theorem put_comm' {σ : Slots} {x y : Option Nat} (v u : Value) (h : ∀ d, x = some d → y ≠ some d) : put (put σ x v) y u = put (put σ y u) x v := by
  cases x with
  | none => rfl
  | some d =>
    cases y with
    | none => rfl
    | some e =>
      have hne : d ≠ e := fun he => h d rfl (he ▸ rfl)
      funext t
      simp only [put]
      by_cases ht : t = d
      · subst ht; rw [upd_ne _ _ _ _ hne, upd_same, upd_same]
      · by_cases hte : t = e
        · subst hte; rw [upd_same, upd_ne _ _ _ _ ht, upd_same]
        · rw [upd_ne _ _ _ _ hte, upd_ne _ _ _ _ ht, upd_ne _ _ _ _ ht, upd_ne _ _ _ _ hte]
theorem exec_put (o : Oper) (hs : ∀ cs b, o.op ≠ .select cs b) (σ : Slots) (dst : Option Nat) (v : Value) (h : ∀ d, dst = some d → d ∉ o.looksAt ops) : execOp (fr n (put σ dst v)).eval o = execOp (fr n σ).eval o := by
  rw [← fr_put]; exact execOp_put (ops := ops) o hs _ dst v h
theorem want_put (o : Oper) (σ : Slots) (dst : Option Nat) (v : Value) (h : ∀ d, dst = some d → d ∉ o.looksAt ops) : Region.wanted o (yielded ops (fr n (put σ dst v)).tmps) = Region.wanted o (yielded ops (fr n σ).tmps) := by
  rw [← fr_put]; exact wanted_put o _ dst v h
theorem Rd.put (o : Oper) (hs : ∀ cs b, o.op ≠ .select cs b) (σ : Slots) (dst : Option Nat) (u v : Value) (h : ∀ d, dst = some d → d ∉ o.looksAt ops) : Rd P w0 n ops G o v (put σ dst u) ↔ Rd P w0 n ops G o v σ := by
  unfold Rd; rw [exec_put o hs σ dst u h, want_put o σ dst u h]
theorem Wr.put (o : Oper) (hs : ∀ cs b, o.op ≠ .select cs b) (σ : Slots) (hh : Heap) (dst : Option Nat) (u : Value) (S : Value → Heap → Prop) (h : ∀ d, dst = some d → d ∉ o.looksAt ops) : Wr P w0 n ops o S (put σ dst u) hh ↔ Wr P w0 n ops o S σ hh := by
  unfold Wr; rw [exec_put o hs σ dst u h, want_put o σ dst u h]
theorem Rd.same {o : Oper} {v v' : Value} {σ : Slots} {h : Heap} (hG : G h) (a : Rd P w0 n ops G o v σ) (b : Rd P w0 n ops G o v' σ) : v = v' := by
  rcases a with ⟨a1, a2⟩ | ⟨a1, a2⟩
  · rcases b with ⟨b1, b2⟩ | ⟨b1, b2⟩
    · have := (a2 h 0 hG).symm.trans (b2 h 0 hG)
      injection this with h1 h2
      injection h1
    · rw [a1] at b1; cases b1
  · rcases b with ⟨b1, b2⟩ | ⟨b1, b2⟩
    · rw [a1] at b1; cases b1
    · rw [a2, b2]
theorem Mix.congr : ∀ (l : List Oper) (k : Nat) (s s' : Array Bool) (σ : Slots) (h : Heap), (∀ i, k ≤ i → s.getD i true = s'.getD i true) → Mix P w0 n ops G wr lst Φ l k s σ h → Mix P w0 n ops G wr lst Φ l k s' σ h
  | [], _, _, _, _, _, _, hm => hm
  | o :: l, k, s, s', σ, h, hs, hm => by
    unfold Mix at hm ⊢
    rw [← hs k (Nat.le_refl _)]
    have hs' : ∀ i, k + 1 ≤ i → s.getD i true = s'.getD i true := fun i hi => hs i (by omega)
    split
    · rename_i h1; rw [if_pos h1] at hm; exact Mix.congr l _ _ _ _ _ hs' hm
    · rename_i h1; rw [if_neg h1] at hm
      rcases hm with ⟨v, h2, h3⟩ | ⟨hw, S, h2, h3⟩
      · exact .inl ⟨v, h2, Mix.congr l _ _ _ _ _ hs' h3⟩
      · exact .inr ⟨hw, S, h2, fun v h' hS => ⟨(h3 v h' hS).1, Mix.congr l _ _ _ _ _ hs' (h3 v h' hS).2⟩⟩
theorem getD_set_at {s : Array Bool} {j : Nat} : (s.setIfInBounds j true).getD j true = true := by
  by_cases hj : j < s.size
  · simp [hj]
  · simp [Nat.le_of_not_lt hj]
/-- an operation that may come up now may be taken first -/
theorem Mix.pull {j : Nat} {oj : Oper} (hj : ops[j]? = some oj) (hsel : ∀ (i : Nat) (o : Oper) cs b, ops[i]? = some o → o.op ≠ .select cs b) :
    ∀ (l : List Oper) (k : Nat) (s : Array Bool) (σ : Slots) (h : Heap), (∀ i, l[i]? = ops[k + i]?) → k ≤ j → s.getD j true = false → G h →
      (∀ i oi, ops[i]? = some oi → i < j → s.getD i true = false → oi.apart ops oj = true ∧ (wr i = true → wr j = false)) →
      Mix P w0 n ops G wr lst Φ l k s σ h →
      (∃ v, Rd P w0 n ops G oj v σ ∧ Mix P w0 n ops G wr lst Φ l k (s.setIfInBounds j true) (put σ oj.dst v) h) ∨
      (wr j = true ∧ ∃ S, Wr P w0 n ops oj S σ h ∧ ∀ v h', S v h' → (G h' ∨ (lst = true ∧ j + 1 = ops.size)) ∧ Mix P w0 n ops G wr lst Φ l k (s.setIfInBounds j true) (put σ oj.dst v) h')
  | [], k, s, σ, h, hl, hk, hun, hG, hap, hm => by
    have := hl (j - k)
    rw [show k + (j - k) = j by omega, hj] at this
    simp at this
  | o :: l, k, s, σ, h, hl, hk, hun, hG, hap, hm => by
    have ho : ops[k]? = some o := by simpa using (hl 0).symm
    have hl' : ∀ i, l[i]? = ops[k + 1 + i]? := fun i => by have := hl (i + 1); simpa [Nat.add_assoc, Nat.add_comm 1 i] using this
    by_cases hkj : k = j
    · subst hkj
      have : o = oj := Option.some.inj (ho.symm.trans hj)
      subst this
      have hcg : ∀ i, k + 1 ≤ i → s.getD i true = (s.setIfInBounds k true).getD i true := fun i hi => by rw [getD_set_ne true (by omega)]
      unfold Mix at hm ⊢
      rw [if_neg (by rw [hun]; decide)] at hm
      simp only [getD_set_at, if_true]
      rcases hm with ⟨v, h2, h3⟩ | ⟨hw, S, h2, h3⟩
      · exact .inl ⟨v, h2, Mix.congr l _ _ _ _ _ hcg h3⟩
      · refine .inr ⟨hw, S, h2, fun v h' hS => ⟨?_, Mix.congr l _ _ _ _ _ hcg (h3 v h' hS).2⟩⟩
        rcases (h3 v h' hS).1 with hg | ⟨hg1, hg2⟩
        · exact .inl hg
        · refine .inr ⟨hg1, ?_⟩
          have h0 := hl' 0
          rw [hg2] at h0
          have h4 : ops[k + 1]? = none := by simpa using h0.symm
          have h5 := Array.getElem?_eq_none_iff.1 h4
          have h6 := (Array.getElem?_eq_some_iff.1 ho).1
          omega
    · have hlt : k < j := by omega
      have hsk : (s.setIfInBounds j true).getD k true = s.getD k true := getD_set_ne true (by omega)
      unfold Mix at hm ⊢
      rw [hsk]
      by_cases hks : s.getD k true = true
      · rw [if_pos hks] at hm
        simp only [if_pos hks]
        exact Mix.pull hj hsel l (k + 1) s σ h hl' (by omega) hun hG hap hm
      · rw [if_neg hks] at hm
        simp only [if_neg hks]
        obtain ⟨hap1, hap2⟩ := hap k o ho hlt (by simpa using hks)
        obtain ⟨a1, a2, a3⟩ := Oper.apart_spec hap1
        have s1 : ∀ cs b, o.op ≠ .select cs b := fun cs b => hsel k o cs b ho
        have s2 : ∀ cs b, oj.op ≠ .select cs b := fun cs b => hsel j oj cs b hj
        rcases hm with ⟨v, h2, h3⟩ | ⟨hw, S, h2, h3⟩
        · rcases Mix.pull hj hsel l (k + 1) s _ h hl' (by omega) hun hG hap h3 with ⟨u, h4, h5⟩ | ⟨hw', S', h4, h5⟩
          · refine .inl ⟨u, (Rd.put oj s2 σ o.dst v u a1).1 h4, .inl ⟨v, (Rd.put o s1 σ oj.dst u v a3).2 h2, ?_⟩⟩
            rw [← put_comm' v u a2]; exact h5
          · refine .inr ⟨hw', S', (Wr.put oj s2 σ h o.dst v S' a1).1 h4, fun u h' hS => ⟨(h5 u h' hS).1, .inl ⟨v, (Rd.put o s1 σ oj.dst u v a3).2 h2, ?_⟩⟩⟩
            rw [← put_comm' v u a2]; exact (h5 u h' hS).2
        · have hwj := hap2 hw
          have key : ∀ v h', S v h' → ∃ u, Rd P w0 n ops G oj u σ ∧ Mix P w0 n ops G wr lst Φ l (k + 1) (s.setIfInBounds j true) (put (put σ o.dst v) oj.dst u) h' := by
            intro v h' hS
            obtain ⟨hG0, hm'⟩ := h3 v h' hS
            have hG' : G h' := by
              rcases hG0 with hg | ⟨_, hg2⟩
              · exact hg
              · exfalso
                have h0 := hl' (j - (k + 1))
                rw [hg2, show k + 1 + (j - (k + 1)) = j by omega, hj] at h0
                simp at h0
            rcases Mix.pull hj hsel l (k + 1) s _ h' hl' (by omega) hun hG' hap hm' with ⟨u, h4, h5⟩ | ⟨hw', _⟩
            · exact ⟨u, (Rd.put oj s2 σ o.dst v u a1).1 h4, h5⟩
            · rw [hwj] at hw'; cases hw'
          obtain ⟨v0, hh0, hS0⟩ := h2.2.1
          obtain ⟨u, hu, _⟩ := key v0 hh0 hS0
          refine .inl ⟨u, hu, .inr ⟨hw, S, (Wr.put o s1 σ h oj.dst u S a3).2 h2, fun v h' hS => ⟨(h3 v h' hS).1, ?_⟩⟩⟩
          obtain ⟨u', hu', hm'⟩ := key v h' hS
          have := Rd.same hG hu hu'
          subst this
          rw [← put_comm' v u a2]; exact hm'
theorem Mix.done : ∀ (l : List Oper) (k : Nat) (s : Array Bool) (σ : Slots) (h : Heap), (∀ i, k ≤ i → s.getD i true = true) → Mix P w0 n ops G wr lst Φ l k s σ h → Φ .normal σ h
  | [], _, _, _, _, _, hm => hm
  | o :: l, k, s, σ, h, hs, hm => by
    unfold Mix at hm
    rw [if_pos (hs k (Nat.le_refl _))] at hm
    exact Mix.done l (k + 1) s σ h (fun i hi => hs i (by omega)) hm
theorem mixB_sel (hB : mixB ops wr = true) : Region.noSelect ops = true := by
  simp only [mixB, Bool.and_eq_true] at hB; exact hB.1
theorem mixB_after (hB : mixB ops wr = true) {j : Nat} {oj : Oper} (hj : ops[j]? = some oj) : ∀ e ∈ oj.after, Region.binds .any e = true → e.on < j := by
  simp only [mixB, Bool.and_eq_true, List.all_eq_true, List.mem_range] at hB
  have := hB.2 j (Array.getElem?_eq_some_iff.1 hj).1
  simp only [hj, Bool.and_eq_true] at this
  intro e he hb
  have h1 := Array.all_eq_true_iff_forall_mem.1 this.1 e he
  simpa [hb] using h1
theorem mixB_apart (hB : mixB ops wr = true) {i j : Nat} {oi oj : Oper} (hi : ops[i]? = some oi) (hj : ops[j]? = some oj) (hij : i < j) : (∃ e ∈ oj.after, Region.binds .any e = true ∧ e.on = i) ∨ oi.apart ops oj = true := by
  simp only [mixB, Bool.and_eq_true, List.all_eq_true, List.mem_range] at hB
  have := hB.2 j (Array.getElem?_eq_some_iff.1 hj).1
  simp only [hj, Bool.and_eq_true, List.all_eq_true, List.mem_range] at this
  have := this.2 i hij
  simp only [hi, Bool.and_eq_true, Bool.or_eq_true] at this
  rcases this.1 with h1 | h1
  · obtain ⟨e, he, hb⟩ := Array.any_eq_true'.1 h1
    simp only [Bool.and_eq_true, beq_iff_eq] at hb
    exact .inl ⟨e, he, hb⟩
  · exact .inr h1
theorem mixB_chain (hB : mixB ops wr = true) {i j : Nat} {oi oj : Oper} (hi : ops[i]? = some oi) (hj : ops[j]? = some oj) (hij : i < j) (wi : wr i = true) (wj : wr j = true) : ∃ m, i ≤ m ∧ m < j ∧ wr m = true ∧ ∃ e ∈ oj.after, Region.binds .any e = true ∧ e.on = m := by
  simp only [mixB, Bool.and_eq_true, List.all_eq_true, List.mem_range] at hB
  have := hB.2 j (Array.getElem?_eq_some_iff.1 hj).1
  simp only [hj, Bool.and_eq_true, List.all_eq_true, List.mem_range] at this
  have := this.2 i hij
  simp only [hi, Bool.and_eq_true, wi, wj, Bool.not_true, Bool.false_or, List.any_eq_true, List.mem_range, decide_eq_true_eq] at this
  obtain ⟨m, hm, ⟨h1, h2⟩, h3⟩ := this.2
  obtain ⟨e, he, hb⟩ := Array.any_eq_true'.1 h3
  simp only [Bool.and_eq_true, beq_iff_eq] at hb
  exact ⟨m, h1, hm, h2, e, he, hb⟩
/-- the last operation waits, by way of others, for all -/
def lastB (ops : Array Oper) : Bool :=
  (List.range (ops.size - 1)).all fun i => (List.range ops.size).any fun j => decide (i < j) && match ops[j]? with
    | some oj => oj.after.any (fun e => Region.binds .any e && e.on == i)
    | none => false
theorem lastB_spec (hB : lastB ops = true) {i : Nat} (hi : i + 1 < ops.size) : ∃ j oj, i < j ∧ ops[j]? = some oj ∧ ∃ e ∈ oj.after, Region.binds .any e = true ∧ e.on = i := by
  simp only [lastB, List.all_eq_true, List.mem_range, List.any_eq_true, Bool.and_eq_true, decide_eq_true_eq] at hB
  obtain ⟨j, _, h1, h2⟩ := hB i (by omega)
  cases hj : ops[j]? with
  | none => rw [hj] at h2; cases h2
  | some oj =>
    rw [hj] at h2
    obtain ⟨e, he, hb⟩ := Array.any_eq_true'.1 h2
    simp only [Bool.and_eq_true, beq_iff_eq] at hb
    exact ⟨j, oj, h1, hj, e, he, hb⟩
/-- what is listed has all it waits for listed -/
structure Closed (ops : Array Oper) (s : Array Bool) : Prop where
  size : s.size = ops.size
  all : ∀ j oj, ops[j]? = some oj → s.getD j false = true → ∀ e ∈ oj.after, Region.binds .any e = true → s.getD e.on false = true
theorem Closed.set {s : Array Bool} {i : Nat} (c : Closed ops s) (hi : i ∈ Region.ready .any ops s) : Closed ops (s.setIfInBounds i true) := by
  obtain ⟨_, oi, hoi, hall⟩ := mem_ready.1 hi
  refine ⟨by simp [c.size], fun j oj hj hl e he hb => ?_⟩
  by_cases hij : i = j
  · subst hij
    have : oj = oi := Option.some.inj (hj.symm.trans hoi)
    subst this
    exact getD_set_true (hall e he hb)
  · rw [getD_set_ne false hij] at hl
    exact getD_set_true (c.all j oj hj hl e he hb)
theorem chain_listed (hB : mixB ops wr = true) {s : Array Bool} (c : Closed ops s) : ∀ (j : Nat) (oj : Oper), ops[j]? = some oj → wr j = true → (∀ e ∈ oj.after, Region.binds .any e = true → s.getD e.on false = true) →
    ∀ i oi, ops[i]? = some oi → i < j → wr i = true → s.getD i false = true := by
  intro j
  induction j using Nat.strongRecOn with
  | _ j ih =>
    intro oj hj wj hall i oi hi hij wi
    obtain ⟨m, h1, h2, h3, e, he, hb, hem⟩ := mixB_chain hB hi hj hij wi wj
    have hm : s.getD m false = true := by rw [← hem]; exact hall e he hb
    by_cases him : i = m
    · subst him; exact hm
    · have hms : m < ops.size := by have := (Array.getElem?_eq_some_iff.1 hj).1; omega
      exact ih m h2 ops[m] (Array.getElem?_eq_getElem hms) h3 (c.all m _ (Array.getElem?_eq_getElem hms) hm) i oi hi (by omega) wi
theorem first_un {s : Array Bool} : ∀ (N : Nat), (∃ i, i < N ∧ s.getD i true = false) → ∃ i, i < N ∧ s.getD i true = false ∧ ∀ j, j < i → s.getD j true = true := by
  intro N
  induction N with
  | zero => rintro ⟨i, hi, _⟩; omega
  | succ N ih =>
    rintro ⟨i, hi, hs⟩
    by_cases hx : ∃ i, i < N ∧ s.getD i true = false
    · obtain ⟨i, h1, h2, h3⟩ := ih hx; exact ⟨i, by omega, h2, h3⟩
    · refine ⟨N, by omega, ?_, fun j hj => ?_⟩
      · by_cases hiN : i = N
        · subst hiN; exact hs
        · exact absurd ⟨i, by omega, hs⟩ hx
      · cases hc : s.getD j true with
        | true => rfl
        | false => exact absurd ⟨j, hj, hc⟩ hx
theorem last_all (hB : lastB ops = true) {s : Array Bool} (c : Closed ops s) {l : Nat} {ol : Oper} (hl : ops[l]? = some ol) (hsz : l + 1 = ops.size) (hall : ∀ e ∈ ol.after, Region.binds .any e = true → s.getD e.on false = true) : ∀ m i, i + m = l → 0 < m → s.getD i false = true := by
  intro m
  induction m using Nat.strongRecOn with
  | _ m ih =>
    intro i hi hm
    obtain ⟨j, oj, h1, hj, e, he, hb, hei⟩ := lastB_spec hB (i := i) (by omega)
    have hjs := (Array.getElem?_eq_some_iff.1 hj).1
    by_cases hjl : j = l
    · subst hjl
      have : oj = ol := Option.some.inj (hj.symm.trans hl)
      subst this
      rw [← hei]; exact hall e he hb
    · have := ih (l - j) (by omega) j (by omega) (by omega)
      rw [← hei]; exact c.all j oj hj this e he hb
def unl (s : Array Bool) : Nat := (s.toList.filter (fun b => !b)).length
theorem unl_set_list : ∀ (l : List Bool) (i : Nat), l[i]? = some false → ((l.set i true).filter (fun b => !b)).length + 1 = (l.filter (fun b => !b)).length
  | [], i, h => by simp at h
  | b :: l, 0, h => by simp at h; subst h; simp
  | b :: l, i + 1, h => by
    have := unl_set_list l i (by simpa using h)
    simp only [List.set_cons_succ, List.filter_cons]
    cases b <;> simp <;> omega
theorem unl_set {s : Array Bool} {i : Nat} (hi : s.getD i true = false) : unl (s.setIfInBounds i true) + 1 = unl s := by
  unfold unl
  rw [Array.toList_setIfInBounds]
  refine unl_set_list _ _ ?_
  by_cases h : i < s.size
  · simp [h] at hi ⊢; exact hi
  · simp [Nat.le_of_not_lt h] at hi
theorem mix_any {Q : Exit → Act → World → Prop} (hQ : ∀ σ h d, Φ .normal σ h → Q .normal (fr n σ) (wld w0 h d)) (hB : mixB ops wr = true) (hL : lst = true → lastB ops = true) : ∀ (f : Nat) (s : Array Bool) (σ : Slots) (h : Heap) (d : Nat), unl s = f → Closed ops s → G h → Mix P w0 n ops G wr lst Φ ops.toList 0 s σ h →
    wpAny P .any ops Q f s (fr n σ) (wld w0 h d) := by
  have hsel := Region.noSelect_spec (mixB_sel hB)
  have hall : ∀ (s : Array Bool), Closed ops s → Region.ready .any ops s = [] → ∀ i, 0 ≤ i → s.getD i true = true := by
    intro s c hr i _
    cases hc : s.getD i true with
    | true => rfl
    | false =>
      exfalso
      have his : i < s.size := by
        by_cases hx : i < s.size
        · exact hx
        · simp [Nat.le_of_not_lt hx] at hc
      obtain ⟨m, h1, h2, h3⟩ := first_un (s := s) (i + 1) ⟨i, by omega, hc⟩
      have hms : m < ops.size := by rw [← c.size]; omega
      have : m ∈ Region.ready .any ops s := mem_ready.2 ⟨h2, ops[m], Array.getElem?_eq_getElem hms, fun e he hb => by
        have hlt := mixB_after hB (Array.getElem?_eq_getElem hms) e he hb
        have := h3 e.on hlt
        have hes : e.on < s.size := by rw [c.size]; omega
        simp [hes] at this ⊢; exact this⟩
      rw [hr] at this; cases this
  intro f
  induction f with
  | zero =>
    intro s σ h d hu c hG hm
    have hz : Region.ready .any ops s = [] := by
      cases hr : Region.ready .any ops s with
      | nil => rfl
      | cons i t =>
        have hi : i ∈ Region.ready .any ops s := by rw [hr]; simp
        have := unl_set (mem_ready.1 hi).1
        omega
    exact ⟨hz, hQ _ _ _ (Mix.done _ _ _ _ _ (hall s c hz) hm)⟩
  | succ f ih =>
    intro s σ h d hu c hG hm
    refine ⟨fun hz => hQ _ _ _ (Mix.done _ _ _ _ _ (hall s c hz) hm), fun j hj => ?_⟩
    obtain ⟨hun, oj, hoj, hal⟩ := mem_ready.1 hj
    have hu' : unl (s.setIfInBounds j true) = f := by have := unl_set hun; omega
    have hap : ∀ i oi, ops[i]? = some oi → i < j → s.getD i true = false → oi.apart ops oj = true ∧ (wr i = true → wr j = false) := by
      intro i oi hi hij hs
      refine ⟨?_, fun wi => ?_⟩
      · rcases mixB_apart hB hi hoj hij with ⟨e, he, hb, hei⟩ | h1
        · have := hal e he hb
          rw [hei, getD_both hs] at this; cases this
        · exact h1
      · cases hwj : wr j with
        | false => rfl
        | true =>
          have := chain_listed hB c j oj hoj hwj hal i oi hi hij wi
          rw [getD_both hs] at this; cases this
    have fin : ∀ (σ' : Slots) (h' : Heap) (d' : Nat), lst = true → j + 1 = ops.size → Mix P w0 n ops G wr lst Φ ops.toList 0 (s.setIfInBounds j true) σ' h' → wpAny P .any ops Q f (s.setIfInBounds j true) (fr n σ') (wld w0 h' d') := by
      intro σ' h' d' hl1 hl2 hm'
      have hal2 : ∀ i, 0 ≤ i → (s.setIfInBounds j true).getD i true = true := by
        intro i _
        by_cases hij : j = i
        · subst hij; exact getD_set_at
        · rw [getD_set_ne true hij]
          by_cases hi : i < ops.size
          · have := last_all (hL hl1) c hoj hl2 hal (j - i) i (by omega) (by omega)
            have his : i < s.size := by rw [c.size]; exact hi
            simp [his] at this ⊢; exact this
          · have : s.size ≤ i := by rw [c.size]; omega
            simp [this]
      have hrn : Region.ready .any ops (s.setIfInBounds j true) = [] := by
        cases hr : Region.ready .any ops (s.setIfInBounds j true) with
        | nil => rfl
        | cons i t =>
          have hi : i ∈ Region.ready .any ops (s.setIfInBounds j true) := by rw [hr]; simp
          have := (mem_ready.1 hi).1
          rw [hal2 i (Nat.zero_le _)] at this; cases this
      have hq := hQ σ' h' d' (Mix.done _ _ _ _ _ hal2 hm')
      cases f with
      | zero => exact ⟨hrn, hq⟩
      | succ f => exact ⟨fun _ => hq, fun i hi => by rw [hrn] at hi; cases hi⟩
    have nxt : ∀ (σ' : Slots) (h' : Heap) (d' : Nat), (G h' ∨ (lst = true ∧ j + 1 = ops.size)) → Mix P w0 n ops G wr lst Φ ops.toList 0 (s.setIfInBounds j true) σ' h' → wpAny P .any ops Q f (s.setIfInBounds j true) (fr n σ') (wld w0 h' d') := by
      intro σ' h' d' hg hm'
      rcases hg with hg | ⟨g1, g2⟩
      · exact ih _ _ _ _ hu' (c.set hj) hg hm'
      · exact fin _ _ _ g1 g2 hm'
    have hp := Mix.pull (Φ := Φ) hoj hsel ops.toList 0 s σ h (fun i => by simp) (Nat.zero_le _) hun hG hap hm
    unfold wpOp
    simp only [hoj]
    rcases hp with ⟨v, hr, hm'⟩ | ⟨hw, S, hr, hm'⟩
    · rcases hr with ⟨h1, h2⟩ | ⟨h1, rfl⟩
      · rw [if_pos h1]
        refine .inl ?_
        unfold Oper.wp
        rw [h2 h d hG, Oper.upon_value, fr_put]
        exact ih _ _ _ _ hu' (c.set hj) hG hm'
      · rw [if_neg (by rw [h1]; decide), fr_put]
        exact ih _ _ _ _ hu' (c.set hj) hG hm'
    · rw [if_pos hr.1]
      refine .inl ?_
      have h3 := hr.2.2 d
      unfold Oper.wp
      generalize (execOp (fr n σ).eval oj).run P (wld w0 h d) = r at *
      cases r with
      | halt x w' => exact h3.elim
      | ok x w' =>
        cases x with
        | value v =>
          obtain ⟨h', d', rfl, hS⟩ := h3
          rw [Oper.upon_value, fr_put]
          exact nxt _ _ _ (hm' _ _ hS).1 (hm' _ _ hS).2
        | skip =>
          obtain ⟨h', d', rfl, hS⟩ := h3
          rw [Oper.upon_skip, fr_put]
          exact nxt _ _ _ (hm' _ _ hS).1 (hm' _ _ hS).2
        | enter g args =>
          rw [Oper.upon_enter]
          refine Calls.mono h3 ?_
          rintro e w'' ⟨v, rfl, h', d', rfl, hS⟩
          show wpAny P .any ops Q f _ ((fr n σ).put oj.dst v) _
          rw [fr_put]
          exact nxt _ _ _ (hm' _ _ hS).1 (hm' _ _ hS).2
        | _ => exact h3.elim
/-- the walk through such a region: G: what holds of the heap throughout; wr: the numbers of the operations of the chain -/
structure M (P : Program) (w0 : World) (n : Nat) (ops : Array Oper) (G : Heap → Prop) (wr : Nat → Bool) (lst : Bool) (Φ : Post) (l : List Oper) (k : Nat) (σ : Slots) (h : Heap) : Prop where
  mk :: (out : k + l.length = ops.size → Mix P w0 n ops G wr lst Φ l k (Array.replicate ops.size false) σ h)
theorem C.mix' {id : Nat} {l : List Oper} {σ : Slots} {h : Heap} (G : Heap → Prop) (wr : Nat → Bool) (lst : Bool) (hm : P.follows .mixedOrders = true) (hB : mixB l.toArray wr = true) (hL : lst = true → lastB l.toArray = true) (hG : G h)
    (hl : M P w0 n l.toArray G wr lst Φ l 0 σ h) : C P w0 n (.region id l.toArray true) Φ σ h :=
  ⟨fun d => wp_region_any hm (by
    refine mix_any (w0 := w0) (G := G) (wr := wr) (lst := lst) (Φ := Φ) (fun σ h d hh => ⟨σ, h, d, rfl, rfl, hh⟩) hB hL _ _ σ h (d + 1) ?_ ⟨by simp, fun j oj _ hl => by rw [getD_replicate_false] at hl; cases hl⟩ hG (hl.out (by simp))
    simp [unl])⟩
theorem C.mix {id : Nat} {l : List Oper} {σ : Slots} {h : Heap} (G : Heap → Prop) (wr : Nat → Bool) (hm : P.follows .mixedOrders = true) (hB : mixB l.toArray wr = true) (hG : G h)
    (hl : M P w0 n l.toArray G wr false Φ l 0 σ h) : C P w0 n (.region id l.toArray true) Φ σ h := C.mix' G wr false hm hB (by intro h; cases h) hG hl
/-- the same where the last operation may leave G -/
theorem C.mixl {id : Nat} {l : List Oper} {σ : Slots} {h : Heap} (G : Heap → Prop) (wr : Nat → Bool) (hm : P.follows .mixedOrders = true) (hB : mixB l.toArray wr = true) (hL : lastB l.toArray = true) (hG : G h)
    (hl : M P w0 n l.toArray G wr true Φ l 0 σ h) : C P w0 n (.region id l.toArray true) Φ σ h := C.mix' G wr true hm hB (fun _ => hL) hG hl
variable {σ : Slots} {h : Heap} {k : Nat}
theorem M.nil (hh : Φ .normal σ h) : M P w0 n ops G wr lst Φ [] k σ h := ⟨fun _ => hh⟩
theorem M.rd {o : Oper} {l : List Oper} {v : Value} (hr : Rd P w0 n ops G o v σ) (hl : M P w0 n ops G wr lst Φ l (k + 1) (put σ o.dst v) h) : M P w0 n ops G wr lst Φ (o :: l) k σ h :=
  ⟨fun hk => by
    have hk' : k < ops.size := by simp at hk; omega
    unfold Mix
    rw [if_neg (by simp [hk'])]
    exact .inl ⟨v, hr, hl.out (by simp at hk; omega)⟩⟩
theorem M.wrt {o : Oper} {l : List Oper} {S : Value → Heap → Prop} (hw : wr k = true) (hr : Wr P w0 n ops o S σ h) (hl : ∀ v h', S v h' → G h' ∧ M P w0 n ops G wr lst Φ l (k + 1) (put σ o.dst v) h') : M P w0 n ops G wr lst Φ (o :: l) k σ h :=
  ⟨fun hk => by
    have hk' : k < ops.size := by simp at hk; omega
    unfold Mix
    rw [if_neg (by simp [hk'])]
    exact .inr ⟨hw, S, hr, fun v h' hS => ⟨.inl (hl v h' hS).1, (hl v h' hS).2.out (by simp at hk; omega)⟩⟩⟩
theorem M.wrtl {o : Oper} {S : Value → Heap → Prop} (hw : wr k = true) (hr : Wr P w0 n ops o S σ h) (hl : ∀ v h', S v h' → M P w0 n ops G wr true Φ [] (k + 1) (put σ o.dst v) h') : M P w0 n ops G wr true Φ [o] k σ h :=
  ⟨fun hk => by
    have hk' : k < ops.size := by simp at hk; omega
    unfold Mix
    rw [if_neg (by simp [hk'])]
    exact .inr ⟨hw, S, hr, fun v h' hS => ⟨.inr ⟨rfl, rfl⟩, (hl v h' hS).out (by simp at hk; simp; omega)⟩⟩⟩
theorem M.op {d : Nat} {op : Op} {ty : TypeId} {pos : String} {after : Array Edge} {rest : List Oper} {v : Value}
    (hv : ∀ h, G h → V P w0 n σ h op ty v) (hl : M P w0 n ops G wr lst Φ rest (k + 1) (upd σ d v) h) : M P w0 n ops G wr lst Φ (⟨some d, op, ty, pos, after, none⟩ :: rest) k σ h :=
  .rd (.inl ⟨rfl, fun h d' hG => (hv h hG).out d' _ _ _ _⟩) hl
theorem M.gyes {d : Nat} {op : Op} {ty : TypeId} {pos : String} {after : Array Edge} {rest : List Oper} {v : Value} {j dj : Nat} {b : Bool}
    (hd : (ops[j]?).bind (·.dst) = some dj) (hs : ev n σ (.tmp dj) = .bool b)
    (hv : ∀ h, G h → V P w0 n σ h op ty v) (hl : M P w0 n ops G wr lst Φ rest (k + 1) (upd σ d v) h) : M P w0 n ops G wr lst Φ (⟨some d, op, ty, pos, after, some (j, b)⟩ :: rest) k σ h :=
  .rd (.inl ⟨by simp [Region.wanted, yielded_fr hd hs], fun h d' hG => (hv h hG).out d' _ _ _ _⟩) hl
theorem M.gno {d : Nat} {op : Op} {ty : TypeId} {pos : String} {after : Array Edge} {rest : List Oper} {j dj : Nat} {b b' : Bool}
    (hd : (ops[j]?).bind (·.dst) = some dj) (hs : ev n σ (.tmp dj) = .bool b') (hb : b' ≠ b)
    (hl : M P w0 n ops G wr lst Φ rest (k + 1) (upd σ d undef) h) : M P w0 n ops G wr lst Φ (⟨some d, op, ty, pos, after, some (j, b)⟩ :: rest) k σ h :=
  .rd (.inr ⟨by simp [Region.wanted, yielded_fr hd hs, hb], rfl⟩) hl
theorem M.gundef {d : Nat} {op : Op} {ty : TypeId} {pos : String} {after : Array Edge} {rest : List Oper} {j dj : Nat} {b : Bool}
    (hd : (ops[j]?).bind (·.dst) = some dj) (hs : ev n σ (.tmp dj) = undef)
    (hl : M P w0 n ops G wr lst Φ rest (k + 1) (upd σ d undef) h) : M P w0 n ops G wr lst Φ (⟨some d, op, ty, pos, after, some (j, b)⟩ :: rest) k σ h :=
  .rd (.inr ⟨by simp [Region.wanted, yielded_undef hd hs], rfl⟩) hl
theorem D.wrt {o : Oper} {S : Value → Heap → Prop} (hw : Region.wanted o (yielded ops (fr n σ).tmps) = true) (hd : D P w0 n σ h o.op o.type S) : Wr P w0 n ops o S σ h :=
  ⟨hw, by obtain ⟨v, h', _, _, hS⟩ := hd.out 0 o.dst o.pos o.after o.guard; exact ⟨v, h', hS⟩, fun d => by
    obtain ⟨v, h', d', hr, hS⟩ := hd.out d o.dst o.pos o.after o.guard
    rcases hr with hr | ⟨hr, rfl⟩
    · rw [hr]; exact ⟨h', d', rfl, hS⟩
    · rw [hr]; exact ⟨h', d', rfl, hS⟩⟩
theorem M.do1 {d : Nat} {op : Op} {ty : TypeId} {pos : String} {after : Array Edge} {rest : List Oper} {S : Value → Heap → Prop}
    (hw : wr k = true) (hd : D P w0 n σ h op ty S) (hl : ∀ v h', S v h' → G h' ∧ M P w0 n ops G wr lst Φ rest (k + 1) (upd σ d v) h') : M P w0 n ops G wr lst Φ (⟨some d, op, ty, pos, after, none⟩ :: rest) k σ h :=
  .wrt hw (D.wrt rfl hd) hl
theorem M.do0 {op : Op} {ty : TypeId} {pos : String} {after : Array Edge} {rest : List Oper} {S : Value → Heap → Prop}
    (hw : wr k = true) (hd : D P w0 n σ h op ty S) (hl : ∀ v h', S v h' → G h' ∧ M P w0 n ops G wr lst Φ rest (k + 1) σ h') : M P w0 n ops G wr lst Φ (⟨none, op, ty, pos, after, none⟩ :: rest) k σ h :=
  .wrt hw (D.wrt rfl hd) hl
theorem M.last0 {op : Op} {ty : TypeId} {pos : String} {after : Array Edge} {S : Value → Heap → Prop}
    (hw : wr k = true) (hd : D P w0 n σ h op ty S) (hl : ∀ v h', S v h' → M P w0 n ops G wr true Φ [] (k + 1) σ h') : M P w0 n ops G wr true Φ [⟨none, op, ty, pos, after, none⟩] k σ h :=
  .wrtl hw (D.wrt rfl hd) hl
theorem call_wr {f : FuncId} [he : Enters P f] {o : Oper} {l : List Operand} {ats : Array TypeId} {vals : List Value} {S : Value → Heap → Prop}
    (hw : Region.wanted o (yielded ops (fr n σ).tmps) = true) (ho : o.op = .call { callee := .value (.func f), args := l.toArray, argTypes := ats })
    (hv : l.map (ev n σ) = vals) (hc : Ret P f vals h S) : Wr P w0 n ops o S σ h :=
  ⟨hw, by
    obtain ⟨e, w', _, ⟨v, _, h', d', _, hS⟩, _⟩ := hc (wld w0 h 0) rfl []
    exact ⟨v, h', hS⟩, fun d => by
    rw [exec_call he ho hv]
    exact (hc (wld w0 h d) rfl).mono fun e w' ⟨v, e, h', d', hw', hS⟩ => ⟨v, e, h', d', hw', hS⟩⟩
theorem M.c1 {f : FuncId} [he : Enters P f] {d : Nat} {ty : TypeId} {pos : String} {after : Array Edge} {rest : List Oper} {l : List Operand} {ats : Array TypeId} {vals : List Value} {S : Value → Heap → Prop}
    (hw : wr k = true) (hv : l.map (ev n σ) = vals) (hc : Ret P f vals h S) (hl : ∀ v h', S v h' → G h' ∧ M P w0 n ops G wr lst Φ rest (k + 1) (upd σ d v) h') :
    M P w0 n ops G wr lst Φ (⟨some d, .call { callee := .value (.func f), args := l.toArray, argTypes := ats }, ty, pos, after, none⟩ :: rest) k σ h := .wrt hw (call_wr rfl rfl hv hc) hl
theorem M.c1g {f : FuncId} [he : Enters P f] {d : Nat} {ty : TypeId} {pos : String} {after : Array Edge} {rest : List Oper} {l : List Operand} {ats : Array TypeId} {vals : List Value} {S : Value → Heap → Prop} {j dj : Nat} {b : Bool}
    (hw : wr k = true) (hd : (ops[j]?).bind (·.dst) = some dj) (hs : ev n σ (.tmp dj) = .bool b) (hv : l.map (ev n σ) = vals) (hc : Ret P f vals h S) (hl : ∀ v h', S v h' → G h' ∧ M P w0 n ops G wr lst Φ rest (k + 1) (upd σ d v) h') :
    M P w0 n ops G wr lst Φ (⟨some d, .call { callee := .value (.func f), args := l.toArray, argTypes := ats }, ty, pos, after, some (j, b)⟩ :: rest) k σ h := .wrt hw (call_wr (by simp [Region.wanted, yielded_fr hd hs]) rfl hv hc) hl
/-- an operation of the chain that reads what the chain has made -/
theorem V.d {op : Op} {ty : TypeId} {v : Value} (hv : V P w0 n σ h op ty v) : D P w0 n σ h op ty (fun u h' => u = v ∧ h' = h) :=
  ⟨fun d dst pos after g => ⟨v, h, d, .inl (hv.out d dst pos after g), rfl, rfl⟩⟩
theorem M.gdo1 {d : Nat} {op : Op} {ty : TypeId} {pos : String} {after : Array Edge} {rest : List Oper} {S : Value → Heap → Prop} {j dj : Nat} {b : Bool}
    (hw : wr k = true) (hdj : (ops[j]?).bind (·.dst) = some dj) (hs : ev n σ (.tmp dj) = .bool b) (hd : D P w0 n σ h op ty S) (hl : ∀ v h', S v h' → G h' ∧ M P w0 n ops G wr lst Φ rest (k + 1) (upd σ d v) h') : M P w0 n ops G wr lst Φ (⟨some d, op, ty, pos, after, some (j, b)⟩ :: rest) k σ h :=
  .wrt hw (D.wrt (by simp [Region.wanted, yielded_fr hdj hs]) hd) hl
end
end Go.Proofs.YtoggdigclbcndaaDoor.E
