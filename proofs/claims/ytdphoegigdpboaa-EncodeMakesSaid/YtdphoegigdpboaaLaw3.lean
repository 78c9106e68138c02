/-
  The law EncodeMakes, walked: it returns true, and nothing that was there is turned.
-/
import Derived.Test.YtdphoegigdpboaaLaw2
set_option linter.unusedVariables false
set_option linter.unusedSimpArgs false
namespace Go.Proofs.Ytdphoegigdpboaa.E
open Go Go.Proofs
set_option maxRecDepth 100000
section
variable {P : Program} {w0 : World} {n : Nat} {σ : Slots} {h : Heap} {ops : Array Oper} {Φ : Post}
theorem L.cqg {f : FuncId} [he : Enters P f] {d : Nat} {ty : TypeId} {pos : String} {after : Array Edge} {rest : List Oper} {l : List Operand} {ats : Array TypeId} {vals : List Value} {v : Value} {j dj : Nat} {b : Bool}
    (hd : (ops[j]?).bind (·.dst) = some dj) (hs : ev n σ (.tmp dj) = .bool b) (hv : l.map (ev n σ) = vals) (hc : RetQ P f vals h v) (hl : L P w0 n ops .seq Φ rest (upd σ d v) h) :
    L P w0 n ops .seq Φ (⟨some d, .call { callee := .value (.func f), args := l.toArray, argTypes := ats }, ty, pos, after, some (j, b)⟩ :: rest) σ h :=
  L.callq (by intro h; cases h) (by simp [Region.wanted, yielded_fr hd hs]) hv hc hl
end
/-- what the document says a symbol is -/
def symD (bss : List (List UInt8)) (m : Nat) (id : UInt32) : List UInt8 := axs m (bss.map (fill · m)) (rowOf bss.length id)
theorem emakes_c {p : Nat → Prop} (A I : Option Addr) (c ci : Nat) (bss : List (List UInt8)) (size : Int) (ids : List UInt32) (h : Heap) (hA : Bss p h A bss) (hI : Row h I (ids32 ids)) :
    Ret Try.prog 3 [.slice A bss.length c, .int .i64 size, .slice I ids.length ci] h (fun v h' => v = .bool true ∧ Ext h h') := by
  refine Ret.enter Try.func3 rfl Try.ntmps3 (by show 3 ≤ 106; decide) fun w0 => ?_
  refine run ?_
  refine L.c1 rfl (awake_c h) ?_
  rintro _ h1 ⟨rfl, x1⟩
  have hA1 := hA.ext x1
  have hI1 := hI.ext x1
  obtain ⟨b, hS, hb⟩ := sources_c A c bss h1 hA1
  refine run ?_
  refine L.cqg rfl rfl rfl hS ?_
  cases b with
  | false =>
    refine run ?_
    refine L.c1 rfl (awake_c h1) ?_
    rintro _ h2 ⟨rfl, x2⟩
    refine run ?_
    exact ret1 rfl (by constructor) ⟨rfl, x1.trans x2⟩
  | true =>
    have hlk := hb rfl
    obtain ⟨hl70, hl300⟩ := hlk
    by_cases h70 : 70 < ids.length
    · refine run ?_
      refine L.c1 rfl (awake_c h1) ?_
      rintro _ h2 ⟨rfl, x2⟩
      refine run ?_
      exact ret1 rfl (by constructor) ⟨rfl, x1.trans x2⟩
    · refine run ?_
      by_cases hbad : bad bss size = 0
      · obtain ⟨hm1, hm2, hk1, hk2, hlen⟩ := bad_zero hbad
        obtain ⟨m, rfl⟩ : ∃ m : Nat, size = (m : Int) := ⟨size.toNat, by omega⟩
        by_cases h64 : 64 < ids.length
        · refine L.c1 rfl (symbols_many A I c ci ids.length bss m h1 hA1 hbad h64) ?_
          rintro _ h2 ⟨rfl, x2⟩
          refine run ?_
          have hw := rwrong_c A c bss (m : Int) h2 (hA1.ext x2) (by omega)
          rw [hbad] at hw
          refine L.cq rfl hw ?_
          refine run ?_
          exact ret1 rfl (by constructor) ⟨rfl, x1.trans x2⟩
        · refine L.c1 rfl (symbols_c A I c ci bss m ids h1 hA1 hI1 hbad (by omega)) ?_
          rintro _ h2 ⟨⟨v, outs, rfl, hob, hol, hall⟩, x2⟩
          obtain ⟨B, cb, rfl, hcb, hcm, hB⟩ := hob.bss
          refine run ?_
          have hw := rwrong_c A c bss (m : Int) h2 (hA1.ext x2) (by omega)
          rw [hbad] at hw
          refine L.cq rfl hw ?_
          refine run ?_
          refine C.loopv (fun k l h' => ∃ i, i ≤ ids.length ∧ k = ids.length - i ∧ Ext h2 h' ∧
            l = [(0, .slice A bss.length c), (1, .int .i64 (m : Int)), (2, .slice I ids.length ci), (7, .slice B outs.length cb), (63, .int .i64 (ids.length : Int)), (64, .int .i64 (i : Int))]) ids.length _ ⟨0, by omega, by omega, Mods.refl _ _, rfl⟩ ⟨rfl, rfl, rfl, rfl, rfl, rfl, trivial⟩ ?_
          rintro k l h' τ ⟨i, hi, rfl, hx, rfl⟩
          by_cases hlt : i < ids.length
          · obtain ⟨a, rfl, hc⟩ := (hI1.ext (x2.trans hx)).cell (i := i) (by simp [ids32]; exact hlt)
            have hci : cellH h' (a.add i) = some (u32v ids[i]) := by rw [hc]; simp [ids32]
            refine run ?_
            refine L.op (V.idx rfl rfl (by omega) (by omega)) ?_
            refine L.op (V.load (v := u32v ids[i]) rfl (by simpa using hci)) ?_
            refine L.c1 rfl (esymbol_c A c bss m ids[i] h' (hA1.ext (x2.trans hx)) hbad) ?_
            rintro _ h3 ⟨⟨v, ps, rfl, hp, hv⟩, x3⟩
            rw [plain bss m ids[i] ps hk1 hp] at hv
            change BsP _ _ _ (symD bss m ids[i]) at hv
            obtain ⟨A3, c3, rfl, hr3⟩ := hv.slice
            obtain ⟨aB, Ai, cj, rfl, hcB, hcj, hri⟩ := (hB.ext (hx.trans x3)).at_ (i := i) (by omega)
            obtain ⟨qs, hq, hqe⟩ := hall i hlt (by omega)
            rw [plain bss m ids[i] qs hk1 hq] at hqe
            change outs[i] = symD bss m ids[i] at hqe
            rw [hqe] at hcB hri
            have hcB' : cellH h3 (aB.add ((i : Int).toNat * 1)) = some (.slice Ai (symD bss m ids[i]).length cj) := by simpa using hcB
            have hci' : cellH h' (a.add ((i : Int).toNat * 1)) = some (u32v ids[i]) := by simpa using hci
            refine run ?_
            refine C.mix (fun hh => Ext h3 hh) (fun i => i == 23 || i == 24 || i == 25) mixed (by kernel_rfl) (Mods.refl _ _) ?_
            refine run ?_
            refine M.gyes rfl rfl (fun hh hG => V.strOf rfl (hr3.ext hG)) ?_
            refine run ?_
            refine M.gyes rfl rfl (fun hh hG => V.idx rfl rfl (by omega) (by omega)) ?_
            refine M.gyes rfl rfl (fun hh hG => V.load (v := .slice Ai (symD bss m ids[i]).length cj) rfl (Mods.cell hG hcB')) ?_
            refine M.gyes rfl rfl (fun hh hG => V.strOf rfl (hri.ext hG)) ?_
            refine M.gyes rfl rfl (fun hh hG => V.neqStr rfl rfl) ?_
            refine run ?_
            refine M.gyes rfl rfl (fun hh hG => V.strOf rfl (hr3.ext hG)) ?_
            refine run ?_
            refine M.gyes rfl rfl (fun hh hG => V.idx rfl rfl (by omega) (by omega)) ?_
            refine M.gyes rfl rfl (fun hh hG => V.load (v := u32v ids[i]) rfl (Mods.cell (x3.trans hG) hci')) ?_
            refine M.c1g rfl rfl rfl rfl (rrow_c bss.length ids[i] h3 hk1 hk2) ?_
            rintro v4 h4 ⟨hv4, x4⟩
            refine ⟨x4, ?_⟩
            have hrl : (rowOf bss.length ids[i]).length = bss.length := rowP_len _ _ (runP_len _ _ _) _ (Nat.le_refl _)
            obtain ⟨A4, c4, rfl, hr4⟩ := hv4.slice
            rw [hrl]
            refine M.c1g rfl rfl rfl rfl (rsymbol_c A A4 c c4 bss m (rowOf bss.length ids[i]) h4 (hA1.ext ((x2.trans hx).trans (x3.trans x4))) hr4 hrl (by omega) (by omega)) ?_
            rintro v5 h5 ⟨hv5, x5⟩
            refine ⟨x4.trans x5, ?_⟩
            change BsP _ _ _ (symD bss m ids[i]) at hv5
            obtain ⟨A5, c5, rfl, hr5⟩ := hv5.slice
            refine M.gdo1 rfl rfl rfl (V.d (V.strOf rfl hr5)) ?_
            rintro _ h6 ⟨rfl, rfl⟩
            refine ⟨x4.trans x5, ?_⟩
            refine M.gyes rfl rfl (fun hh hG => V.neqStr rfl rfl) ?_
            refine run ?_
            exact ⟨_, _, by omega, ⟨i + 1, by omega, rfl, hx.trans (x3.trans (x4.trans x5)), rfl⟩, rfl, rfl, rfl, rfl, rfl, int_eq (by omega), trivial⟩
          · refine run ?_
            exact ret1 rfl (by constructor) ⟨rfl, x1.trans (x2.trans hx)⟩
      · refine L.c1 rfl (symbols_bad A I c ci ids.length bss size h1 hA1 (by omega) hbad) ?_
        rintro _ h2 ⟨rfl, x2⟩
        refine run ?_
        refine L.cq rfl (rwrong_c A c bss size h2 (hA1.ext x2) (by omega)) ?_
        have hb0 : (bad bss size : Int) ≠ 0 := by omega
        refine run ?_
        exact ret1 rfl (by constructor) ⟨rfl, x1.trans x2⟩
end Go.Proofs.Ytdphoegigdpboaa.E
