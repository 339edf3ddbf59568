/- Whatever file and number: ScriptOdd answers true, and its arguments read as they did. -/
import Derived.Test.YtaejhdmkjodefaaGreatDoorRows
import Derived.Test.YtaejhdmkjodefaaGreatDoorCards
import Derived.Test.YtaejhdmkjodefaaGreatDoorTie
import Derived.Test.YtaejhdmkjodefaaGreatDoorJLines
import Derived.Test.YtaejhdmkjodefaaGreatDoorJFScriptOddD
import Derived.ProofKit
import Derived.LaidMore
import Derived.Lay
import Derived.OpenShut
import Derived.ShutString
import Derived.ChangeOld
import Derived.Stop.LaidErr
import Derived.Stop.Joined
import Derived.SevenTiedAt
set_option linter.unusedSimpArgs false
set_option linter.unusedVariables false
namespace Go.Proofs.YtaejhdmkjodefaaGreatDoor
open Go.ChangeShapes Go.WideShapes Go.ChangeAt Go.RowKit
open Go.ChangeMaps (open_string shut_string)

theorem own : ownKnob Tryz.prog.godebug = none := by kernel_rfl
theorem gPow : Tryz.prog.globalNamed "internal/strconv.uint64pow10" = some 1 := by kernel_rfl
theorem gPowT : (Tryz.prog.globals[1]?).map (·.type) = some 350 := by kernel_rfl
theorem laid_met (os : Os) (args : Array Value) : laidMetH Tryz.prog Rows.scriptOddRow.laid ((World.laidAll Tryz.prog os Rows.scriptOddRow.laid).forCall (fun _ _ => 0) ⟨#[], args, []⟩).memory := by
  rw [MakeChecks.laidMetH_plain _ _ _ (by kernel_rfl)]
  exact laidMet_laidAll _ (by kernel_rfl) (by kernel_rfl)
theorem pow_of_laid {W : World} (h : laidMetH Tryz.prog Rows.scriptOddRow.laid W) : Lw.PowTab W := by
  rw [MakeChecks.laidMetH_plain _ _ _ (by kernel_rfl)] at h
  exact Lib.tabIs_of_head gPow gPowT Tryz.underlying350 Tryz.underlying112 (by kernel_rfl) (by kernel_rfl) h.tail.tail
set_option maxRecDepth 100000 in
theorem odd_lifted (os : Os) (started : os.Started) (H : Type) (enc : TypeId × Value → H) :
    ReturnsInHanded {} Tryz.checked os 3 .any (fun w args => (Rows.scriptOddSpec.pre enc Tryz.prog Tryz.f3 [] false w args ∧ laidMetH Tryz.prog Rows.scriptOddRow.laid w) ∧ sizedMet enc Tryz.prog Tryz.f3 (OpenSpec.ofChange Rows.scriptOddSpec) false w args)
      (Rows.scriptOddSpec.post enc Tryz.prog Tryz.f3 false true false false) := by
  refine returnsInHanded_of_change_and (C := Tryz.checked) (X := fun w _ => laidMetH Tryz.prog Rows.scriptOddRow.laid w) (fun _ _ _ hh h => h.of_heap hh) own started (by kernel_rfl) Tryz.func3
    (ChangeSpec.witness_shaped (enc := enc) (C := Tryz.checked) (os := os) (X := fun w _ => laidMetH Tryz.prog Rows.scriptOddRow.laid w) false (World.laidAll Tryz.prog os Rows.scriptOddRow.laid) #[.string ByteArray.empty, .int .u8 0] 8 (World.laidAll_os _ _ _) (World.shaped_of_ZipB (by kernel_rfl) (by kernel_rfl)) (by kernel_rfl) (by kernel_rfl) (by kernel_rfl) (laid_met os _)) ?_
  intro W base args ds gs before hval0 hW _ _ hL _
  have hval : ∀ (j : Nat) t v, Tryz.f3.params[j]? = some t → args[j]? = some v → Value.okWide Tryz.prog W .any base t v := hval0
  have hW' := hW
  obtain ⟨p, q, hA0, hV, rfl, hfz, hnd⟩ := hW
  have hA : DataW.TrodAll enc Tryz.prog W 0 (fun _ => true) true Tryz.f3.params.toList args.toList ds p := hA0
  rw [Tryz.params3] at hA hval
  obtain ⟨v0, vs0, d0, ds0, p0, q0, hargs, rfl, rfl, h0, r0⟩ := trodAll_cons hA
  obtain ⟨v1, vs1, d1, ds1, p1, q1, rfl, rfl, rfl, h1, r1⟩ := trodAll_cons r0
  obtain ⟨rfl, rfl, rfl⟩ := trodAll_nil r1
  obtain rfl : args = #[v0, v1] := by cases args; simp_all
  obtain ⟨rfl, rfl⟩ := trodVars_none hV
  obtain ⟨a0, rfl, rfl, rfl, y0⟩ := open_string Tryz.underlying9 (hval 0 9 v0 rfl rfl) h0
  obtain ⟨a1, rfl, rfl, rfl, w1⟩ := open_int Tryz.underlying5 (hval 1 5 v1 rfl rfl) h1
  have hT := pow_of_laid hL
  obtain ⟨n, rfl, hn⟩ : ∃ n : Nat, a1 = (n : Int) ∧ n < 256 := by
    have h := w1
    simp only [Lit.wf, Bool.and_eq_true, decide_eq_true_eq] at h
    have m1 : IntKind.min .u8 = 0 := by decide
    have m2 : IntKind.max .u8 = 255 := by decide
    rw [m1, m2] at h
    exact ⟨a1.toNat, by omega, by omega⟩
  clear hA0 hval0
  refine (Lw.odd_law a0 n hn y0 W hT).mono fun e W' ⟨he, bel⟩ => ?_
  subst he
  exact ⟨_, rfl, _, _, _, [], _, [], hW', trodAll_mk1 (shut_bool Tryz.underlying4 _), (trodAll_cons_mk (shut_string Tryz.underlying9 y0) (trodAll_cons_mk (shut_int Tryz.underlying5 w1) trodAll_mk0)), rfl, bel.frame _, fun h => by cases h⟩
theorem scriptOdd_holds : Rows.ScriptOddSaid :=
  OpenClaim.holds_of_wide 3 Tryz.f3 rfl rfl rfl rfl rfl rfl rfl ⟨rfl, rfl, rfl, rfl, rfl⟩ rfl rfl rfl rfl rfl scriptOdd_named Tryz.func3 scriptOdd_closed scriptOdd_inst scriptOdd_wrap
    (fun os started H enc _ => odd_lifted os started H enc)
theorem odd_standIn : ([9, 5].all fun u => !Tryz.prog.wantsStandIn u) = true := by kernel_rfl
theorem scriptOdd_card : Rows.ScriptOddCardSaid :=
  Claim7.holds_tied_plain_at .later [] [.data, .data, .data, .data, .pinned] true (true, "ce85d9fd9a01770aa1057b9a4e541d57dbbd48449aaa904e1561c97871fb6841") true
    scriptOdd_holds (fun _ h => by cases h) scriptOdd_wfText (fun _ h => by cases h) scriptOdd_row_tie rfl ⟨rfl, rfl⟩ scriptOdd_main rfl
    (fun f fn hf hfn => by
      obtain rfl : f = 3 := Option.some.inj (scriptOdd_named.symm.trans hf) |>.symm
      obtain rfl : fn = Tryz.f3 := (Option.some.inj (Tryz.func3.symm.trans hfn)).symm
      exact ⟨scriptOdd_looks, fun j t ht => by
        rw [Tryz.params3] at ht
        have hm : t ∈ [9, 5] := by simpa using Array.mem_of_getElem? ht
        exact (show Tryz.prog.wantsStandIn t = false by simpa using List.all_eq_true.1 odd_standIn t hm)⟩)
    scriptOdd_goes
#print axioms scriptOdd_card
end Go.Proofs.YtaejhdmkjodefaaGreatDoor
