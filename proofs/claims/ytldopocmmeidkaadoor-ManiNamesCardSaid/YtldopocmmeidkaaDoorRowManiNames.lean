/- The law ManiNames is true at every input: its row, out of its walk. -/
import Derived.Test.YtldopocmmeidkaaDoorManiNames
import Derived.Test.YtldopocmmeidkaaDoorSentRow
import Derived.Test.YtldopocmmeidkaaDoorTie
import Derived.Test.YtldopocmmeidkaaDoorCards
import Derived.LaidHandle
import Derived.OpenShut
import Derived.Stop.LaidErr
import Derived.Lib.LaidTab
import Derived.Test.YtldopocmmeidkaaDoorNameLib
namespace Go.Proofs.YtldopocmmeidkaaDoor.maniNames
open Go Go.ChangeShapes Go.WideShapes Go.ChangeAt Go.RowKit
open Go.ChangeMaps (open_string shut_string)
set_option linter.unusedVariables false

def laid : List (String × DataW Unit) := [("math/bits.deBruijn32tab", Rows.laid_math_bits_deBruijn32tab), ("math/bits.deBruijn64tab", Rows.laid_math_bits_deBruijn64tab), ("internal/strconv.uint64pow10", Rows.laid_internal_strconv_uint64pow10), ("cordwood/api.ErrEnd", Rows.laid_cordwood_api_ErrEnd), ("cordwood/api.ErrSum", Rows.laid_cordwood_api_ErrSum), ("cordwood/api.ErrShape", Rows.laid_cordwood_api_ErrShape), ("cordwood/api.ErrMany", Rows.laid_cordwood_api_ErrMany), ("cordwood/api.ErrRange", Rows.laid_cordwood_api_ErrRange), ("cordwood/api.ErrName", Rows.laid_cordwood_api_ErrName), ("cordwood/api.ErrNone", Rows.laid_cordwood_api_ErrNone), ("cordwood/api.ErrThere", Rows.laid_cordwood_api_ErrThere), ("cordwood/api.ErrFull", Rows.laid_cordwood_api_ErrFull), ("cordwood/api.ErrCrash", Rows.laid_cordwood_api_ErrCrash), ("cordwood/api.ErrStore", Rows.laid_cordwood_api_ErrStore), ("cordwood/api.ErrKind", Rows.laid_cordwood_api_ErrKind), ("cordwood/api.ErrState", Rows.laid_cordwood_api_ErrState), ("cordwood/api.ErrFenced", Rows.laid_cordwood_api_ErrFenced), ("cordwood/api.ErrOutside", Rows.laid_cordwood_api_ErrOutside), ("cordwood/api.ErrUnavail", Rows.laid_cordwood_api_ErrUnavail), ("cordwood/api.ErrWord", Rows.laid_cordwood_api_ErrWord), ("cordwood/api.ErrNumber", Rows.laid_cordwood_api_ErrNumber), ("cordwood/api.ErrClosed", Rows.laid_cordwood_api_ErrClosed)]
def cs : List Nat := [0, 1, 2, 3, 4, 5, 6, 7, 8, 9, 10, 11, 12, 13, 14, 15, 16, 17, 18]

set_option maxRecDepth 100000 in
theorem door_met (os : Os) (args : Array Value) : laidMetH Tryd.prog laid ((World.doorLaid Tryd.prog 600 os).forCall (fun _ _ => 0) ⟨#[], args, []⟩).memory :=
  laidMetH_of_parts3 (fuel := 8) (laidMet_of_run' 8 (by kernel_rfl) (by kernel_rfl)) (by kernel_rfl) (by kernel_rfl)

def errs : List (String × DataW Unit) := [("cordwood/api.ErrEnd", Rows.laid_cordwood_api_ErrEnd), ("cordwood/api.ErrSum", Rows.laid_cordwood_api_ErrSum), ("cordwood/api.ErrShape", Rows.laid_cordwood_api_ErrShape), ("cordwood/api.ErrMany", Rows.laid_cordwood_api_ErrMany), ("cordwood/api.ErrRange", Rows.laid_cordwood_api_ErrRange), ("cordwood/api.ErrName", Rows.laid_cordwood_api_ErrName), ("cordwood/api.ErrNone", Rows.laid_cordwood_api_ErrNone), ("cordwood/api.ErrThere", Rows.laid_cordwood_api_ErrThere), ("cordwood/api.ErrFull", Rows.laid_cordwood_api_ErrFull), ("cordwood/api.ErrCrash", Rows.laid_cordwood_api_ErrCrash), ("cordwood/api.ErrStore", Rows.laid_cordwood_api_ErrStore), ("cordwood/api.ErrKind", Rows.laid_cordwood_api_ErrKind), ("cordwood/api.ErrState", Rows.laid_cordwood_api_ErrState), ("cordwood/api.ErrFenced", Rows.laid_cordwood_api_ErrFenced), ("cordwood/api.ErrOutside", Rows.laid_cordwood_api_ErrOutside), ("cordwood/api.ErrUnavail", Rows.laid_cordwood_api_ErrUnavail), ("cordwood/api.ErrWord", Rows.laid_cordwood_api_ErrWord), ("cordwood/api.ErrNumber", Rows.laid_cordwood_api_ErrNumber), ("cordwood/api.ErrClosed", Rows.laid_cordwood_api_ErrClosed)]
set_option maxRecDepth 100000 in
theorem sents {W : World} (h : laidMetH Tryd.prog laid W) : (∃ A, Sents cs W A) ∧ Tens W := by
  rw [MakeChecks.laidMetH_plain _ _ _ (by kernel_rfl)] at h
  have h0 : laidMet Tryd.prog (("internal/strconv.uint64pow10", Lib.tabData .u64 Lib.pow10Tab) :: ([] ++ errs)) W := h.tail.tail
  have he : laidMet Tryd.prog errs W := h0.tail
  refine ⟨?_, Lib.tabIs_of_head (t := 172) (e := 37) (n := 20) (g := 19) (by kernel_rfl) (by kernel_rfl) (by kernel_rfl) (by kernel_rfl) (by kernel_rfl) (by kernel_rfl) h0⟩
  exact sents_laid cs errs rfl (by kernel_rfl) (by intro i hi; simp only [cs, List.mem_cons, List.not_mem_nil, or_false] at hi; (repeat' (rcases hi with rfl | hi)); (all_goals (try subst hi)); all_goals exact ⟨_, rfl⟩)
    (by intro i hi; simp only [cs, List.mem_cons, List.not_mem_nil, or_false] at hi; (repeat' (rcases hi with rfl | hi)); (all_goals (try subst hi)); all_goals exact ⟨by kernel_rfl, by kernel_rfl⟩) (by rw [MakeChecks.laidMetH_plain _ _ _ (by kernel_rfl)]; exact he)

set_option maxRecDepth 100000 in
theorem lifted (os : Os) (started : os.Started) (H : Type) (enc : TypeId × Value → H) :
    ReturnsInHanded {} Tryd.checked os 8 .any (fun w args => (Rows.maniNamesSpec.pre enc Tryd.prog Tryd.f8 [] false w args ∧ laidMetH Tryd.prog laid w) ∧ sizedMet enc Tryd.prog Tryd.f8 (OpenSpec.ofChange Rows.maniNamesSpec) false w args)
      (Rows.maniNamesSpec.post enc Tryd.prog Tryd.f8 false true false false) := by
  refine returnsInHanded_of_change_and (C := Tryd.checked) (X := fun w _ => laidMetH Tryd.prog laid w) (fun _ _ _ hh h => h.of_heap hh) own started (by kernel_rfl) Tryd.func8
    (ChangeSpec.witness_shaped (enc := enc) (C := Tryd.checked) (os := os) (X := fun w _ => laidMetH Tryd.prog laid w) false (World.doorLaid Tryd.prog 600 os) #[.int .i64 0, .int .i64 0, .int .i64 0, .int .i64 0] 8 rfl (World.shaped_of_RefB (by kernel_rfl) (by kernel_rfl)) (by kernel_rfl) (by kernel_rfl) (by kernel_rfl) (door_met os _)) ?_
  intro W base args ds gs before hval0 hW _ _ hL _
  obtain ⟨⟨A0, hS⟩, hT⟩ := sents hL
  have hval : ∀ (j : Nat) t v, Tryd.f8.params[j]? = some t → args[j]? = some v → Value.okWide Tryd.prog W .any base t v := hval0
  have hW' := hW
  obtain ⟨p, q, hA0, hV, rfl, hfz, hnd⟩ := hW
  have hA : DataW.TrodAll enc Tryd.prog W 0 (fun _ => true) true Tryd.f8.params.toList args.toList ds p := hA0
  rw [Tryd.params8] at hA hval
  obtain ⟨v0, vs0, d0, ds0, p0, q0, hargs, rfl, rfl, h0, r0'⟩ := trodAll_cons hA
  obtain ⟨v1, vs1, d1, ds1, p1, q1, rfl, rfl, rfl, h1, r1'⟩ := trodAll_cons r0'
  obtain ⟨v2, vs2, d2, ds2, p2, q2, rfl, rfl, rfl, h2, r2'⟩ := trodAll_cons r1'
  obtain ⟨v3, vs3, d3, ds3, p3, q3, rfl, rfl, rfl, h3, r3'⟩ := trodAll_cons r2'
  obtain ⟨rfl, rfl, rfl⟩ := trodAll_nil r3'
  obtain rfl : args = #[v0, v1, v2, v3] := by cases args; simp_all
  obtain ⟨rfl, rfl⟩ := trodVars_none hV
  have k0 := h0
  have lt0 : ∀ x ∈ p0, x.block < W.heap.size := by obtain ⟨m, hm⟩ := k0; exact DataW.trod_lt m _ _ _ hm
  have k1 := h1
  have lt1 : ∀ x ∈ p1, x.block < W.heap.size := by obtain ⟨m, hm⟩ := k1; exact DataW.trod_lt m _ _ _ hm
  have k2 := h2
  have lt2 : ∀ x ∈ p2, x.block < W.heap.size := by obtain ⟨m, hm⟩ := k2; exact DataW.trod_lt m _ _ _ hm
  have k3 := h3
  have lt3 : ∀ x ∈ p3, x.block < W.heap.size := by obtain ⟨m, hm⟩ := k3; exact DataW.trod_lt m _ _ _ hm
  obtain ⟨a0, rfl, _, _, w0⟩ := open_int Tryd.underlying3 (hval 0 3 v0 rfl rfl) h0
  have b0 := i64_of_wf w0
  obtain ⟨a1, rfl, _, _, w1⟩ := open_int Tryd.underlying3 (hval 1 3 v1 rfl rfl) h1
  have b1 := i64_of_wf w1
  obtain ⟨a2, rfl, _, _, w2⟩ := open_int Tryd.underlying2 (hval 2 2 v2 rfl rfl) h2
  have b2 := i64_of_wf w2
  obtain ⟨a3, rfl, _, _, w3⟩ := open_int Tryd.underlying2 (hval 3 2 v3 rfl rfl) h3
  have b3 := i64_of_wf w3
  clear hA0 hval0
  refine (maniNames_walk cs A0 a0 a1 a2 a3 W hS (by unfold All cs; decide) hT).mono fun e W' ⟨he, bel⟩ => ?_
  subst he
  exact ⟨_, rfl, _, _, _, [], _, [], hW', trodAll_mk1 (shut_bool Tryd.underlying4 _), (trodAll_cons_mk (Below.trod laidOut (by kernel_rfl) (of_decide_eq_true (by kernel_rfl)) k0 bel lt0) (trodAll_cons_mk (Below.trod laidOut (by kernel_rfl) (of_decide_eq_true (by kernel_rfl)) k1 bel lt1) (trodAll_cons_mk (Below.trod laidOut (by kernel_rfl) (of_decide_eq_true (by kernel_rfl)) k2 bel lt2) (trodAll_cons_mk (Below.trod laidOut (by kernel_rfl) (of_decide_eq_true (by kernel_rfl)) k3 bel lt3) trodAll_mk0)))), rfl, bel.frame _, fun h => by cases h⟩

theorem over : Rows.maniNamesRow.holds Tryd.pinned (OpenSpec.ofChange Rows.maniNamesSpec) :=
  OpenClaim.holds_of_wide 8 Tryd.f8 rfl rfl rfl rfl rfl rfl rfl ⟨rfl, rfl, rfl, rfl, rfl⟩ rfl rfl rfl rfl rfl (by kernel_rfl) Tryd.func8 (by kernel_rfl)
    (of_decide_eq_true (by kernel_rfl)) (by unfold Func.isWrapper; first | (rw [if_pos (by decide +kernel)]; kernel_rfl) | (rw [if_neg (by decide +kernel)]; exact ⟨rfl, rfl⟩))
    (fun os started H enc _ => lifted os started H enc)

theorem card_holds : Rows.ManiNamesCardSaid :=
  Claim7.holds_tied_plain_at .later [] [.data, .data, .data, .sentinel, .sentinel, .sentinel, .sentinel, .sentinel, .sentinel, .sentinel, .sentinel, .sentinel, .sentinel, .sentinel, .sentinel, .sentinel, .sentinel, .sentinel, .sentinel, .sentinel, .sentinel, .sentinel] true (true, "620a589c2f6d3161ded37ea9eb1231d87c81ae72981e7f2e90a12bad9b19292a") true
    over (fun _ h => by cases h) (by kernel_rfl) (fun _ h => by cases h) maniNames_row_tie rfl ⟨rfl, rfl⟩ (by kernel_rfl) rfl
    (fun f fn hf hfn => by
      obtain rfl : f = 8 := Option.some.inj ((show Tryd.prog.funcNamed "cordwood/cordwoodlaw14.ManiNames" = some 8 by kernel_rfl).symm.trans hf) |>.symm
      obtain rfl : fn = Tryd.f8 := (Option.some.inj (Tryd.func8.symm.trans hfn)).symm
      exact ⟨by kernel_rfl, fun j t ht => by
        rw [Tryd.params8] at ht
        have hm : t ∈ [3, 3, 2, 2] := by simpa using Array.mem_of_getElem? ht
        have hall : ([3, 3, 2, 2].all fun u => !Tryd.prog.wantsStandIn u) = true := by kernel_rfl
        exact (show Tryd.prog.wantsStandIn t = false by simpa using List.all_eq_true.1 hall t hm)⟩)
    (by kernel_rfl)

theorem proved : Rows.ManiNamesCardSaid := card_holds
#print axioms proved
end Go.Proofs.YtldopocmmeidkaaDoor.maniNames
