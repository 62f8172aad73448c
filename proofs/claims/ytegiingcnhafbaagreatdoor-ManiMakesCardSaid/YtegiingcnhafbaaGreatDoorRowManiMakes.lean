/- The law ManiMakes is true at every input: its row, out of its walk. -/
import Derived.Test.YtegiingcnhafbaaGreatDoorManiMakes
import Derived.Test.YtegiingcnhafbaaGreatDoorRowPair
import Derived.Test.YtegiingcnhafbaaGreatDoorSentRow
import Derived.Test.YtegiingcnhafbaaGreatDoorTie
import Derived.Test.YtegiingcnhafbaaGreatDoorCards
import Derived.LaidHandle
import Derived.OpenShut
import Derived.Stop.LaidErr
import Derived.Lib.LaidTab
import Derived.Test.YtegiingcnhafbaaGreatDoorNameLib
namespace Go.Proofs.YtegiingcnhafbaaGreatDoor.maniMakes
open Go Go.ChangeShapes Go.WideShapes Go.ChangeAt Go.RowKit
open Go.ChangeMaps (open_string shut_string)
set_option linter.unusedVariables false

def laid : List (String × DataW Unit) := [("math/bits.deBruijn32tab", Rows.laid_math_bits_deBruijn32tab), ("math/bits.deBruijn64tab", Rows.laid_math_bits_deBruijn64tab), ("internal/strconv.uint64pow10", Rows.laid_internal_strconv_uint64pow10), ("cordwood/api.ErrEnd", Rows.laid_cordwood_api_ErrEnd), ("cordwood/api.ErrSum", Rows.laid_cordwood_api_ErrSum), ("cordwood/api.ErrShape", Rows.laid_cordwood_api_ErrShape), ("cordwood/api.ErrMany", Rows.laid_cordwood_api_ErrMany), ("cordwood/api.ErrRange", Rows.laid_cordwood_api_ErrRange), ("cordwood/api.ErrName", Rows.laid_cordwood_api_ErrName), ("cordwood/api.ErrNone", Rows.laid_cordwood_api_ErrNone), ("cordwood/api.ErrThere", Rows.laid_cordwood_api_ErrThere), ("cordwood/api.ErrFull", Rows.laid_cordwood_api_ErrFull), ("cordwood/api.ErrCrash", Rows.laid_cordwood_api_ErrCrash), ("cordwood/api.ErrStore", Rows.laid_cordwood_api_ErrStore), ("cordwood/api.ErrKind", Rows.laid_cordwood_api_ErrKind), ("cordwood/api.ErrState", Rows.laid_cordwood_api_ErrState), ("cordwood/api.ErrFenced", Rows.laid_cordwood_api_ErrFenced), ("cordwood/api.ErrOutside", Rows.laid_cordwood_api_ErrOutside), ("cordwood/api.ErrUnavail", Rows.laid_cordwood_api_ErrUnavail), ("cordwood/api.ErrWord", Rows.laid_cordwood_api_ErrWord), ("cordwood/api.ErrNumber", Rows.laid_cordwood_api_ErrNumber), ("cordwood/api.ErrClosed", Rows.laid_cordwood_api_ErrClosed)]
def cs : List Nat := [0, 1, 2, 3, 4, 5, 6, 7, 8, 9, 10, 11, 12, 13, 14, 15, 16, 17, 18]

set_option maxRecDepth 100000 in
theorem door_met (os : Os) (args : Array Value) : laidMetH Tryz.prog laid ((World.doorLaid Tryz.prog 600 os).forCall (fun _ _ => 0) ⟨#[], args, []⟩).memory :=
  laidMetH_of_parts3 (fuel := 8) (laidMet_of_run' 8 (by kernel_rfl) (by kernel_rfl)) (by kernel_rfl) (by kernel_rfl)

def errs : List (String × DataW Unit) := [("cordwood/api.ErrEnd", Rows.laid_cordwood_api_ErrEnd), ("cordwood/api.ErrSum", Rows.laid_cordwood_api_ErrSum), ("cordwood/api.ErrShape", Rows.laid_cordwood_api_ErrShape), ("cordwood/api.ErrMany", Rows.laid_cordwood_api_ErrMany), ("cordwood/api.ErrRange", Rows.laid_cordwood_api_ErrRange), ("cordwood/api.ErrName", Rows.laid_cordwood_api_ErrName), ("cordwood/api.ErrNone", Rows.laid_cordwood_api_ErrNone), ("cordwood/api.ErrThere", Rows.laid_cordwood_api_ErrThere), ("cordwood/api.ErrFull", Rows.laid_cordwood_api_ErrFull), ("cordwood/api.ErrCrash", Rows.laid_cordwood_api_ErrCrash), ("cordwood/api.ErrStore", Rows.laid_cordwood_api_ErrStore), ("cordwood/api.ErrKind", Rows.laid_cordwood_api_ErrKind), ("cordwood/api.ErrState", Rows.laid_cordwood_api_ErrState), ("cordwood/api.ErrFenced", Rows.laid_cordwood_api_ErrFenced), ("cordwood/api.ErrOutside", Rows.laid_cordwood_api_ErrOutside), ("cordwood/api.ErrUnavail", Rows.laid_cordwood_api_ErrUnavail), ("cordwood/api.ErrWord", Rows.laid_cordwood_api_ErrWord), ("cordwood/api.ErrNumber", Rows.laid_cordwood_api_ErrNumber), ("cordwood/api.ErrClosed", Rows.laid_cordwood_api_ErrClosed)]
set_option maxRecDepth 100000 in
theorem sents {W : World} (h : laidMetH Tryz.prog laid W) : (∃ A, Sents cs W A) ∧ Tens W := by
  rw [MakeChecks.laidMetH_plain _ _ _ (by kernel_rfl)] at h
  have h0 : laidMet Tryz.prog (("internal/strconv.uint64pow10", Lib.tabData .u64 Lib.pow10Tab) :: ([] ++ errs)) W := h.tail.tail
  have he : laidMet Tryz.prog errs W := h0.tail
  refine ⟨?_, Lib.tabIs_of_head (t := 141) (e := 63) (n := 20) (g := 19) (by kernel_rfl) (by kernel_rfl) (by kernel_rfl) (by kernel_rfl) (by kernel_rfl) (by kernel_rfl) h0⟩
  exact sents_laid cs errs rfl (by kernel_rfl) (by intro i hi; simp only [cs, List.mem_cons, List.not_mem_nil, or_false] at hi; (repeat' (rcases hi with rfl | hi)); (all_goals (try subst hi)); all_goals exact ⟨_, rfl⟩)
    (by intro i hi; simp only [cs, List.mem_cons, List.not_mem_nil, or_false] at hi; (repeat' (rcases hi with rfl | hi)); (all_goals (try subst hi)); all_goals exact ⟨by kernel_rfl, by kernel_rfl⟩) (by rw [MakeChecks.laidMetH_plain _ _ _ (by kernel_rfl)]; exact he)

set_option maxRecDepth 100000 in
theorem lifted (os : Os) (started : os.Started) (H : Type) (enc : TypeId × Value → H) :
    ReturnsInHanded {} Tryz.checked os 3 .any (fun w args => (Rows.maniMakesSpec.pre enc Tryz.prog Tryz.f3 [] false w args ∧ laidMetH Tryz.prog laid w) ∧ sizedMet enc Tryz.prog Tryz.f3 (OpenSpec.ofChange Rows.maniMakesSpec) false w args)
      (Rows.maniMakesSpec.post enc Tryz.prog Tryz.f3 false true false false) := by
  refine returnsInHanded_of_change_and (C := Tryz.checked) (X := fun w _ => laidMetH Tryz.prog laid w) (fun _ _ _ hh h => h.of_heap hh) own started (by kernel_rfl) Tryz.func3
    (ChangeSpec.witness_shaped (enc := enc) (C := Tryz.checked) (os := os) (X := fun w _ => laidMetH Tryz.prog laid w) false (World.doorLaid Tryz.prog 600 os) #[.int .i64 0, .int .i64 0, .int .i64 0, .int .i64 0, .slice none 0 0, .slice none 0 0, .slice none 0 0, .int .i64 0] 8 rfl (World.shaped_of_RefB (by kernel_rfl) (by kernel_rfl)) (by kernel_rfl) (by kernel_rfl) (by kernel_rfl) (door_met os _)) ?_
  intro W base args ds gs before hval0 hW _ _ hL _
  obtain ⟨⟨A0, hS⟩, hT⟩ := sents hL
  have hval : ∀ (j : Nat) t v, Tryz.f3.params[j]? = some t → args[j]? = some v → Value.okWide Tryz.prog W .any base t v := hval0
  have hW' := hW
  obtain ⟨p, q, hA0, hV, rfl, hfz, hnd⟩ := hW
  have hA : DataW.TrodAll enc Tryz.prog W 0 (fun _ => true) true Tryz.f3.params.toList args.toList ds p := hA0
  rw [Tryz.params3] at hA hval
  obtain ⟨v0, vs0, d0, ds0, p0, q0, hargs, rfl, rfl, h0, r0'⟩ := trodAll_cons hA
  obtain ⟨v1, vs1, d1, ds1, p1, q1, rfl, rfl, rfl, h1, r1'⟩ := trodAll_cons r0'
  obtain ⟨v2, vs2, d2, ds2, p2, q2, rfl, rfl, rfl, h2, r2'⟩ := trodAll_cons r1'
  obtain ⟨v3, vs3, d3, ds3, p3, q3, rfl, rfl, rfl, h3, r3'⟩ := trodAll_cons r2'
  obtain ⟨v4, vs4, d4, ds4, p4, q4, rfl, rfl, rfl, h4, r4'⟩ := trodAll_cons r3'
  obtain ⟨v5, vs5, d5, ds5, p5, q5, rfl, rfl, rfl, h5, r5'⟩ := trodAll_cons r4'
  obtain ⟨v6, vs6, d6, ds6, p6, q6, rfl, rfl, rfl, h6, r6'⟩ := trodAll_cons r5'
  obtain ⟨v7, vs7, d7, ds7, p7, q7, rfl, rfl, rfl, h7, r7'⟩ := trodAll_cons r6'
  obtain ⟨rfl, rfl, rfl⟩ := trodAll_nil r7'
  obtain rfl : args = #[v0, v1, v2, v3, v4, v5, v6, v7] := by cases args; simp_all
  obtain ⟨rfl, rfl⟩ := trodVars_none hV
  have k0 := h0
  have lt0 : ∀ x ∈ p0, x.block < W.heap.size := by obtain ⟨m, hm⟩ := k0; exact DataW.trod_lt m _ _ _ hm
  have k1 := h1
  have lt1 : ∀ x ∈ p1, x.block < W.heap.size := by obtain ⟨m, hm⟩ := k1; exact DataW.trod_lt m _ _ _ hm
  have k2 := h2
  have lt2 : ∀ x ∈ p2, x.block < W.heap.size := by obtain ⟨m, hm⟩ := k2; exact DataW.trod_lt m _ _ _ hm
  have k3 := h3
  have lt3 : ∀ x ∈ p3, x.block < W.heap.size := by obtain ⟨m, hm⟩ := k3; exact DataW.trod_lt m _ _ _ hm
  have k4 := h4
  have lt4 : ∀ x ∈ p4, x.block < W.heap.size := by obtain ⟨m, hm⟩ := k4; exact DataW.trod_lt m _ _ _ hm
  have k5 := h5
  have lt5 : ∀ x ∈ p5, x.block < W.heap.size := by obtain ⟨m, hm⟩ := k5; exact DataW.trod_lt m _ _ _ hm
  have k6 := h6
  have lt6 : ∀ x ∈ p6, x.block < W.heap.size := by obtain ⟨m, hm⟩ := k6; exact DataW.trod_lt m _ _ _ hm
  have k7 := h7
  have lt7 : ∀ x ∈ p7, x.block < W.heap.size := by obtain ⟨m, hm⟩ := k7; exact DataW.trod_lt m _ _ _ hm
  obtain ⟨a0, rfl, _, _, w0⟩ := open_int Tryz.underlying3 (hval 0 3 v0 rfl rfl) h0
  have b0 := i64_of_wf w0
  obtain ⟨a1, rfl, _, _, w1⟩ := open_int Tryz.underlying2 (hval 1 2 v1 rfl rfl) h1
  have b1 := i64_of_wf w1
  obtain ⟨a2, rfl, _, _, w2⟩ := open_int Tryz.underlying2 (hval 2 2 v2 rfl rfl) h2
  have b2 := i64_of_wf w2
  obtain ⟨a3, rfl, _, _, w3⟩ := open_int Tryz.underlying2 (hval 3 2 v3 rfl rfl) h3
  have b3 := i64_of_wf w3
  obtain ⟨s4, n4, c4, rfl⟩ := okWide_slice Tryz.underlying22 (hval 4 22 v4 rfl rfl)
  obtain ⟨z4, rfl, r4, ok4⟩ := rd_pairs h4
  obtain ⟨s5, n5, c5, rfl⟩ := okWide_slice Tryz.underlying23 (hval 5 23 v5 rfl rfl)
  obtain ⟨l5, rfl, r5⟩ := rd_bytes Tryz.underlying23 Tryz.underlying5 (by kernel_rfl) h5
  obtain ⟨s6, n6, c6, rfl⟩ := okWide_slice Tryz.underlying23 (hval 6 23 v6 rfl rfl)
  obtain ⟨l6, rfl, r6⟩ := rd_bytes Tryz.underlying23 Tryz.underlying5 (by kernel_rfl) h6
  obtain ⟨a7, rfl, _, _, w7⟩ := open_int Tryz.underlying3 (hval 7 3 v7 rfl rfl) h7
  have b7 := i64_of_wf w7
  clear hA0 hval0
  refine (maniMakes_walk cs A0 a0 a1 a2 a3 a7 z4 l5 l6 _ _ _ W hS (by unfold All cs; decide) hT r4 r5 r6 b0 b1 b2 b3 ok4).mono fun e W' ⟨he, bel⟩ => ?_
  subst he
  exact ⟨_, rfl, _, _, _, [], _, [], hW', trodAll_mk1 (shut_bool Tryz.underlying4 _), (trodAll_cons_mk (Below.trod laidOut (by kernel_rfl) (of_decide_eq_true (by kernel_rfl)) k0 bel lt0) (trodAll_cons_mk (Below.trod laidOut (by kernel_rfl) (of_decide_eq_true (by kernel_rfl)) k1 bel lt1) (trodAll_cons_mk (Below.trod laidOut (by kernel_rfl) (of_decide_eq_true (by kernel_rfl)) k2 bel lt2) (trodAll_cons_mk (Below.trod laidOut (by kernel_rfl) (of_decide_eq_true (by kernel_rfl)) k3 bel lt3) (trodAll_cons_mk (Below.trod laidOut (by kernel_rfl) (of_decide_eq_true (by kernel_rfl)) k4 bel lt4) (trodAll_cons_mk (Below.trod laidOut (by kernel_rfl) (of_decide_eq_true (by kernel_rfl)) k5 bel lt5) (trodAll_cons_mk (Below.trod laidOut (by kernel_rfl) (of_decide_eq_true (by kernel_rfl)) k6 bel lt6) (trodAll_cons_mk (Below.trod laidOut (by kernel_rfl) (of_decide_eq_true (by kernel_rfl)) k7 bel lt7) trodAll_mk0)))))))), rfl, bel.frame _, fun h => by cases h⟩

theorem over : Rows.maniMakesRow.holds Tryz.pinned (OpenSpec.ofChange Rows.maniMakesSpec) :=
  OpenClaim.holds_of_wide 3 Tryz.f3 rfl rfl rfl rfl rfl rfl rfl ⟨rfl, rfl, rfl, rfl, rfl⟩ rfl rfl rfl rfl rfl (by kernel_rfl) Tryz.func3 (by kernel_rfl)
    (of_decide_eq_true (by kernel_rfl)) (by unfold Func.isWrapper; first | (rw [if_pos (by decide +kernel)]; kernel_rfl) | (rw [if_neg (by decide +kernel)]; exact ⟨rfl, rfl⟩))
    (fun os started H enc _ => lifted os started H enc)

theorem card_holds : Rows.ManiMakesCardSaid :=
  Claim7.holds_tied_plain_at .later [] [.data, .data, .data, .sentinel, .sentinel, .sentinel, .sentinel, .sentinel, .sentinel, .sentinel, .sentinel, .sentinel, .sentinel, .sentinel, .sentinel, .sentinel, .sentinel, .sentinel, .sentinel, .sentinel, .sentinel, .sentinel] true (true, "32527af386e202ffdfa184efd0a90012324f20a739287617801c5783fd529554") true
    over (fun _ h => by cases h) (by kernel_rfl) (fun _ h => by cases h) maniMakes_row_tie rfl ⟨rfl, rfl⟩ (by kernel_rfl) rfl
    (fun f fn hf hfn => by
      obtain rfl : f = 3 := Option.some.inj ((show Tryz.prog.funcNamed "cordwood/cordwoodlaw14.ManiMakes" = some 3 by kernel_rfl).symm.trans hf) |>.symm
      obtain rfl : fn = Tryz.f3 := (Option.some.inj (Tryz.func3.symm.trans hfn)).symm
      exact ⟨by kernel_rfl, fun j t ht => by
        rw [Tryz.params3] at ht
        have hm : t ∈ [3, 2, 2, 2, 22, 23, 23, 3] := by simpa using Array.mem_of_getElem? ht
        have hall : ([3, 2, 2, 2, 22, 23, 23, 3].all fun u => !Tryz.prog.wantsStandIn u) = true := by kernel_rfl
        exact (show Tryz.prog.wantsStandIn t = false by simpa using List.all_eq_true.1 hall t hm)⟩)
    (by kernel_rfl)

theorem proved : Rows.ManiMakesCardSaid := card_holds
#print axioms proved
end Go.Proofs.YtegiingcnhafbaaGreatDoor.maniMakes
