/- The law IndexBack is true at every input: its row, out of its walk. -/
import Derived.Test.YtjhebnjajnjhhaaDoorIndexBack
import Derived.Test.YtjhebnjajnjhhaaDoorRowDoI
import Derived.Test.YtjhebnjajnjhhaaDoorSentRow
import Derived.Test.YtjhebnjajnjhhaaDoorTie
import Derived.Test.YtjhebnjajnjhhaaDoorCards
import Derived.LaidHandle
import Derived.OpenShut
namespace Go.Proofs.YtjhebnjajnjhhaaDoor.indexBack
open Go Go.ChangeShapes Go.WideShapes Go.ChangeAt Go.RowKit
open Go.ChangeMaps (open_string shut_string)
set_option linter.unusedVariables false

def laid : List (String × DataW Unit) := [("cordwood/api.ErrEnd", Rows.laid_cordwood_api_ErrEnd), ("cordwood/api.ErrSum", Rows.laid_cordwood_api_ErrSum), ("cordwood/api.ErrShape", Rows.laid_cordwood_api_ErrShape), ("cordwood/api.ErrRange", Rows.laid_cordwood_api_ErrRange)]
def cs : List Nat := [0, 1, 2, 4]

set_option maxRecDepth 100000 in
theorem door_met (os : Os) (args : Array Value) : laidMetH Tryd.prog laid ((World.doorLaid Tryd.prog 370 os).forCall (fun _ _ => 0) ⟨#[], args, []⟩).memory :=
  laidMetH_of_parts3 (fuel := 8) (laidMet_of_run' 8 (by kernel_rfl) (by kernel_rfl)) (by kernel_rfl) (by kernel_rfl)

set_option maxRecDepth 100000 in
theorem sents {W : World} (h : laidMetH Tryd.prog laid W) : ∃ A, Sents cs W A :=
  sents_laid cs laid rfl (by kernel_rfl) (by intro i hi; simp only [cs, List.mem_cons, List.not_mem_nil, or_false] at hi; (repeat' (rcases hi with rfl | hi)); (all_goals (try subst hi)); all_goals exact ⟨_, rfl⟩)
    (by intro i hi; simp only [cs, List.mem_cons, List.not_mem_nil, or_false] at hi; (repeat' (rcases hi with rfl | hi)); (all_goals (try subst hi)); all_goals exact ⟨by kernel_rfl, by kernel_rfl⟩) h

set_option maxRecDepth 100000 in
theorem lifted (os : Os) (started : os.Started) (H : Type) (enc : TypeId × Value → H) :
    ReturnsInHanded {} Tryd.checked os 15 .any (fun w args => (Rows.indexBackSpec.pre enc Tryd.prog Tryd.f15 [] false w args ∧ laidMetH Tryd.prog laid w) ∧ sizedMet enc Tryd.prog Tryd.f15 (OpenSpec.ofChange Rows.indexBackSpec) false w args)
      (Rows.indexBackSpec.post enc Tryd.prog Tryd.f15 false true false false) := by
  refine returnsInHanded_of_change_and (C := Tryd.checked) (X := fun w _ => laidMetH Tryd.prog laid w) (fun _ _ _ hh h => h.of_heap hh) own started (by kernel_rfl) Tryd.func15
    (ChangeSpec.witness_shaped (enc := enc) (C := Tryd.checked) (os := os) (X := fun w _ => laidMetH Tryd.prog laid w) false (World.doorLaid Tryd.prog 370 os) #[.int .i64 0, .slice none 0 0, .slice none 0 0] 8 rfl (World.shaped_of_RefB (by kernel_rfl) (by kernel_rfl)) (by kernel_rfl) (by kernel_rfl) (by kernel_rfl) (door_met os _)) ?_
  intro W base args ds gs before hval0 hW _ _ hL _
  obtain ⟨A0, hS⟩ := sents hL
  have hval : ∀ (j : Nat) t v, Tryd.f15.params[j]? = some t → args[j]? = some v → Value.okWide Tryd.prog W .any base t v := hval0
  have hW' := hW
  obtain ⟨p, q, hA0, hV, rfl, hfz, hnd⟩ := hW
  have hA : DataW.TrodAll enc Tryd.prog W 0 (fun _ => true) true Tryd.f15.params.toList args.toList ds p := hA0
  rw [Tryd.params15] at hA hval
  obtain ⟨v0, vs0, d0, ds0, p0, q0, hargs, rfl, rfl, h0, r0'⟩ := trodAll_cons hA
  obtain ⟨v1, vs1, d1, ds1, p1, q1, rfl, rfl, rfl, h1, r1'⟩ := trodAll_cons r0'
  obtain ⟨v2, vs2, d2, ds2, p2, q2, rfl, rfl, rfl, h2, r2'⟩ := trodAll_cons r1'
  obtain ⟨rfl, rfl, rfl⟩ := trodAll_nil r2'
  obtain rfl : args = #[v0, v1, v2] := by cases args; simp_all
  obtain ⟨rfl, rfl⟩ := trodVars_none hV
  have k0 := h0
  have lt0 : ∀ x ∈ p0, x.block < W.heap.size := by obtain ⟨m, hm⟩ := k0; exact DataW.trod_lt m _ _ _ hm
  have k1 := h1
  have lt1 : ∀ x ∈ p1, x.block < W.heap.size := by obtain ⟨m, hm⟩ := k1; exact DataW.trod_lt m _ _ _ hm
  have k2 := h2
  have lt2 : ∀ x ∈ p2, x.block < W.heap.size := by obtain ⟨m, hm⟩ := k2; exact DataW.trod_lt m _ _ _ hm
  obtain ⟨a0, rfl, _, _, w0⟩ := open_int Tryd.underlying3 (hval 0 3 v0 rfl rfl) h0
  have b0 := i64_of_wf w0
  obtain ⟨s1, n1, c1, rfl⟩ := okWide_slice Tryd.underlying99 (hval 1 99 v1 rfl rfl)
  obtain ⟨z1, rfl, r1, ok1⟩ := rd_dois h1
  obtain ⟨s2, n2, c2, rfl⟩ := okWide_slice Tryd.underlying99 (hval 2 99 v2 rfl rfl)
  obtain ⟨z2, rfl, r2, ok2⟩ := rd_dois h2
  clear hA0 hval0
  refine (indexBack_walk cs A0 a0 z1 z2 _ _ W hS (by unfold cs; decide) (by unfold cs; decide) (by unfold cs; decide) (by unfold cs; decide) r1 r2).mono fun e W' ⟨he, bel⟩ => ?_
  subst he
  exact ⟨_, rfl, _, _, _, [], _, [], hW', trodAll_mk1 (shut_bool Tryd.underlying4 _), (trodAll_cons_mk (Below.trod laidOut (by kernel_rfl) (of_decide_eq_true (by kernel_rfl)) k0 bel lt0) (trodAll_cons_mk (Below.trod laidOut (by kernel_rfl) (of_decide_eq_true (by kernel_rfl)) k1 bel lt1) (trodAll_cons_mk (Below.trod laidOut (by kernel_rfl) (of_decide_eq_true (by kernel_rfl)) k2 bel lt2) trodAll_mk0))), rfl, bel.frame _, fun h => by cases h⟩

theorem over : Rows.indexBackRow.holds Tryd.pinned (OpenSpec.ofChange Rows.indexBackSpec) :=
  OpenClaim.holds_of_wide 15 Tryd.f15 rfl rfl rfl rfl rfl rfl rfl ⟨rfl, rfl, rfl, rfl, rfl⟩ rfl rfl rfl rfl rfl (by kernel_rfl) Tryd.func15 (by kernel_rfl)
    (of_decide_eq_true (by kernel_rfl)) (by unfold Func.isWrapper; first | (rw [if_pos (by decide +kernel)]; kernel_rfl) | (rw [if_neg (by decide +kernel)]; exact ⟨rfl, rfl⟩))
    (fun os started H enc _ => lifted os started H enc)

theorem card_holds : Rows.IndexBackCardSaid :=
  Claim7.holds_tied_plain_at .later [] [.sentinel, .sentinel, .sentinel, .sentinel] true (true, "722cee6a60348f39d38f27abefa37fa4fdcbb3c1ea04ffb9322be7207eed8a8a") true
    over (fun _ h => by cases h) (by kernel_rfl) (fun _ h => by cases h) indexBack_row_tie rfl ⟨rfl, rfl⟩ (by kernel_rfl) rfl
    (fun f fn hf hfn => by
      obtain rfl : f = 15 := Option.some.inj ((show Tryd.prog.funcNamed "cordwood/cordwoodlaw6.IndexBack" = some 15 by kernel_rfl).symm.trans hf) |>.symm
      obtain rfl : fn = Tryd.f15 := (Option.some.inj (Tryd.func15.symm.trans hfn)).symm
      exact ⟨by kernel_rfl, fun j t ht => by
        rw [Tryd.params15] at ht
        have hm : t ∈ [3, 99, 99] := by simpa using Array.mem_of_getElem? ht
        have hall : ([3, 99, 99].all fun u => !Tryd.prog.wantsStandIn u) = true := by kernel_rfl
        exact (show Tryd.prog.wantsStandIn t = false by simpa using List.all_eq_true.1 hall t hm)⟩)
    (by kernel_rfl)

theorem proved : Rows.IndexBackCardSaid := card_holds
#print axioms proved
end Go.Proofs.YtjhebnjajnjhhaaDoor.indexBack
