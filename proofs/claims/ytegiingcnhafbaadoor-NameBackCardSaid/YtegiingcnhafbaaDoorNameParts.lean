/- name.Parts: what an object's name says. -/
import Derived.Test.YtegiingcnhafbaaDoorNameNum
import Derived.Test.YtegiingcnhafbaaDoorNameVal
import Derived.Shelf.Strings.SplitShaped
namespace Go.Proofs.YtegiingcnhafbaaDoor
open Go Go.Shelf Go.RowKit

shelf_lay LaysM.n146 Nm 146 at Tryd as laysSplit

theorem count_len (s sep : ByteArray) (h1 : 1 ≤ sep.size) : (Lib.splitB sep 0 (Lib.countB s sep) s).length = Lib.countB s sep + 1 := Lib.splitB_all sep h1 0 _ s rfl
/-- A library's variable holds some number. -/
def MaxL (w : World) : Prop := ∃ m, w.cell? ⟨0, 0, none⟩ = some (.int .i64 m)
theorem MaxL.below {w w' : World} (h : MaxL w) (b : Below w.heap.size w w') : MaxL w' := by
  obtain ⟨m, hm⟩ := h
  exact ⟨m, (b.cell (World.block_lt_of_cell? _ _ hm)).trans hm⟩
theorem maxL_shaped {w : World} (h : w.ShapedOpen Tryd.prog) : MaxL w := laysSplit.s1_3 w h
theorem split_calls (s : ByteArray) (w : World) (hsh : MaxL w) (hm : s.size ≤ 1000000) :
    Calls Tryd.prog 29 #[.string s, .string ⟨#[45]⟩] w (fun e w' => ∃ ps : List ByteArray, ps.map (fun p => p.data.toList) = Lib.split s.data.toList [45] ∧ e = .returned (.slice (some ⟨w.heap.size, 0, none⟩) ps.length ps.length) ∧ w' = w.alloc (.cells (ps.map Value.string).toArray 9)) :=
  let ⟨m, hM⟩ := hsh
  (Any.strings_Split { laysSplit with } laysSplit.i9 s ⟨#[45]⟩ m w (by omega) hM (by decide)).mono (fun e w' h => by
    obtain ⟨h1, h2⟩ := h
    refine ⟨Lib.splitB ⟨#[45]⟩ 0 (Lib.countB s ⟨#[45]⟩) s, ?_, ?_, h2⟩
    · rw [Lib.splitB_data]; rfl
    · rw [count_len s ⟨#[45]⟩ (by decide)]; exact h1)

theorem pieces_le {ps : List ByteArray} {l : List UInt8} (h : ps.map (fun p => p.data.toList) = Lib.split l [45]) : ∀ p ∈ ps, p.size ≤ l.length := by
  intro p hp
  obtain ⟨q, qs, h1, h2, -, -⟩ := split_join 45 l.length l (Nat.le_refl _)
  rw [h1] at h
  have hm : p.data.toList ∈ q :: qs := by rw [← h]; exact List.mem_map.2 ⟨p, hp, rfl⟩
  rw [← kind_len, h2, List.length_append]
  rcases List.mem_cons.1 hm with e | hm
  · rw [e]; omega
  · have : p.data.toList.length ≤ (qs.flatMap (fun q => (45 : UInt8) :: q)).length := by
      clear h h1 h2 hp
      induction qs with
      | nil => cases hm
      | cons a qs ih =>
        rw [List.flatMap_cons, List.length_append, List.length_cons]
        rcases List.mem_cons.1 hm with e | hm
        · rw [e]; omega
        · have := ih (List.mem_cons_of_mem _ hm) hm
          omega
    omega
theorem four_of {α : Type} {l : List α} (h : l.length = 4) : ∃ a b c d, l = [a, b, c, d] := by
  match l, h with
  | [a, b, c, d], _ => exact ⟨a, b, c, d, rfl⟩
theorem seg_test (p : ByteArray) : ((p ++ ⟨#[45]⟩ : ByteArray).toList == ([115, 101, 103, 45] : List UInt8)) = decide (p.data.toList = [115, 101, 103]) := by
  rw [ByteArray.toList_eq, ByteArray.data_append, Array.toList_append]
  show (p.data.toList ++ [45] == [115, 101, 103] ++ [45]) = _
  by_cases h : p.data.toList = [115, 101, 103]
  · rw [decide_eq_true h, h]; rfl
  · rw [decide_eq_false h, beq_eq_false_iff_ne]
    exact fun e => h (List.append_cancel_right e)

set_option maxRecDepth 100000 in
set_option maxHeartbeats 2000000 in
theorem parts_is (s : ByteArray) (w : World) (hm : s.size ≤ 1000000) (hsh : MaxL w) : Calls Tryd.prog 10 #[.string s] w (fun e w' => ∃ v, e = .returned v ∧ PartsIs s.data.toList v ∧ Below w.heap.size w w') := by
  have hsp := split_calls s w hsh hm
  have hL : s.data.toList.length ≤ 1000000 := by rw [kind_len]; exact hm
  generalize s.data.toList = L at hsp hL ⊢
  clear hm hsh
  go_enter Tryd.func10, Tryd.ntmps10
  go_wp2_with fail
  with_reducible refine hsp.mono ?_
  rintro e w2 ⟨ps, hps, rfl, hw2⟩
  clear hsp
  have hpl := pieces_le hps
  have HNO : Hid (ps.length ≠ 4 → PartsIs L (.tuple #[.int .i64 0, .string ⟨#[]⟩, .int .i64 0, .bool false])) := Lib.hid (fun h => .inr ⟨fun i k a ho => by
    rw [ho.2.2.2, split_obj ho.2.1] at hps
    have := congrArg List.length hps
    rw [List.length_map] at this
    exact h this, rfl⟩)
  have B2 : Below w.heap.size w w2 := by rw [hw2]; exact below_alloc w _
  by_cases t1 : ps.length = 4
  case neg =>
    have t1' : ((ps.length : Int) != 4) = true := by rw [bne_iff_ne]; omega
    have HN := Lib.hid (HNO.out t1)
    clear hps hpl t1 HNO hw2
    go_wp2_with fail
    (try simp only [Exit.inBlock, Exit.then])
    refine bodyPost_ret (results_tmp4 rfl _ _ _) rfl ?_
    exact ⟨_, rfl, HN.out, B2⟩
  obtain ⟨p0, p1, p2, p3, rfl⟩ := four_of t1
  have row2 : w2.heap[w.heap.size]? = some (.cells #[.string p0, .string p1, .string p2, .string p3] 9 (0, 0)) := by rw [hw2]; exact heap_alloc_new w _
  obtain ⟨g, hg⟩ : ∃ g, g = w.heap.size := ⟨_, rfl⟩
  rw [← hg] at row2 ⊢
  have d0 : ∀ W, Below w2.heap.size w2 W → W.cell? ⟨g, 0, none⟩ = some (.string p0) := fun W hB => cell_of_row _ _ 0 _ _ _ (heap_below hB row2)
  have d1 : ∀ W, Below w2.heap.size w2 W → W.cell? ⟨g, 1, none⟩ = some (.string p1) := fun W hB => cell_of_row _ _ 1 _ _ _ (heap_below hB row2)
  have d2 : ∀ W, Below w2.heap.size w2 W → W.cell? ⟨g, 2, none⟩ = some (.string p2) := fun W hB => cell_of_row _ _ 2 _ _ _ (heap_below hB row2)
  have d3 : ∀ W, Below w2.heap.size w2 W → W.cell? ⟨g, 3, none⟩ = some (.string p3) := fun W hB => cell_of_row _ _ 3 _ _ _ (heap_below hB row2)
  have s0 : p0.size ≤ 1000000 := Nat.le_trans (hpl p0 (by simp)) hL
  have s1 : p1.size ≤ 1000000 := Nat.le_trans (hpl p1 (by simp)) hL
  have s2 : p2.size ≤ 1000000 := Nat.le_trans (hpl p2 (by simp)) hL
  have s3 : p3.size ≤ 1000000 := Nat.le_trans (hpl p3 (by simp)) hL
  have HO : Hid (∀ i k a, IsObj L i k a → p0.data.toList = [115, 101, 103] ∧ p1.data.toList = wideL i 10 ∧ p2 = k ∧ p3.data.toList = wideL a 13) := Lib.hid (fun i k a ho => by
    rw [ho.2.2.2, split_obj ho.2.1] at hps
    simp only [List.map_cons, List.map_nil, List.cons.injEq, and_true] at hps
    obtain ⟨h0, h1, h2, h3⟩ := hps
    exact ⟨h0, h1, ByteArray.ext (Array.ext' h2), h3⟩)
  have HJ : Hid (L = p0.data.toList ++ [45] ++ p1.data.toList ++ [45] ++ p2.data.toList ++ [45] ++ p3.data.toList) := Lib.hid (split_four hps.symm)
  have hk := fun W => kinds_calls p2 W (by omega)
  have hn1 := fun W => number_is p1 10 W s1 (by omega)
  have hn3 := fun W => number_is p3 13 W s3 (by omega)
  have t0' := seg_test p0
  have hcc : ¬ 9223372036854775807 < p0.size + 1 := by omega
  clear hps hpl t1 HNO hw2 hg row2 s1 s2 s3 hL
  by_cases t0 : p0.data.toList = [115, 101, 103]
  case neg =>
    rw [decide_eq_false t0] at t0'
    have t0n : (!((p0 ++ ⟨#[45]⟩ : ByteArray).toList == ([115, 101, 103, 45] : List UInt8))) = true := by rw [t0']; rfl
    have HN := Lib.hid (show PartsIs L (.tuple #[.int .i64 0, .string ⟨#[]⟩, .int .i64 0, .bool false]) from .inr ⟨fun i k a ho => t0 (HO.out i k a ho).1, rfl⟩)
    have e0 := d0 w2 (Below.refl _ _)
    clear t0 hk hn1 hn3 HO HJ d1 d2 d3
    go_wp2_with fail
    (try simp only [Exit.inBlock, Exit.then])
    refine bodyPost_ret (results_tmp4 rfl _ _ _) rfl ?_
    exact ⟨_, rfl, HN.out, B2⟩
  rw [decide_eq_true t0] at t0'
  have t0n : (!((p0 ++ ⟨#[45]⟩ : ByteArray).toList == ([115, 101, 103, 45] : List UInt8))) = false := by rw [t0']; rfl
  have T0 := Lib.hid t0
  have e0 := d0 w2 (Below.refl _ _)
  have e2 := d2 w2 (Below.refl _ _)
  obtain ⟨K, hK⟩ : ∃ K, K = kindOk p2 := ⟨_, rfl⟩
  rw [← hK] at hk
  have HK := Lib.hid hK
  clear t0 hK
  go_wp2_with fail
  with_reducible refine (hk _).mono ?_
  rintro e w3 ⟨rfl, b3⟩
  clear hk e0 e2
  have B3 := nxt B2 b3
  cases K
  · have HN := Lib.hid (show PartsIs L (.tuple #[.int .i64 0, .string ⟨#[]⟩, .int .i64 0, .bool false]) from .inr ⟨fun i k a ho => by
      have := (HO.out i k a ho).2.2.1
      subst this
      rw [ho.2.1] at HK
      exact absurd HK.out (by decide), rfl⟩)
    clear hn1 hn3 HO HJ d0 d1 d2 d3
    go_wp2_with fail
    (try simp only [Exit.inBlock, Exit.then])
    refine bodyPost_ret (results_tmp4 rfl _ _ _) rfl ?_
    exact ⟨_, rfl, HN.out, B3⟩
  have e1 := d1 w3 b3
  obtain ⟨N1, hN1⟩ : ∃ N, N = (if p1.size = 10 then numL p1.data.toList else none) := ⟨_, rfl⟩
  obtain ⟨N3, hN3⟩ : ∃ N, N = (if p3.size = 13 then numL p3.data.toList else none) := ⟨_, rfl⟩
  rw [← hN1] at hn1
  rw [← hN3] at hn3
  have HF : Hid (∀ i k a, IsObj L i k a → N1 = some i ∧ N3 = some a) := Lib.hid (fun i k a ho => by
    obtain ⟨-, q1, -, q3⟩ := HO.out i k a ho
    have z1 : p1.size = 10 := by rw [← kind_len, q1]; exact wideL_len i 9 (by have := ho.1; omega)
    have z3 : p3.size = 13 := by rw [← kind_len, q3]; exact wideL_len a 12 (by have := ho.2.2.1; omega)
    exact ⟨by rw [hN1, if_pos z1, q1, numL_wide], by rw [hN3, if_pos z3, q3, numL_wide]⟩)
  have HY : Hid (∀ i a, N1 = some i → N3 = some a → i ≤ 2147483647 → a ≤ 1099511627776 → IsObj L i p2 a) := Lib.hid (fun i a q1 q3 hi ha => by
    refine ⟨hi, HK.out.symm, ha, ?_⟩
    rw [hN1] at q1
    rw [hN3] at q3
    split at q1
    case isFalse => cases q1
    next z1 =>
    split at q3
    case isFalse => cases q3
    next z3 =>
    have r1 := ((numL_iff 9 i _ (by rw [kind_len]; exact z1)).1 q1).2
    have r3 := ((numL_iff 12 a _ (by rw [kind_len]; exact z3)).1 q3).2
    rw [HJ.out, T0.out, r1, r3]
    unfold objectL
    simp)
  clear hN1 hN3
  go_wp2_with fail
  refine (hn1 _).mono ?_
  rintro e w4 ⟨rfl, hw4⟩
  subst hw4
  clear hn1 e1
  have HNO : Hid ((∀ i k a, ¬ IsObj L i k a) → PartsIs L (.tuple #[.int .i64 0, .string ⟨#[]⟩, .int .i64 0, .bool false])) := Lib.hid (fun h => .inr ⟨h, rfl⟩)
  have e3 := d3 w4 b3
  cases N1 with
  | none =>
    unfold numV
    go_wp2_with fail
    refine (hn3 _).mono ?_
    rintro e w5 ⟨rfl, hw5⟩
    subst hw5
    clear hn3 e3 d0 d1 d2 d3
    cases N3
    all_goals
      unfold numV
      go_wp2_with fail
      (try simp only [Exit.inBlock, Exit.then])
      refine bodyPost_ret (results_tmp4 rfl _ _ _) rfl ?_
      exact ⟨_, rfl, HNO.out (fun i k a ho => by have := (HF.out i k a ho).1; cases this), B3⟩
  | some i =>
    unfold numV
    go_wp2_with fail
    refine (hn3 _).mono ?_
    rintro e w5 ⟨rfl, hw5⟩
    subst hw5
    clear hn3 e3 d0 d1 d3
    cases N3 with
    | none =>
      clear d2
      unfold numV
      go_wp2_with fail
      (try simp only [Exit.inBlock, Exit.then])
      refine bodyPost_ret (results_tmp4 rfl _ _ _) rfl ?_
      exact ⟨_, rfl, HNO.out (fun i k a ho => by have := (HF.out i k a ho).2; cases this), B3⟩
    | some a =>
      unfold numV
      by_cases hi : i ≤ 2147483647
      case neg =>
        have hi' : decide ((2147483647 : Int) < (i : Int)) = true := decide_eq_true (by omega)
        have HN := Lib.hid (HNO.out (fun j k a ho => by have := (HF.out j k a ho).1; simp only [Option.some.injEq] at this; have := ho.1; omega))
        clear hi d2
        go_wp2_with fail
        (try simp only [Exit.inBlock, Exit.then])
        refine bodyPost_ret (results_tmp4 rfl _ _ _) rfl ?_
        exact ⟨_, rfl, HN.out, B3⟩
      have hi' : decide ((2147483647 : Int) < (i : Int)) = false := decide_eq_false (by omega)
      have hr := right_calls (a : Int) w5
      obtain ⟨O, hO⟩ : ∃ O, O = offOk (a : Int) := ⟨_, rfl⟩
      rw [← hO] at hr
      have HOO := Lib.hid hO
      have HI := Lib.hid hi
      clear hO hi
      go_wp2_with fail
      with_reducible refine hr.mono ?_
      rintro e w6 ⟨rfl, hw6⟩
      subst hw6
      clear hr
      cases O
      · have HN := Lib.hid (HNO.out (fun j k b ho => by
          have := (HF.out j k b ho).2
          simp only [Option.some.injEq] at this
          have h1 := ho.2.2.1
          have h2 := HOO.out
          unfold offOk at h2
          exact of_decide_eq_false h2.symm (by omega)))
        clear d2
        go_wp2_with fail
        (try simp only [Exit.inBlock, Exit.then])
        refine bodyPost_ret (results_tmp4 rfl _ _ _) rfl ?_
        exact ⟨_, rfl, HN.out, B3⟩
      · have hYY : PartsIs L (.tuple #[.int .i64 (i : Nat), .string p2, .int .i64 (a : Nat), .bool true]) := .inl ⟨i, p2, a, HY.out i a rfl rfl HI.out (by
          have h2 := HOO.out
          unfold offOk at h2
          have := of_decide_eq_true h2.symm
          omega), rfl⟩
        have HYY := Lib.hid hYY
        have e2 := d2 w6 b3
        have e2' := d2 w6.drew (nxt b3 (Below.refl _ _).drew)
        clear d2 hYY
        go_wp2_with fail
        go_region
        all_goals
          go_wp2_with fail
          (try simp only [Exit.inBlock, Exit.then])
          refine bodyPost_ret (results_tmp4 rfl _ _ _) rfl ?_
          exact ⟨_, rfl, HYY.out, by first | exact B3.drew | exact B3⟩
end Go.Proofs.YtegiingcnhafbaaDoor
