/- The document's All: all batches from the beginning on. -/
import Derived.Test.YtlfbdcgojbfcaaaDoorRefRecRead
import Derived.Test.YtlfbdcgojbfcaaaDoorRecAll
namespace Go.Proofs.YtlfbdcgojbfcaaaDoor
open Go Go.RowKit Rec Vint

def RefAllPost (l : List UInt8) (w : World) (e : Ending) (w' : World) : Prop :=
  ∃ v, e = .returned (.tuple #[v, .int .i64 ((allB l.length l).2.1 : Nat), (.int .i64 ((allB l.length l).2.2 : Nat))]) ∧ BatsOwn w' w.heap.size v (allB l.length l).1 ∧ Below w.heap.size w w'

set_option maxRecDepth 100000 in
set_option maxHeartbeats 2000000 in
theorem refAll_calls {w : World} {v : Value} {l : List UInt8} (h : Rd w 1 v l.length (bvs l)) (hl : l.length ≤ 1099511627776) :
    Calls Tryd.prog 38 #[v] w (RefAllPost l w) := by
  obtain ⟨i0, hi, hz0, hz1, hz2⟩ := info_parts info_bat
  obtain ⟨a, c, rfl⟩ := h.slice
  obtain ⟨Q, hQ⟩ : ∃ Q, Q = allB l.length l := ⟨_, rfl⟩
  have HQ := Lib.hid hQ
  go_enter Tryd.func38, Tryd.ntmps38
  go_wp2_with fail
  go_loopw [5, 6] (fun ov av wr => ∃ (pos : Nat) (rs : List BatR), av = .int .i64 pos ∧ pos ≤ l.length ∧ rs.length ≤ pos ∧ Hid (Q = (rs.map (·.d) ++ (allB (l.length - pos) (l.drop pos)).1, pos + (allB (l.length - pos) (l.drop pos)).2.1, (allB (l.length - pos) (l.drop pos)).2.2)) ∧ wr.ownsRow w.heap.size 34 3 ov rs.length (rs.flatMap batV) ∧ (∀ x ∈ rs, RecsOwn wr w.heap.size x.v x.d.recs) ∧ Below w.heap.size w wr) (fun _ av _ => l.length - (intOf av).toNat)
  case atStart => exact ⟨0, [], rfl, Nat.zero_le _, Nat.zero_le _, Lib.hid (by simp [hQ]), World.ownsRow_nil _ _ _ _, by simp, Below.refl _ _⟩
  case round =>
    obtain ⟨pos, rs, rfl, hpl, hrl, HE, own, par, hb⟩ := hrel
    obtain ⟨ao, co, rfl⟩ := owns_slice own
    by_cases hlt : pos < l.length
    · obtain ⟨a', c', hcut, hrd⟩ := run_rest (P := Tryd.prog) 42 sl_u8 1 sz_u8 a l.length c pos .i64 hpl
      have rd := hrd wr _ (h.below hb)
      rw [Nat.mul_one, ← bvs_drop] at rd
      have hdl : (l.drop pos).length = l.length - pos := List.length_drop
      have rd' : Rd wr 1 (.slice a' (l.length - pos) c') (l.drop pos).length (bvs (l.drop pos)) := by rw [hdl]; exact rd
      have hrr := refRead_calls rd' (by omega)
      unfold RefReadPost batA at hrr
      have hst := allB_step pos hlt
      have hen := allB_end pos hlt
      have hnn := readB_n (l := l.drop pos)
      obtain ⟨r, hr⟩ : ∃ r, r = readB (l.drop pos) := ⟨_, rfl⟩
      rw [← hr] at hrr hst hen hnn
      obtain ⟨code, b, n⟩ := r
      simp only at hrr hst hen hnn
      rw [hdl] at hnn
      clear rd rd' hrd hr hdl
      by_cases hc : code = 0
      · subst hc
        have hst2 := hst rfl
        have hnn2 := hnn rfl
        have hE := HE.out
        rw [hst2] at hE
        have HE2 := Lib.hid hE
        clear hst hen hnn hst2 hE HE
        go_wp2_with fail
        refine hrr.mono ?_
        rintro e w5 ⟨v5, rfl, ro5, b5⟩
        obtain ⟨a5, c5, rfl⟩ := ro5.rd.slice
        have B5 := nxt hb b5
        have o5 := owns_below own b5
        have b6 := below_alloc w5 (.cells #[.int .i64 b.base, .int .i64 b.epoch, .slice a5 b.recs.length c5] 34)
        have row6 := heap_alloc_new w5 (.cells #[.int .i64 b.base, .int .i64 b.epoch, .slice a5 b.recs.length c5] 34)
        have B6 := nxt B5 b6
        have o6 := owns_below o5 b6
        have p6 := fun x hx => ((par x hx).below b5).below b6
        have r6 := (ro5.base hb.size).below b6
        have wn : IntKind.i64.wrap ((pos : Int) + (n : Int)) = (pos : Int) + (n : Int) := by rw [IntKind.wrap_i64]; omega
        clear own par hb o5 ro5 hrr B5
        go_upto_region 7 with fail
        generalize w5.alloc (.cells #[.int .i64 b.base, .int .i64 b.epoch, .slice a5 b.recs.length c5] 34) = w6 at *
        generalize w5.heap.size = g6 at *
        have d0 : w6.cell? ⟨g6, 0, none⟩ = some (.int .i64 b.base) := cell_of_row _ _ 0 _ _ _ row6
        have d1 : w6.cell? ⟨g6, 1, none⟩ = some (.int .i64 b.epoch) := cell_of_row _ _ 1 _ _ _ row6
        have d2 : w6.cell? ⟨g6, 2, none⟩ = some (.slice a5 b.recs.length c5) := cell_of_row _ _ 2 _ _ _ row6
        go_wp2_with (at_builtin; refine wpList_append_own _ rfl _ _ 25 rfl w.heap.size 34 i0 _ 3 40 Tryd.underlying25 hi hz0 hz1 hz2 rfl (by decide) _ _ _ rfl (o6.alloc _) ⟨w6.heap.size, 0, none⟩ 1 1 [.int .i64 b.base, .int .i64 b.epoch, .slice a5 b.recs.length c5] rfl rfl ?c1 ?c2 ?c3 ?c4 ?c5 ?_)
        case c1 => exact cells_new w6 #[.int .i64 b.base, .int .i64 b.epoch, .slice a5 b.recs.length c5] 34
        case c2 => intro u hu; simp at hu; rcases hu with rfl | rfl | rfl <;> rfl
        case c3 => unfold maxLen; omega
        case c4 => omega
        case c5 => have := B6.size; simp; omega
        intro v9 w9 o9 g9 _
        have bA := below_alloc w6 (.cells #[.int .i64 b.base, .int .i64 b.epoch, .slice a5 b.recs.length c5] 34)
        have hty := owns_rowIs (owns_below o6 bA)
        have hge : ∀ k, (Value.slice ao rs.length co).ownBlock = some k → w.heap.size ≤ k := owns_ge o6
        have B9 : Below w.heap.size w w9 := (nxt B6 bA).grown g9 (nxt B6 bA).size hge
        have p9 := fun x hx => ((p6 x hx).below bA).grown g9 hty
        have r9 := (r6.below bA).grown g9 hty
        clear d0 d1 d2 row6 g9 hty hge o6 p6 r6
        go_wp2_with fail
        refine ⟨⟨pos + n, rs ++ [⟨b, .slice a5 b.recs.length c5⟩], by go_num, by omega, by rw [List.length_append, List.length_singleton]; omega, Lib.hid ?_, ?_, ?_, B9⟩, by simp [intOf]; omega⟩
        · rw [HE2.out]; simp [Nat.add_assoc]
        · rw [List.length_append, List.flatMap_append]; exact o9
        · intro x hx
          rcases List.mem_append.1 hx with h1 | h1
          · exact p9 x h1
          · rw [List.mem_singleton.1 h1]; exact r9
      · have hE := HE.out
        rw [hen hc] at hE
        have HE2 := Lib.hid hE
        have HC := Lib.hid hc
        have hcn : ((code : Int) != 0) = true := by rw [bne_iff_ne]; omega
        clear hst hen hnn hE HE hc
        go_wp2_with fail
        refine hrr.mono ?_
        rintro e w5 ⟨v5, rfl, ro5, b5⟩
        obtain ⟨a5, c5, rfl⟩ := ro5.rd.slice
        go_wp2_with fail
        refine bodyPost_ret (v := .tuple #[.slice ao rs.length co, .int .i64 (pos : Int), (.int .i64 (code : Int))]) (by simp [results, go_sem]) rfl ?_
        unfold RefAllPost
        rw [← HQ.out, HE2.out]
        simp only [Nat.add_zero, List.append_nil]
        exact ⟨_, rfl, ⟨rs, rfl, owns_below (owns_below own b5) (below_alloc _ _), fun x hx => ((par x hx).below b5).below (below_alloc _ _)⟩, nxt (nxt hb b5) (below_alloc _ _)⟩
    · obtain rfl : pos = l.length := by omega
      have hE := HE.out
      rw [List.drop_of_length_le (Nat.le_refl _), allB_nil] at hE
      have HE2 := Lib.hid hE
      clear hE HE
      go_wp2_with fail
      refine bodyPost_ret (v := .tuple #[.slice ao rs.length co, .int .i64 (l.length : Int), .int .i64 0]) (by simp [results, go_sem]) rfl ?_
      unfold RefAllPost
      rw [← HQ.out, HE2.out]
      simp only [Nat.add_zero, List.append_nil]
      exact ⟨_, rfl, ⟨rs, rfl, own, par⟩, hb⟩
end Go.Proofs.YtlfbdcgojbfcaaaDoor
