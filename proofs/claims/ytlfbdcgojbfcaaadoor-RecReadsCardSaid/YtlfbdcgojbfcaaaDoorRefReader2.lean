/- The document's reader of numbers: so many bytes, a number of so many bytes. -/
import Derived.Test.YtlfbdcgojbfcaaaDoorRefReader
import Derived.Test.YtlfbdcgojbfcaaaDoorReaderFixed
import Derived.Test.YtlfbdcgojbfcaaaDoorRefBytes
namespace Go.Proofs.YtlfbdcgojbfcaaaDoor
open Go Go.RowKit Vint

/-- It stands elsewhere. -/
theorem RefR.put {w : World} {g : Nat} {vb : Value} {s : Rs} (h : RefR w g vb s) (p : Nat) (hp : p ≤ s.l.length) : RefR (w.setCell ⟨g, 1, none⟩ (.int .i64 (p : Int))) g vb { s with pos := p } := by
  obtain ⟨h0, h1, h2, h3⟩ := h
  have t := Touch.setCell (g := g) w 1 (.int .i64 (p : Int))
  exact ⟨⟨hp, h0.2⟩, heap_setCell_same _ g 1 _ _ _ h1, h2.touch t h3, h3⟩

/-- What the document's reading of bytes leaves. -/
def RefBytesPost (g : Nat) (vb : Value) (most : Int) (s : Rs) (w : World) (e : Ending) (w' : World) : Prop :=
  ∃ v, e = .returned v ∧ w'.ownsRow w.heap.size 5 1 v (Vint.bytes most s).1.length (bvs (Vint.bytes most s).1) ∧ RefR w' g vb (Vint.bytes most s).2 ∧ Touch g w w'

set_option maxRecDepth 100000 in
set_option maxHeartbeats 1000000 in
theorem refRBytes_calls {w : World} {g : Nat} {vb : Value} {s : Rs} (h : RefR w g vb s) (most : Int) (hm : -9223372036854775808 ≤ most ∧ most ≤ 9223372036854775807) :
    Calls Tryd.prog 84 #[.pointer (some ⟨g, 0, none⟩), .int .i64 most] w (RefBytesPost g vb most s w) := by
  obtain ⟨ab, cb, rfl, hrow, hrd, hoff, k0, k1, k2, f1⟩ := h.parts
  have hpos := h.1.1
  have hL := h.1.2
  obtain ⟨hm1, hm2⟩ := hm
  obtain ⟨m, hmm⟩ : ∃ m : Nat, max most 0 = (m : Int) := ⟨(max most 0).toNat, by omega⟩
  have hmm2 : (max most 0).toNat = m := by omega
  have hmb : m ≤ 9223372036854775807 := by omega
  have hc := refNum_calls h m
  have hn := num_ok hpos m
  have hv := (num_val (s := s) m).1
  have HM := Lib.hid hmm2
  obtain ⟨⟨n, s1⟩, hr⟩ : ∃ r, r = num m s := ⟨_, rfl⟩
  unfold RefNumPost at hc
  rw [← hr] at hc hn hv
  have HN := Lib.hid hr
  obtain ⟨hn1, hn2⟩ := hn
  have HL := Lib.hid hn2
  simp only at hc hn1 hv
  obtain ⟨X, hX, hXm⟩ : ∃ X : Int, X = (m : Int) ∧ (most < 0 ∧ X = 0 ∨ 0 ≤ most ∧ X = most) := by
    refine ⟨m, rfl, ?_⟩
    omega
  rw [← hX] at hc
  have hnv : n ≤ 9223372036854775807 := by omega
  clear hmm2 hrow hrd hr hn2 hX hmm
  rcases hXm with ⟨hneg, rfl⟩ | ⟨hnn, rfl⟩
  all_goals (
    go_enter Tryd.func84, Tryd.ntmps84
    go_wp2_with fail
    refine hc.mono ?_
    rintro e w1 ⟨rfl, r1, t1⟩
    obtain ⟨ab1, cb1, -, hrow1, hrd1, hoff1, k01, k11, k21, f11⟩ := r1.parts
    have m1 := hrd1.len_le
    have hL1 := r1.1.2
    clear hc k0 k1 k2 f1
    by_cases hb : s1.bad = .fine
    · have hlf := left_length s1
      have HB := Lib.hid hb
      have HF := Lib.hid hlf
      have hsubn : IntKind.i64.wrap ((s1.l.length : Int) - (s1.pos : Int)) = (s1.left.length : Int) := by unfold Rs.ok at hn1; rw [IntKind.wrap_i64]; omega
      by_cases hgt : s1.left.length < n
      · clear hrow1 hrd1 hb hlf
        go_wp2_with fail
        refine (refFine_yes r1 HB.out).mono ?_
        rintro e w2 ⟨rfl, rfl⟩
        go_wp2_with fail
        go_quiet (fail)
        have r3 := (r1.drewN nq).put s.pos (by rw [HL.out]; exact hpos)
        have f12 : (w1.drewN nq).frozen? ⟨g, 1, none⟩ = false := f11
        clear hsubn
        go_wp2_with fail
        refine (refFail_calls r3 0).mono ?_
        rintro e w4 ⟨rfl, r4, t4⟩
        go_wp2_with fail
        go_ret
        unfold RefBytesPost
        rw [bytes_short HM.out HN.out HB.out hgt]
        have hs : ({ s1 with pos := s.pos } : Rs).fail 0 = s.fail 0 := by
          unfold Rs.fail; simp only [HL.out]
        rw [hs] at r4
        exact ⟨_, rfl, World.ownsRow_nil _ _ _ _, r4, ((t1.drewN nq).set 1 _).trans t4⟩
      · have hle : s1.pos + n ≤ s1.l.length := by unfold Rs.ok at hn1; omega
        clear hrow1 hrd1 hb hlf
        go_wp2_with fail
        refine (refFine_yes r1 HB.out).mono ?_
        rintro e w2 ⟨rfl, rfl⟩
        go_wp2_with fail
        go_quiet (fail)
        clear hsubn
        go_wp2_with fail
        have r3 := (r1.drewN nq).moved n hle (.int .i64 ((s1.pos : Int) + (n : Int))) (by rw [Int.natCast_add])
        have t3 : Touch g w ((w1.drewN nq).setCell ⟨g, 1, none⟩ (.int .i64 ((s1.pos : Int) + (n : Int)))) := (t1.drewN nq).set 1 _
        generalize (w1.drewN nq).setCell ⟨g, 1, none⟩ (.int .i64 ((s1.pos : Int) + (n : Int))) = w3 at *
        obtain ⟨ab3, cb3, -, hrow3, hown3, hoff3, k03, k13, k23, f13⟩ := r3.parts
        change w3.cell? _ = some (.slice ab3 s1.l.length cb3) at k03
        change w3.cell? _ = some (.int .i64 ((s1.pos + n : Nat) : Int)) at k13
        have rd3 : Rd w3 1 (.slice ab3 s1.l.length cb3) s1.l.length (bvs s1.l) := hown3
        obtain ⟨a', c', hcut, hrd⟩ := run_part (P := Tryd.prog) 42 sl_u8 1 sz_u8 ab3 s1.l.length cb3 s1.pos (s1.pos + n) .i64 .i64 (by omega) hle rd3.cap
        rw [Nat.add_sub_cancel_left] at hcut hrd
        have hlen : (s1.left.take n).length = n := by rw [List.length_take]; omega
        have rd4 : ∀ w', Below w3.heap.size w3 w' → Rd w' 1 (.slice a' n c') (s1.left.take n).length (bvs (s1.left.take n)) := fun w' b => by
          have := hrd w' _ (rd3.below b)
          simp only [Nat.mul_one] at this
          rw [hlen]; unfold Rs.left; rw [bvs_take, bvs_drop]; exact this
        have hsub : IntKind.i64.wrap (((s1.pos + n : Nat) : Int) - (n : Int)) = (s1.pos : Int) := by rw [IntKind.wrap_i64]; omega
        have hwn : IntKind.i64.wrap (n : Int) = (n : Int) := by rw [IntKind.wrap_i64]; omega
        have R3 := Lib.hid r3
        obtain ⟨p3, hp3⟩ : ∃ p3, p3 = s1.pos + n := ⟨_, rfl⟩
        rw [← hp3] at hcut hsub k13
        have HP3 := Lib.hid hp3
        clear hp3
        have hnb : n ≤ 1099511627776 := by omega
        clear r3 hrow3 hown3 hoff3 k23 f13 rd3 hrd k01 k11 k21 f11 hoff1
        have hcl := fun w' (b : Below w3.heap.size w3 w') => refBytes_calls _ _ _ (rd4 w' b) (by omega)
        have HLN := Lib.hid hlen
        clear hlen rd4 r1
        go_still_tail 15, (by kernel_rfl)
        change wpList _ _ _ _ _ w3.drew
        generalize hw4 : w3.drew = w4
        have b4 : Below w3.heap.size w3 w4 := by rw [← hw4]; exact (Below.refl _ _).drew
        clear hw4
        go_wp2_with fail
        refine (hcl _ b4).mono ?_
        rintro e w5 ⟨v5, rfl, o5, b5⟩
        go_wp2_with fail
        go_ret
        unfold RefBytesPost
        rw [bytes_yes HM.out HN.out HB.out hgt]
        have b35 := nxt b4 b5
        exact ⟨_, rfl, by rw [HLN.out] at o5; rw [HLN.out]; exact owns_base o5 (Nat.le_trans t3.size b4.size), R3.out.below b35, t3.trans (Touch.of_below b35)⟩
    · have HB := Lib.hid hb
      clear hb hrow1
      go_wp2_with fail
      refine (refFine_no r1 HB.out).mono ?_
      rintro e w2 ⟨rfl, rfl⟩
      go_wp2_with fail
      go_ret
      unfold RefBytesPost
      rw [bytes_bad HM.out HN.out HB.out]
      exact ⟨_, rfl, World.ownsRow_nil _ _ _ _, r1, t1⟩)

/-- What the document's reading of a number of so many bytes leaves. -/
def RefFixedPost (g : Nat) (vb : Value) (n : Int) (s : Rs) (w : World) (e : Ending) (w' : World) : Prop :=
  e = .returned (.int .u64 ((fixed n s).1 : Nat)) ∧ RefR w' g vb (fixed n s).2 ∧ Touch g w w'

set_option maxRecDepth 100000 in
set_option maxHeartbeats 1000000 in
theorem refRFixed_calls {w : World} {g : Nat} {vb : Value} {s : Rs} (h : RefR w g vb s) (n : Int) :
    Calls Tryd.prog 81 #[.pointer (some ⟨g, 0, none⟩), .int .i64 n] w (RefFixedPost g vb n s w) := by
  obtain ⟨ab, cb, rfl, hrow, hrd, hoff, k0, k1, k2, f1⟩ := h.parts
  have hpos := h.1.1
  have hL := h.1.2
  by_cases hno : s.bad ≠ .fine ∨ n < 0 ∨ 8 < n
  · have HN := Lib.hid hno
    by_cases hb : s.bad = .fine
    · have hn2 : n < 0 ∨ 8 < n := hno.resolve_left (fun e => e hb)
      have HB := Lib.hid hb
      clear hno hb hrow hrd
      rcases hn2 with hn2 | hn2
      all_goals (
        go_enter Tryd.func81, Tryd.ntmps81
        go_wp2_with fail
        refine (refFine_yes h HB.out).mono ?_
        rintro e w2 ⟨rfl, rfl⟩
        go_wp2_with fail
        all_goals (
          go_ret
          unfold RefFixedPost
          rw [fixed_not HN.out]
          exact ⟨rfl, h, Touch.refl _ _⟩))
    · have HB := Lib.hid hb
      clear hno hb hrow hrd
      go_enter Tryd.func81, Tryd.ntmps81
      go_wp2_with fail
      refine (refFine_no h HB.out).mono ?_
      rintro e w2 ⟨rfl, rfl⟩
      go_wp2_with fail
      go_ret
      unfold RefFixedPost
      rw [fixed_not HN.out]
      exact ⟨rfl, h, Touch.refl _ _⟩
  · obtain ⟨hb, hn0, hn8⟩ : s.bad = .fine ∧ 0 ≤ n ∧ n ≤ 8 := by
      refine ⟨Classical.byContradiction fun e => hno (.inl e), ?_, ?_⟩ <;> omega
    obtain ⟨k, rfl⟩ : ∃ k : Nat, n = (k : Int) := ⟨n.toNat, by omega⟩
    have hk8 : k ≤ 8 := by omega
    have HB := Lib.hid hb
    have hlf := left_length s
    have m1 := hrd.len_le
    have HF := Lib.hid hlf
    have hsubn : IntKind.i64.wrap ((s.l.length : Int) - (s.pos : Int)) = (s.left.length : Int) := by rw [IntKind.wrap_i64]; omega
    by_cases hgt : s.left.length < k
    · clear hno hb hrow hrd hlf
      go_enter Tryd.func81, Tryd.ntmps81
      go_wp2_with fail
      refine (refFine_yes h HB.out).mono ?_
      rintro e w2 ⟨rfl, rfl⟩
      go_wp2_with fail
      go_quiet (fail)
      clear hsubn
      go_wp2_with fail
      refine (refFail_calls (h.drewN nq) 0).mono ?_
      rintro e w4 ⟨rfl, r4, t4⟩
      go_wp2_with fail
      go_ret
      unfold RefFixedPost
      rw [fixed_short HB.out k rfl hk8 hgt]
      exact ⟨rfl, r4, Touch.trans ((Touch.refl g w).drewN nq) t4⟩
    · have hle : s.pos + k ≤ s.l.length := by omega
      clear hno hb hrow hrd hlf
      go_enter Tryd.func81, Tryd.ntmps81
      go_wp2_with fail
      refine (refFine_yes h HB.out).mono ?_
      rintro e w2 ⟨rfl, rfl⟩
      go_wp2_with fail
      go_quiet (fail)
      clear hsubn
      go_wp2_with fail
      have r3 := (h.drewN nq).moved k hle (.int .i64 ((s.pos : Int) + (k : Int))) (by rw [Int.natCast_add])
      have t3 : Touch g w ((w.drewN nq).setCell ⟨g, 1, none⟩ (.int .i64 ((s.pos : Int) + (k : Int)))) := ((Touch.refl g w).drewN nq).set 1 _
      generalize (w.drewN nq).setCell ⟨g, 1, none⟩ (.int .i64 ((s.pos : Int) + (k : Int))) = w3 at *
      obtain ⟨ab3, cb3, -, hrow3, hown3, hoff3, k03, k13, k23, f13⟩ := r3.parts
      change w3.cell? _ = some (.slice ab3 s.l.length cb3) at k03
      change w3.cell? _ = some (.int .i64 ((s.pos + k : Nat) : Int)) at k13
      have rd3 : Rd w3 1 (.slice ab3 s.l.length cb3) s.l.length (bvs s.l) := hown3
      obtain ⟨a', c', hcut, hrd⟩ := run_part (P := Tryd.prog) 42 sl_u8 1 sz_u8 ab3 s.l.length cb3 s.pos (s.pos + k) .i64 .i64 (by omega) hle rd3.cap
      rw [Nat.add_sub_cancel_left] at hcut hrd
      have hlen : (s.left.take k).length = k := by rw [List.length_take]; omega
      have rd4 : ∀ q, Rd (w3.drewN q) 1 (.slice a' k c') (s.left.take k).length (bvs (s.left.take k)) := fun q => by
        have := hrd (w3.drewN q) _ (rd3.below (below_drewN (Below.refl _ _) q))
        simp only [Nat.mul_one] at this
        rw [hlen]; unfold Rs.left; rw [bvs_take, bvs_drop]; exact this
      have hsub : IntKind.i64.wrap (((s.pos + k : Nat) : Int) - (k : Int)) = (s.pos : Int) := by rw [IntKind.wrap_i64]; omega
      have R3 := Lib.hid r3
      obtain ⟨p3, hp3⟩ : ∃ p3, p3 = s.pos + k := ⟨_, rfl⟩
      rw [← hp3] at hcut hsub k13
      have HP3 := Lib.hid hp3
      clear hp3
      have hcl := fun q => refFixed_calls _ _ _ (rd4 q) (by omega)
      clear r3 hrow3 hown3 hoff3 k23 f13 rd3 hrd k0 k1 k2 f1 hlen rd4 hoff
      go_quiet ((go_at_call 58; exact Calls.quiet_of_same (hcl _)))
      go_wp2_with fail
      go_ret
      unfold RefFixedPost
      rw [fixed_yes HB.out k rfl hk8 hgt]
      exact ⟨rfl, R3.out.drewN _, t3.drewN _⟩
end Go.Proofs.YtlfbdcgojbfcaaaDoor
