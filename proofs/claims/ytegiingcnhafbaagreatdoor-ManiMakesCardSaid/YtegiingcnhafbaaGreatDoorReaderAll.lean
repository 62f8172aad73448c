/- A reader of numbers: a number with a sign. Merged of: ReaderInt, ReaderBytes, ReaderMore. -/
import Derived.Test.YtegiingcnhafbaaGreatDoorReader
import Derived.StillTailTactics

/-! A reader of numbers: a number with a sign. -/
namespace Go.Proofs.YtegiingcnhafbaaGreatDoor
open Go Go.RowKit Vint

set_option maxRecDepth 100000 in
set_option maxHeartbeats 1000000 in
theorem int_calls' {S : List Nat} {A : Nat → Addr} {w : World} (hS : Sents S w A) (hz0 : 0 ∈ S) (hz2 : 2 ∈ S) (hz4 : 4 ∈ S) {g : Nat} (haw : Away S A g) {s : Rs} (h : Rdr A w g s) (from' to' : Int) :
    Calls Tryz.prog 34 #[.pointer (some ⟨g, 0, none⟩), .int .i64 from', .int .i64 to'] w
      (fun e w' => e = .returned (.int .i64 (int from' to' s).1) ∧ Rdr A w' g (int from' to' s).2 ∧ Touch g w w') := by
  obtain ⟨ab, cb, ve, hrow, hown, her, k0, k1, k2, f1⟩ := h.parts
  have hpos := h.1.1
  have hL := h.1.2
  by_cases hb : s.bad = .fine
  · have hve : ve = .nilIface := by rw [hb] at her; exact her
    subst hve
    have rd := Rd.of_owns hown
    have m1 := rd.len_le
    obtain ⟨a', c', hcut, hrd⟩ := run_rest (P := Tryz.prog) 23 sl_u8 1 sz_u8 ab s.l.length cb s.pos .i64 hpos
    have rd' : ∀ w', Below w.heap.size w w' → Rd w' 1 (.slice a' (s.l.length - s.pos) c') s.left.length (bvs s.left) := fun w' b => by
      have := hrd w' _ (rd.below b)
      rw [Nat.mul_one] at this
      rw [left_length]; unfold Rs.left; rw [bvs_drop]; exact this
    have hget := fun n => getInt_calls S A hz0 hz2 _ s.left (w.drewN n) (hS.drewN n) (rd' _ (below_drewN (Below.refl _ _) n))
    have g4 : ∀ n, (w.drewN n).cell? ⟨2, 0, none⟩ = some (.iface 149 (.pointer (some (A 4)))) := fun n => (hS.drewN n).cell 4 hz4
    have hbad := fun n i hi him => bad_calls' (hS.drewN n) hz0 haw _ _ _ (s.pos : Int) (show (w.drewN n).heap[g]? = _ from hrow) i hi him
    have HB := Lib.hid hb
    have HR := Lib.hid hrow
    clear hrd rd rd' hS hrow hb
    cases hg : getL 0 0 s.left with
    | ok n k =>
      rw [hg] at hget
      simp only [gi] at hget
      have hk := get_ok hg
      rw [left_length] at hk
      have hk1 : s.pos + k ≤ s.l.length := by omega
      have hk2 : k ≤ 10 := hk.2.2.1
      have HG := Lib.hid hg
      clear hg hk
      obtain ⟨z, hz⟩ : ∃ z, z = unfold' n := ⟨_, rfl⟩
      rw [← hz] at hget
      have HZ := Lib.hid hz
      clear hz
      by_cases hmn : z < from' ∨ to' < z
      · have hmn2 := Lib.hid hmn
        rcases hmn with hmn | hmn
        all_goals (
          go_enter Tryz.func34, Tryz.ntmps34
          go_wp2_with fail
          go_quiet ((go_at_call 62; exact Calls.quiet_of (hget _)))
          go_wp2_with fail
          all_goals (
            refine (hbad _ 4 (by omega) hz4).mono ?_
            rintro e w1 ⟨rfl, ve', h1, h2, h3⟩
            go_wp2_with fail
            go_ret
            unfold int
            rw [if_neg (fun e => e HB.out), HG.out]
            simp only
            rw [← HZ.out, if_pos hmn2.out]
            exact ⟨rfl, ⟨⟨hpos, hL⟩, _, _, h1, h3.owns (show (w.drewN nq).ownsRow _ _ _ _ _ _ from hown) (show (w.drewN nq).heap[g]? = _ from HR.out) (by decide), h2⟩, Touch.trans ((Touch.refl g w).drewN nq) h3⟩))
      · have hmn2 := Lib.hid hmn
        have hm3 : ¬ z < from' := fun e => hmn (.inl e)
        have hm4 : ¬ to' < z := fun e => hmn (.inr e)
        clear hmn
        go_enter Tryz.func34, Tryz.ntmps34
        go_wp2_with fail
        go_quiet ((go_at_call 62; exact Calls.quiet_of (hget _)))
        go_wp2_with fail
        go_ret
        unfold int
        rw [if_neg (fun e => e HB.out), HG.out]
        simp only
        rw [← HZ.out, if_neg hmn2.out]
        exact ⟨rfl, (h.drewN nq).moved k hk1 _ (by rw [Int.natCast_add]), ((Touch.refl g w).drewN nq).set 1 _⟩
    | fin =>
      rw [hg] at hget
      simp only [gi, senV] at hget
      have HG := Lib.hid hg
      clear hg
      go_enter Tryz.func34, Tryz.ntmps34
      go_wp2_with fail
      go_quiet ((go_at_call 62; exact Calls.quiet_of (hget _)))
      go_wp2_with fail
      refine (hbad _ 0 (by omega) hz0).mono ?_
      rintro e w1 ⟨rfl, ve', h1, h2, h3⟩
      go_wp2_with fail
      go_ret
      unfold int
      rw [if_neg (fun e => e HB.out), HG.out]
      exact ⟨rfl, ⟨⟨hpos, hL⟩, _, _, h1, h3.owns (show (w.drewN nq).ownsRow _ _ _ _ _ _ from hown) (show (w.drewN nq).heap[g]? = _ from HR.out) (by decide), h2⟩, Touch.trans ((Touch.refl g w).drewN nq) h3⟩
    | shape =>
      rw [hg] at hget
      simp only [gi, senV] at hget
      have HG := Lib.hid hg
      clear hg
      go_enter Tryz.func34, Tryz.ntmps34
      go_wp2_with fail
      go_quiet ((go_at_call 62; exact Calls.quiet_of (hget _)))
      go_wp2_with fail
      refine (hbad _ 2 (by omega) hz2).mono ?_
      rintro e w1 ⟨rfl, ve', h1, h2, h3⟩
      go_wp2_with fail
      go_ret
      unfold int
      rw [if_neg (fun e => e HB.out), HG.out]
      exact ⟨rfl, ⟨⟨hpos, hL⟩, _, _, h1, h3.owns (show (w.drewN nq).ownsRow _ _ _ _ _ _ from hown) (show (w.drewN nq).heap[g]? = _ from HR.out) (by decide), h2⟩, Touch.trans ((Touch.refl g w).drewN nq) h3⟩
  · obtain ⟨T, u, rfl⟩ := her.not_nil hb
    have HB := Lib.hid hb
    clear hb hS hrow
    go_enter Tryz.func34, Tryz.ntmps34
    go_wp2_with fail
    go_ret
    unfold int
    rw [if_pos HB.out]
    exact ⟨rfl, h, Touch.refl _ _⟩

theorem int_calls {S : List Nat} {A : Nat → Addr} {w : World} (hS : Sents S w A) (hall : All S) {g : Nat} (haw : Away S A g) {s : Rs} (h : Rdr A w g s) (from' to' : Int) :
    Calls Tryz.prog 34 #[.pointer (some ⟨g, 0, none⟩), .int .i64 from', .int .i64 to'] w
      (fun e w' => e = .returned (.int .i64 (int from' to' s).1) ∧ Rdr A w' g (int from' to' s).2 ∧ Touch g w w') := int_calls' hS (hall 0 (by omega)) (hall 2 (by omega)) (hall 4 (by omega)) haw h from' to'
end Go.Proofs.YtegiingcnhafbaaGreatDoor

/-! A reader of numbers: how it begins, where it is, what is left, what was amiss. -/
namespace Go.Proofs.YtegiingcnhafbaaGreatDoor
open Go Go.RowKit Vint

set_option maxRecDepth 100000 in
theorem newReader_calls (A : Nat → Addr) (v : Value) (l : List UInt8) (w : World) (ha : Rd w 1 v l.length (bvs l)) (hl : l.length ≤ 1099511627776) :
    Calls Tryz.prog 32 #[v] w (fun e w' => ∃ g, e = .returned (.pointer (some ⟨g, 0, none⟩)) ∧ w.heap.size ≤ g ∧ Rdr A w' g (rs0 l) ∧ Below w.heap.size w w') := by
  go_enter Tryz.func32, Tryz.ntmps32
  go_wp2_with fail
  refine (clone_bytes _ _ _ _ ha (bvs_one _) (by omega)).mono ?_
  rintro e w1 ⟨v1, rfl, o1, b1⟩
  obtain ⟨a1, c1, rfl⟩ := owns_slice o1
  go_wp2_with fail
  go_ret
  have hb := below_alloc w1 (.cells #[.slice a1 l.length c1, .int .i64 0, .nilIface] 95)
  exact ⟨_, rfl, b1.size, ⟨⟨Nat.zero_le _, hl⟩, _, _, heap_alloc_new w1 _, owns_base (owns_below o1 hb) (Nat.zero_le _), rfl⟩, nxt b1 hb⟩

set_option maxRecDepth 100000 in
theorem left_calls {A : Nat → Addr} {w : World} {g : Nat} {s : Rs} (h : Rdr A w g s) :
    Calls Tryz.prog 37 #[.pointer (some ⟨g, 0, none⟩)] w (fun e w' => e = .returned (.int .i64 (s.left.length : Nat)) ∧ ∃ n, w' = w.drewN n) := by
  obtain ⟨ab, cb, ve, hrow, hown, her, k0, k1, k2, f1⟩ := h.parts
  have hpos := h.1.1
  have m1 := (Rd.of_owns hown).len_le
  have hl : (s.left.length : Int) = (s.l.length : Int) - (s.pos : Int) := by rw [left_length]; omega
  rw [hl]
  clear hl hrow
  go_enter Tryz.func37, Tryz.ntmps37
  go_wp2_with fail
  have hw : IntKind.i64.wrap ((s.l.length : Int) - (s.pos : Int)) = (s.l.length : Int) - (s.pos : Int) := by rw [IntKind.wrap_i64]; omega
  go_quiet (fail)
  go_wp2_with fail
  go_ret
  exact ⟨rfl, _, rfl⟩

set_option maxRecDepth 100000 in
theorem readerErr_calls {A : Nat → Addr} {w : World} {g : Nat} {s : Rs} (h : Rdr A w g s) :
    Calls Tryz.prog 35 #[.pointer (some ⟨g, 0, none⟩)] w (fun e w' => ∃ v, e = .returned v ∧ ErRow A w v s.bad ∧ w' = w) := by
  obtain ⟨ab, cb, ve, hrow, hown, her, k0, k1, k2, f1⟩ := h.parts
  clear hrow
  go_enter Tryz.func35, Tryz.ntmps35
  go_wp2_with fail
  go_ret
  exact ⟨_, rfl, her, rfl⟩
end Go.Proofs.YtegiingcnhafbaaGreatDoor

/-! A reader of numbers: so many bytes. -/
namespace Go.Proofs.YtegiingcnhafbaaGreatDoor
open Go Go.RowKit Vint

/-- What a reading of bytes leaves. -/
def BytesPost (A : Nat → Addr) (g : Nat) (most : Int) (s : Rs) (w : World) (e : Ending) (w' : World) : Prop :=
  ∃ v, e = .returned v ∧ w'.ownsRow w.heap.size 5 1 v (Vint.bytes most s).1.length (bvs (Vint.bytes most s).1) ∧ Rdr A w' g (Vint.bytes most s).2 ∧ Touch g w w'

theorem run_part {P : Program} (t : TypeId) (ht : P.underlying t = some (.slice (P.elem t))) (sz : Nat) (hsz : (P.info? (P.elem t)).map (·.size) = some sz) (ad : Option Addr) (n c l m : Nat) (k k' : IntKind) (hl : l ≤ m) (hm : m ≤ n) (hc : n ≤ c) :
    ∃ a' c', (∀ W, (Instr.sliceAt t (.slice ad n c) (some (.int k (l : Int))) (some (.int k' (m : Int))) none).run P W = .ok (.slice a' (m - l) c') W) ∧
      ∀ w0 xs, Rd w0 sz (.slice ad n c) n xs → Rd w0 sz (.slice a' (m - l) c') (m - l) ((xs.drop (l * sz)).take ((m - l) * sz)) := by
  obtain ⟨a', c', e, r⟩ := part_all ad n c sz l m hl hm
  exact ⟨a', c', fun W => by rw [run_cut_lh t ht sz hsz ad n c l m k k' hl (by omega) W, e], r⟩

theorem bytes_bad {most : Int} {s s1 : Rs} {m n : Nat} (hm : (max most 0).toNat = m) (hn : (n, s1) = num m s) (hb : s1.bad ≠ .fine) : Vint.bytes most s = ([], s1) := by
  unfold Vint.bytes
  rw [hm, ← hn]
  simp only
  rw [if_pos hb]
theorem bytes_short {most : Int} {s s1 : Rs} {m n : Nat} (hm : (max most 0).toNat = m) (hn : (n, s1) = num m s) (hb : s1.bad = .fine) (hl : s1.left.length < n) : Vint.bytes most s = ([], s.fail 0) := by
  unfold Vint.bytes
  rw [hm, ← hn]
  simp only
  rw [if_neg (fun e => e hb), if_pos hl]
theorem bytes_yes {most : Int} {s s1 : Rs} {m n : Nat} (hm : (max most 0).toNat = m) (hn : (n, s1) = num m s) (hb : s1.bad = .fine) (hl : ¬ s1.left.length < n) : Vint.bytes most s = (s1.left.take n, s1.on n) := by
  unfold Vint.bytes
  rw [hm, ← hn]
  simp only
  rw [if_neg (fun e => e hb), if_neg hl]

set_option maxRecDepth 100000 in
set_option maxHeartbeats 1000000 in
theorem bytes_calls' {S : List Nat} {A : Nat → Addr} {w : World} (hS : Sents S w A) (hz0 : 0 ∈ S) (hz2 : 2 ∈ S) (hz4 : 4 ∈ S) {g : Nat} (haw : Away S A g) {s : Rs} (h : Rdr A w g s) (most : Int) (hm : -9223372036854775808 ≤ most ∧ most ≤ 9223372036854775807) :
    Calls Tryz.prog 36 #[.pointer (some ⟨g, 0, none⟩), .int .i64 most] w (BytesPost A g most s w) := by
  obtain ⟨ab, cb, ve, hrow, hown, her, k0, k1, k2, f1⟩ := h.parts
  have hpos := h.1.1
  have hL := h.1.2
  obtain ⟨hm1, hm2⟩ := hm
  obtain ⟨m, hmm⟩ : ∃ m : Nat, max most 0 = (m : Int) := ⟨(max most 0).toNat, by omega⟩
  have hmm2 : (max most 0).toNat = m := by omega
  have hmb : m ≤ 9223372036854775807 := by omega
  have hc := num_calls' hS hz0 hz2 hz4 haw h m
  have hn := num_ok hpos m
  have hv := (num_val (s := s) m).1
  have HM := Lib.hid hmm2
  obtain ⟨⟨n, s1⟩, hr⟩ : ∃ r, r = num m s := ⟨_, rfl⟩
  rw [← hr] at hc hn hv
  have HN := Lib.hid hr
  obtain ⟨hn1, hn2⟩ := hn
  have HL := Lib.hid hn2
  simp only at hc hn1 hv
  obtain ⟨X, hX, hXm⟩ : ∃ X : Int, X = (m : Int) ∧ (most < 0 ∧ X = 0 ∨ 0 ≤ most ∧ X = most) := by
    refine ⟨m, rfl, ?_⟩
    omega
  rw [← hX] at hc
  clear hmm2 hrow hown her hr hn2 hX hmm
  rcases hXm with ⟨hneg, rfl⟩ | ⟨hnn, rfl⟩
  all_goals (
    go_enter Tryz.func36, Tryz.ntmps36
    go_wp2_with fail
    refine hc.mono ?_
    rintro e w1 ⟨rfl, r1, t1⟩
    obtain ⟨ab1, cb1, ve1, hrow1, hown1, her1, k01, k11, k21, f11⟩ := r1.parts
    have hS1 := hS.touch t1 haw
    have m1 := (Rd.of_owns hown1).len_le
    clear hc k0 k1 k2 f1
    by_cases hb : s1.bad = .fine
    · have hve : ve1 = .nilIface := by rw [hb] at her1; exact her1
      subst hve
      have hlf := left_length s1
      have hbad := fun k => bad_calls' (hS1.drewN k) hz0 haw _ _ _ (s.pos : Int) (show (w1.drewN k).heap[g]? = _ from hrow1) 0 (by omega) hz0
      have g0 : ∀ k, (w1.drewN k).cell? ⟨3, 0, none⟩ = some (.iface 149 (.pointer (some (A 0)))) := fun k => (hS1.drewN k).cell 0 hz0
      have HB := Lib.hid hb
      have HR := Lib.hid hrow1
      have HO := Lib.hid hown1
      have HF := Lib.hid hlf
      have hll : s1.left.length ≤ 9223372036854775807 := by omega
      by_cases hgt : s1.left.length < n
      · clear hrow1 hb hlf
        go_wp2_with fail
        refine (left_calls r1).mono ?_
        rintro e w2 ⟨rfl, q2, rfl⟩
        go_wp2_with fail
        refine (hbad _).mono ?_
        rintro e w3 ⟨rfl, ve', h3, h4, h5⟩
        simp only [if_pos] at h4
        obtain ⟨_, rfl⟩ := h4
        have k23 := cell_of_row w3 g 2 _ _ _ h3
        unfold senV at k23
        go_wp2_with fail
        go_ret
        unfold BytesPost
        rw [bytes_short HM.out HN.out HB.out hgt]
        have h6 := h5.owns (show (w1.drewN q2).ownsRow _ _ _ _ _ _ from HO.out) (show (w1.drewN q2).heap[g]? = _ from HR.out) (by decide)
        rw [HL.out] at h3 h6
        exact ⟨_, rfl, World.ownsRow_nil _ _ _ _, ⟨⟨hpos, hL⟩, _, _, h3, h6, ⟨by omega, rfl⟩⟩, (t1.drewN q2).trans h5⟩
      · have hle : s1.pos + n ≤ s1.l.length := by unfold Rs.ok at hn1; omega
        clear hrow1 hb hlf
        go_wp2_with fail
        refine (left_calls r1).mono ?_
        rintro e w2 ⟨rfl, q2, rfl⟩
        go_wp2_with fail
        have r3 := (r1.drewN q2).moved n hle (.int .i64 ((s1.pos : Int) + (n : Int))) (by rw [Int.natCast_add])
        have t3 : Touch g w ((w1.drewN q2).setCell ⟨g, 1, none⟩ (.int .i64 ((s1.pos : Int) + (n : Int)))) := (t1.drewN q2).set 1 _
        generalize (w1.drewN q2).setCell ⟨g, 1, none⟩ (.int .i64 ((s1.pos : Int) + (n : Int))) = w3 at *
        obtain ⟨ab3, cb3, ve3, hrow3, hown3, her3, k03, k13, k23, f13⟩ := r3.parts
        change w3.cell? _ = some (.slice ab3 s1.l.length cb3) at k03
        change w3.cell? _ = some (.int .i64 ((s1.pos + n : Nat) : Int)) at k13
        have rd3 : Rd w3 1 (.slice ab3 s1.l.length cb3) s1.l.length (bvs s1.l) := Rd.of_owns hown3
        obtain ⟨a', c', hcut, hrd⟩ := run_part (P := Tryz.prog) 23 sl_u8 1 sz_u8 ab3 s1.l.length cb3 s1.pos (s1.pos + n) .i64 .i64 (by omega) hle rd3.cap
        rw [Nat.add_sub_cancel_left] at hcut hrd
        have hlen : (s1.left.take n).length = n := by rw [List.length_take]; omega
        have rd4 : ∀ w', Below w3.heap.size w3 w' → Rd w' 1 (.slice a' n c') (s1.left.take n).length (bvs (s1.left.take n)) := fun w' b => by
          have := hrd w' _ (rd3.below b)
          simp only [Nat.mul_one] at this
          rw [hlen]; unfold Rs.left; rw [bvs_take, bvs_drop]; exact this
        have hcl0 := r3.1.2
        have hsub : IntKind.i64.wrap (((s1.pos + n : Nat) : Int) - (n : Int)) = (s1.pos : Int) := by rw [IntKind.wrap_i64]; omega
        have hwn : IntKind.i64.wrap (n : Int) = (n : Int) := by rw [IntKind.wrap_i64]; omega
        have R3 := Lib.hid r3
        clear r3 hrow3 hown3 her3 k23 f13 rd3 hrd hbad g0 k01 k11 k21 f11 hown1 her1
        obtain ⟨p3, hp3⟩ : ∃ p3, p3 = s1.pos + n := ⟨_, rfl⟩
        rw [← hp3] at hcut hsub k13
        have HP3 := Lib.hid hp3
        clear hp3
        have hnb : n ≤ 1099511627776 := by have := r1.1.2; omega
        have hcl := fun w' (b : Below w3.heap.size w3 w') => clone_bytes _ _ _ _ (rd4 w' b) (bvs_one _) (by omega)
        have HLN := Lib.hid hlen
        clear hlen rd4 r1
        go_still_tail 16, (by kernel_rfl)
        change wpList _ _ _ _ _ w3.drew
        generalize hw4 : w3.drew = w4
        have b4 : Below w3.heap.size w3 w4 := by rw [← hw4]; exact (Below.refl _ _).drew
        clear hw4
        go_wp2_with fail
        refine (hcl _ b4).mono ?_
        rintro e w5 ⟨v5, rfl, o5, b5⟩
        go_wp2_with fail
        go_ret
        unfold BytesPost
        rw [bytes_yes HM.out HN.out HB.out hgt]
        have b35 := nxt b4 b5
        exact ⟨_, rfl, by rw [HLN.out] at o5; rw [HLN.out]; exact owns_base o5 (Nat.le_trans t3.size b4.size), R3.out.below b35, t3.trans (Touch.of_below b35)⟩
    · obtain ⟨T, u, rfl⟩ := her1.not_nil hb
      have HB := Lib.hid hb
      clear hb hrow1
      go_wp2_with fail
      go_ret
      unfold BytesPost
      rw [bytes_bad HM.out HN.out HB.out]
      exact ⟨_, rfl, World.ownsRow_nil _ _ _ _, r1, t1⟩)

theorem bytes_calls {S : List Nat} {A : Nat → Addr} {w : World} (hS : Sents S w A) (hall : All S) {g : Nat} (haw : Away S A g) {s : Rs} (h : Rdr A w g s) (most : Int) (hm : -9223372036854775808 ≤ most ∧ most ≤ 9223372036854775807) :
    Calls Tryz.prog 36 #[.pointer (some ⟨g, 0, none⟩), .int .i64 most] w (BytesPost A g most s w) := bytes_calls' hS (hall 0 (by omega)) (hall 2 (by omega)) (hall 4 (by omega)) haw h most hm
end Go.Proofs.YtegiingcnhafbaaGreatDoor

