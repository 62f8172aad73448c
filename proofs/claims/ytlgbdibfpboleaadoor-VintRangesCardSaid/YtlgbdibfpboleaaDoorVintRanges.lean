/- VintRanges returns true at every input. -/
import Derived.Test.YtlgbdibfpboleaaDoorReaderFixed
import Derived.Test.YtlgbdibfpboleaaDoorReaderInt
import Derived.Test.YtlgbdibfpboleaaDoorTextMath
import Derived.Test.YtlgbdibfpboleaaDoorVintFirst
namespace Go.Proofs.YtlgbdibfpboleaaDoor
open Go Go.RowKit Vint

theorem int_bad (a b : Int) {s : Rs} (h : s.bad ≠ .fine) : Vint.int a b s = (0, s) := by
  unfold Vint.int; rw [if_pos h]

theorem fixed_one (al : List UInt8) (i : Nat) (h : i < al.length) : (fixed 1 ⟨al, i, .fine⟩).2 = ⟨al, i + 1, .fine⟩ := by
  have hl : (⟨al, i, .fine⟩ : Rs).left.length = al.length - i := left_length _
  rw [fixed_yes (n := 1) (s := ⟨al, i, .fine⟩) rfl 1 rfl (by omega) (by rw [hl]; omega)]
  rfl

set_option maxRecDepth 100000 in
set_option maxHeartbeats 2000000 in
theorem vintRanges_walk (S : List Nat) (A : Nat → Addr) (u most : Nat) (n from' to' : Int) (vb : Value) (l : List UInt8) (w : World) (hS : Sents S w A) (hall : All S) (ha : Rd w 1 vb l.length (bvs l)) (hu : U64 u) (hn : I64 n) :
    Calls Tryd.prog 9 #[.int .u64 (u : Int), .int .u64 (most : Int), .int .i64 n, .int .i64 from', .int .i64 to', vb] w (fun e w' => e = .returned (.bool true) ∧ Below w.heap.size w w') := by
  obtain ⟨a1, c1, rfl⟩ := ha.slice
  have m1 := ha.len_le
  have hf : U64 (fold n) := fold_lt n hn.out.1 hn.out.2
  by_cases t1 : 20 < l.length
  · go_enter Tryd.func9, Tryd.ntmps9
    go_wp2_with fail
    refine (vintFirst_calls _).mono ?_
    rintro e w1 ⟨rfl, b1⟩
    go_wp2_with fail
    go_ret
    exact ⟨rfl, b1⟩
  · go_enter Tryd.func9, Tryd.ntmps9
    go_wp2_with fail
    refine (vintFirst_calls _).mono ?_
    rintro e w1 ⟨rfl, b1⟩
    have lu := putL_len10 u hu
    have lf := putL_len10 (fold n) hf
    go_wp2_with fail
    refine (put_calls _ l.length l u _ (ha.below b1) (by omega) hu).mono ?_
    rintro e w2 ⟨v2, rfl, o2, b2⟩
    have r2 : Rd w2 1 v2 (l.length + (putL u).length) (bvs (l ++ putL u)) := Rd.of_owns o2
    have B2 := nxt b1 b2
    clear o2
    go_wp2_with fail
    refine (putInt_calls _ _ (l ++ putL u) n _ r2 (by omega) hn).mono ?_
    rintro e w3 ⟨v3, rfl, o3, b3⟩
    have B3 := nxt B2 b3
    obtain ⟨al, hal⟩ : ∃ al, al = l ++ (putL u ++ (putL (fold n) ++ [])) := ⟨_, rfl⟩
    have hlen : al.length = l.length + (putL u).length + (putL (fold n)).length := by rw [hal]; simp; omega
    have r3 : Rd w3 1 v3 al.length (bvs al) := by
      rw [hlen, show bvs al = bvs (l ++ putL u ++ putL (fold n)) by rw [hal]; simp]; exact Rd.of_owns o3
    have hN := num_put most u (putL (fold n) ++ []) l.length l hu rfl
    rw [← hal] at hN
    have hI := int_put from' to' n [] (l.length + (putL u).length) (l ++ putL u) hn (by rw [List.length_append])
    rw [show l ++ putL u ++ (putL (fold n) ++ []) = al by rw [hal]; simp] at hI
    have pu := putL_pos u
    have hla : l.length < al.length := by omega
    have hlb : al.length ≤ 100 := by omega
    have HAL := Lib.hid hlen
    have HN := Lib.hid hN
    have HI := Lib.hid hI
    clear hal hlen hN hI o3 r2 b1 b2 b3 B2
    obtain ⟨a3, c3, rfl⟩ := r3.slice
    go_wp2_with fail
    refine (newReader_calls A _ al _ r3 (by omega)).mono ?_
    rintro e w4 ⟨g, rfl, hg, rr, b4⟩
    have B4 := nxt B3 b4
    have hgw := Nat.le_trans B3.size hg
    have haw : Away S A g := Away.of_new hS hgw
    go_wp2_with fail
    go_loopw [16] (fun iv wr => ∃ i : Nat, i ≤ l.length ∧ iv = .int .i64 i ∧ Rdr A wr g ⟨al, i, .fine⟩ ∧ Below w.heap.size w wr) (fun iv _ => l.length - (intOf iv).toNat)
    case atStart => exact ⟨0, by omega, rfl, rr, B4⟩
    case round =>
      obtain ⟨i, hi, rfl, hr, hb⟩ := hrel
      by_cases hlt : i < l.length
      · have hf1 := fixed_calls (hS.below hb) hall haw hr 1
        have he := fixed_one al i (by omega)
        go_wp2_with fail
        refine hf1.mono ?_
        rintro e w5 ⟨rfl, r5, t5⟩
        rw [he] at r5
        go_wp2_with fail
        exact ⟨⟨i + 1, by omega, by go_num, r5, t5.new hb hgw⟩, by simp [intOf]; omega⟩
      · obtain rfl : i = l.length := by omega
        go_wp2_with fail
        refine (num_calls (hS.below hb) hall haw hr most).mono ?_
        rintro e w5 ⟨rfl, r5, t5⟩
        have B5 := t5.new hb hgw
        clear rr b4 B4 B3 r3
        by_cases hbig : most < u
        · rw [HN.out, if_pos hbig] at r5
          rw [show (num most ⟨al, l.length, .fine⟩).1 = 0 by rw [HN.out, if_pos hbig]]
          go_wp2_with fail
          refine (readerErr_calls r5).mono ?_
          rintro e w6 ⟨v6, rfl, er, rfl⟩
          go_wp2_with fail
          refine (placed_calls 105 _ _ (by omega)).mono ?_
          rintro e w7 ⟨rfl, b7⟩
          have B7 := nxt B5 b7
          go_wp2_with fail
          refine (same_calls (hS.below B7) hall _ (.placed 4 l.length) (er.at.below b7) 105 _ true).mono ?_
          rintro e w8 ⟨rfl, b8⟩
          have B8 := nxt B7 b8
          replace r5 := (r5.below b7).below b8
          rw [show decide ((Er.placed 4 (l.length : Int)).code = 105 ∧ (Er.placed 4 (l.length : Int)).has = true ∧ (Er.placed 4 (l.length : Int)).pos = (l.length : Int)) = true by rw [decide_eq_true_eq]; exact ⟨rfl, rfl, rfl⟩]
          go_wp2_with fail
          refine (int_calls (hS.below B8) hall haw r5 from' to').mono ?_
          rintro e w9 ⟨rfl, r9, t9⟩
          rw [int_bad from' to' (by simp)] at r9 ⊢
          have B9 := t9.new B8 hgw
          go_wp2_with fail
          refine (readerAt_calls r9).mono ?_
          rintro e w10 ⟨rfl, rfl⟩
          go_wp2_with fail
          go_ret
          exact ⟨rfl, B9⟩
        · rw [HN.out, if_neg hbig] at r5
          rw [show (num most ⟨al, l.length, .fine⟩).1 = u by rw [HN.out, if_neg hbig]]
          go_wp2_with fail
          refine (int_calls (hS.below B5) hall haw r5 from' to').mono ?_
          rintro e w6 ⟨rfl, r6, t6⟩
          have B6 := t6.new B5 hgw
          by_cases hout : n < from' ∨ to' < n
          · rw [HI.out, if_pos hout] at r6
            rw [show (Vint.int from' to' ⟨al, l.length + (putL u).length, .fine⟩).1 = 0 by rw [HI.out, if_pos hout]]
            rcases hout with hout | hout
            all_goals (
              go_wp2_with fail
              all_goals (
                refine (readerErr_calls r6).mono ?_
                rintro e w7 ⟨v7, rfl, er, rfl⟩
                go_wp2_with fail
                refine (size_calls u _ hu).mono ?_
                rintro e w8 ⟨rfl, b8⟩
                have B8 := nxt B6 b8
                go_wp2_with fail
                refine (placed_calls 105 _ _ (by omega)).mono ?_
                rintro e w9 ⟨rfl, b9⟩
                have B9 := nxt B8 b9
                go_wp2_with fail
                refine (same_calls (hS.below B9) hall _ (.placed 4 ((l.length + (putL u).length : Nat) : Int)) ((er.at.below b8).below b9) 105 _ true).mono ?_
                rintro e w10 ⟨rfl, b10⟩
                rw [decide_eq_true (by refine ⟨rfl, rfl, ?_⟩; show ((l.length + (putL u).length : Nat) : Int) = _; omega)]
                go_wp2_with fail
                go_ret
                exact ⟨rfl, nxt B9 b10⟩))
          · rw [HI.out, if_neg hout] at r6
            rw [show (Vint.int from' to' ⟨al, l.length + (putL u).length, .fine⟩).1 = n by rw [HI.out, if_neg hout]]
            have h1 : ¬ n < from' := fun e => hout (.inl e)
            have h2 : ¬ to' < n := fun e => hout (.inr e)
            have hz : (⟨al, l.length + (putL u).length + (putL (fold n)).length, .fine⟩ : Rs).left.length = 0 := by rw [left_length, HAL.out]; simp
            clear hout
            go_wp2_with fail
            refine (readerErr_calls r6).mono ?_
            rintro e w7 ⟨v7, rfl, er, rfl⟩
            obtain rfl := er
            go_wp2_with fail
            refine (left_calls r6).mono ?_
            rintro e w8 ⟨rfl, q8, rfl⟩
            rw [hz]
            go_wp2_with fail
            go_ret
            exact ⟨rfl, nxt B6 (below_drewN (Below.refl _ _) q8)⟩
end Go.Proofs.YtlgbdibfpboleaaDoor
