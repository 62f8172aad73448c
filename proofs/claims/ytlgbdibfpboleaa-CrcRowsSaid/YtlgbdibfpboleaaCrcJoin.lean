/- crc.Join and its matrix. -/
import Derived.Test.YtlgbdibfpboleaaCrcWalk
namespace Go.Proofs.Ytlgbdibfpboleaa
open Go Go.RowKit Crc

/-- A matrix's columns as far as they are laid. -/
def colsTo (L : BitVec 32 → BitVec 32) (k : Nat) : Array Value := ((List.range 32).map fun i => if i < k then sv (L (1#32 <<< i)) else .int .u32 0).toArray

theorem colsTo_size (L : BitVec 32 → BitVec 32) (k : Nat) : (colsTo L k).size = 32 := by simp [colsTo]
theorem colsTo_zero (L M : BitVec 32 → BitVec 32) : colsTo L 0 = colsTo M 0 := by simp [colsTo]
theorem colsTo_one (L : BitVec 32 → BitVec 32) (k : Nat) : (colsTo L k).all (·.oneCell') = true := by
  rw [Array.all_eq_true_iff_forall_mem]
  intro v hv
  simp only [colsTo, List.mem_toArray, List.mem_map] at hv
  obtain ⟨i, _, rfl⟩ := hv
  split <;> rfl
theorem colsTo_at (L : BitVec 32 → BitVec 32) (k i : Nat) (hi : i < 32) : (colsTo L k)[i]? = some (if i < k then sv (L (1#32 <<< i)) else .int .u32 0) := by
  unfold colsTo
  simp only [List.getElem?_toArray, List.getElem?_map, List.getElem?_range hi, Option.map_some]

theorem colsTo_next (L : BitVec 32 → BitVec 32) (k : Nat) (h : k < 32) : (colsTo L k).setIfInBounds k (sv (L (1#32 <<< k))) = colsTo L (k + 1) := by
  apply Array.ext_getElem?
  intro i
  rw [Array.getElem?_setIfInBounds]
  by_cases hi : i < 32
  · rw [colsTo_at L (k + 1) i hi, colsTo_at L k i hi, colsTo_size]
    by_cases e : k = i
    · subst e; simp [h]
    · rw [if_neg e]
      by_cases h2 : i < k
      · rw [if_pos h2, if_pos (by omega)]
      · rw [if_neg h2, if_neg (by omega)]
  · have h1 : (colsTo L (k + 1))[i]? = none := Array.getElem?_eq_none (by rw [colsTo_size]; omega)
    have h2 : (colsTo L k)[i]? = none := Array.getElem?_eq_none (by rw [colsTo_size]; omega)
    rw [h1, h2, if_neg (by omega)]

set_option maxRecDepth 100000 in
set_option maxHeartbeats 1000000 in
theorem matOf_calls (g : Nat) (L : BitVec 32 → BitVec 32) (hL : Lin L) (x : BitVec 32) (w : World) (t : TypeId) (h : w.heap[g]? = some (.cells (colsTo L 32) t (0, 0))) :
    Calls Try.prog 20 #[.pointer (some ⟨g, 0, none⟩), .int .u32 (x.toNat : Int)] w (fun e w' => e = .returned (.int .u32 ((L x).toNat : Int)) ∧ w = w') := by
  go_enter Try.func20, Try.ntmps20
  go_wp2_with fail
  go_loop [5, 7] (fun ov iv => ∃ k : Nat, k ≤ 32 ∧ iv = .int .i64 k ∧ ov = .int .u32 ((L (lows x k)).toNat : Int)) (fun _ iv => 32 - (intOf iv).toNat)
  case atStart => exact ⟨0, by omega, rfl, congrArg (Value.int .u32) (by simp [lows, hL.zero])⟩
  case round =>
    obtain ⟨k, hk, rfl, rfl⟩ := hrel
    by_cases hlt : k < 32
    · have hc := (cell_of_row w g k _ _ _ h).trans (colsTo_at L 32 k hlt)
      rw [if_pos hlt] at hc
      unfold sv at hc
      have hstep := lin_step hL x k
      have hb := bitk x k
      cases hx : x.getLsbD k with
      | true =>
        rw [hx] at hstep hb
        simp only [if_true] at hstep hb
        have HS := Lib.hid hstep
        clear hstep hx
        go_wp2_with fail
        exact ⟨⟨k + 1, by omega, by go_num, congrArg (Value.int .u32) (by rw [bxor, HS.out])⟩, by simp [intOf]; omega⟩
      | false =>
        rw [hx] at hstep hb
        simp only [Bool.false_eq_true, if_false] at hstep hb
        have HS := Lib.hid hstep
        clear hstep hx
        go_wp2_with fail
        exact ⟨⟨k + 1, by omega, by go_num, congrArg (Value.int .u32) (by rw [HS.out])⟩, by simp [intOf]; omega⟩
    · have hk32 : k = 32 := by omega
      subst hk32
      rw [lows_all]
      go_wp2_with fail
      go_ret
      exact ⟨rfl, rfl⟩

theorem mat_under : Try.prog.underlying 44 = some (.array 32 33) := by kernel_rfl

theorem mod_next (m t : Nat) : m % 2 ^ (t + 1) = m % 2 ^ t + if m / 2 ^ t % 2 = 1 then 2 ^ t else 0 := by
  rw [Nat.pow_succ, Nat.mod_mul]
  split
  · rename_i h; rw [h, Nat.mul_one]
  · rename_i h
    have : m / 2 ^ t % 2 = 0 := by omega
    rw [this]; simp

/-- What Join comes to. -/
def joinS (a b : BitVec 32) (n : Nat) : BitVec 32 := stn (8 * n) a ^^^ b

set_option maxRecDepth 100000 in
set_option maxHeartbeats 2000000 in
theorem join_calls (a b : BitVec 32) (n : Nat) (w : World) (hn : n ≤ 1048576) :
    Calls Try.prog 15 #[.int .u32 (a.toNat : Int), .int .u32 (b.toNat : Int), .int .i64 (n : Int)] w (fun e w' => e = .returned (.int .u32 ((joinS a b n).toNat : Int)) ∧ Below w.heap.size w w') := by
  go_enter Try.func15, Try.ntmps15
  go_wp2_with fail
  go_loopw [8] (fun iv wr => ∃ k : Nat, 1 ≤ k ∧ k ≤ 32 ∧ iv = .int .i64 k ∧ wr.heap[w.heap.size]? = some (.cells (colsTo st k) 44 (0, 0)) ∧ Below w.heap.size w wr) (fun iv _ => 32 - (intOf iv).toNat)
  case atStart =>
    refine ⟨1, by omega, by omega, rfl, ?_, below_alloc _ _⟩
    refine (heap_alloc_new w _).trans ?_
    kernel_rfl
  case round =>
    obtain ⟨k, hk1, hk, rfl, hg, hbel⟩ := hrel
    by_cases hlt : k < 32
    · obtain ⟨⟨old, hc⟩, hf, hs⟩ := block_cell (k := k) hg (by rw [colsTo_size]; omega)
      have hn := hs (sv (st (1#32 <<< k)))
      rw [colsTo_next st k hlt] at hn
      have hval : st (1#32 <<< k) = 1#32 <<< (k - 1) := by
        obtain ⟨j, rfl⟩ : ∃ j, k = j + 1 := ⟨k - 1, by omega⟩
        exact st_pow j hlt
      rw [hval] at hn
      unfold sv at hn
      rw [← shl_walk (k - 1)] at hn
      have HN := Lib.hid hn
      have hb := hbel.setCell (p := ⟨w.heap.size, k, none⟩) (Nat.le_refl _) (.int .u32 ((2 : Int) ^ (k - 1) % 4294967296))
      clear hs hn hval hg
      go_wp2_with fail
      exact ⟨⟨k + 1, by omega, by omega, by go_num, HN.out, hb⟩, by simp [intOf]; omega⟩
    · have h32 : k = 32 := by omega
      subst h32
      clear hlt hk hk1
      rw [show ((32 : Nat) : Int) = 32 from rfl]
      go_wp2_with fail
      go_loopw [0, 9] (fun av lv wr => ∃ (t : Nat) (x : BitVec 32), lv = .int .i64 ((8 * n / 2 ^ t : Nat) : Int) ∧ av = .int .u32 (x.toNat : Int) ∧ x = stn (8 * n % 2 ^ t) a ∧ wr.heap[w.heap.size]? = some (.cells (colsTo (stn (2 ^ t)) 32) 44 (0, 0)) ∧ Below w.heap.size w wr) (fun _ lv _ => (intOf lv).toNat)
      case atStart => exact ⟨0, a, congrArg (Value.int .i64) (by simp), rfl, by simp [stn, Nat.mod_one], hg, hbel⟩
      case round =>
        obtain ⟨t, x, rfl, rfl, hx, hg2, hbel2⟩ := hrel
        obtain ⟨wo, rfl⟩ : ∃ wo : World, wo = wr := ⟨_, rfl⟩
        have hle : 8 * n / 2 ^ t ≤ 8388608 := Nat.le_trans (Nat.div_le_self _ _) (by omega)
        have HX := Lib.hid hx
        clear hx hg hbel
        have hdm := Lib.hid (Nat.div_add_mod (8 * n) (2 ^ t))
        generalize hq : 8 * n / 2 ^ t = q at *
        have HQ := Lib.hid hq
        clear hq
        have hwg : w.heap.size < wo.heap.size := (Array.getElem?_eq_some_iff.1 hg2).1
        have hmodn := Lib.hid (mod_next (8 * n) t)
        by_cases hlt : 0 < q
        · by_cases hodd : q % 2 = 1
          · have eb : bits .and .i64 (q : Int) 1 = 1 := by rw [i64_and1]; omega
            have HO := Lib.hid hodd
            clear hodd
            go_wp2_with fail
            refine (matOf_calls w.heap.size (stn (2 ^ t)) (lin_stn _) x _ _ hg2).mono ?_
            rintro e w4 ⟨rfl, rfl⟩
            go_wp2_with fail
            go_loopw [39] (fun jv wr => ∃ j : Nat, j ≤ 32 ∧ jv = .int .i64 j ∧ wr.heap[wo.heap.size]? = some (.cells (colsTo (stn (2 ^ (t + 1))) j) 44 (0, 0)) ∧ wr.heap[w.heap.size]? = some (.cells (colsTo (stn (2 ^ t)) 32) 44 (0, 0)) ∧ Below w.heap.size w wr) (fun jv _ => 32 - (intOf jv).toNat)
            case atStart =>
              refine ⟨0, by omega, rfl, (heap_alloc_new wo _).trans ?_, (heap_alloc_old wo _ hwg).trans hg2, hbel2.alloc hbel2.size _⟩
              rw [colsTo_zero _ st]
              kernel_rfl
            case round =>
              obtain ⟨j, hj, rfl, hgn, hgo, hbi⟩ := hrel
              by_cases hlj : j < 32
              · have hc := (cell_of_row wr w.heap.size j _ _ _ hgo).trans (colsTo_at (stn (2 ^ t)) 32 j hlj)
                rw [if_pos hlj] at hc
                obtain ⟨⟨old, hco⟩, hf, hs⟩ := block_cell (k := j) hgn (by rw [colsTo_size]; omega)
                have hn1 := hs (sv (stn (2 ^ (t + 1)) (1#32 <<< j)))
                rw [colsTo_next _ j hlj] at hn1
                have hn2 := (heap_setCell_other wr ⟨wo.heap.size, j, none⟩ w.heap.size (sv (stn (2 ^ (t + 1)) (1#32 <<< j))) (by simp; omega)).trans hgo
                have hdb : stn (2 ^ t) (stn (2 ^ t) (1#32 <<< j)) = stn (2 ^ (t + 1)) (1#32 <<< j) := by
                  rw [← stn_add, Nat.pow_succ]; congr 1; omega
                have hb3 := hbi.setCell (p := ⟨wo.heap.size, j, none⟩) (by simp; omega) (sv (stn (2 ^ (t + 1)) (1#32 <<< j)))
                have HD := Lib.hid hdb
                have H1 := Lib.hid hn1
                have H2 := Lib.hid hn2
                clear hs hn1 hn2 hdb
                unfold sv at *
                generalize 1#32 <<< j = y at *
                go_wp2_with fail
                refine (matOf_calls w.heap.size (stn (2 ^ t)) (lin_stn _) (stn (2 ^ t) y) _ _ hgo).mono ?_
                rintro e w5 ⟨rfl, rfl⟩
                rw [HD.out]
                clear hgo hgn
                go_wp2_with fail
                exact ⟨⟨j + 1, by omega, by go_num, H1.out, H2.out, hb3⟩, by simp [intOf]; omega⟩
              · have hj32 : j = 32 := by omega
                subst hj32
                clear hlj hj
                have hi : (Try.prog.info? 44).map (·.size) = some (colsTo (stn (2 ^ (t + 1))) 32).size := by rw [colsTo_size]; kernel_rfl
                have hold : (colsTo (stn (2 ^ t)) 32).size = (colsTo (stn (2 ^ (t + 1))) 32).size := by rw [colsTo_size, colsTo_size]
                have hone := colsTo_one (stn (2 ^ (t + 1))) 32
                have hb4 := below_setRow hbi w.heap.size (colsTo (stn (2 ^ (t + 1))) 32) (Nat.le_refl _)
                have hnew := setRow_heap wr w.heap.size _ (colsTo (stn (2 ^ (t + 1))) 32) _ _ hgo
                have HN := Lib.hid hnew
                clear hnew
                generalize hC : colsTo (stn (2 ^ (t + 1))) 32 = C at *
                have HC := Lib.hid hC
                clear hC
                generalize colsTo (stn (2 ^ t)) 32 = C0 at *
                go_wp2_with (first | (refine wpList_load_row rfl 44 _ rfl wo.heap.size rfl 44 C (0, 0) _ hgn mat_under rfl hi ?_) | (refine wpList_store_row rfl 44 _ _ rfl w.heap.size C rfl rfl 44 C0 hgo hi hold hone ?_))
                go_roundw
                case rel =>
                  refine ⟨t + 1, stn (2 ^ t) x, congrArg (Value.int .i64) ?_, rfl, by rw [hmodn.out, HQ.out, if_pos HO.out, stn_add, HX.out], by rw [HC.out]; exact HN.out, hb4⟩
                  rw [Nat.pow_succ, ← Nat.div_div_eq_div_mul, HQ.out]; omega
                case measure => simp [intOf]; omega
          · have eb : bits .and .i64 (q : Int) 1 = 0 := by rw [i64_and1]; omega
            have HO := Lib.hid hodd
            clear hodd
            go_wp2_with fail
            go_loopw [39] (fun jv wr => ∃ j : Nat, j ≤ 32 ∧ jv = .int .i64 j ∧ wr.heap[wo.heap.size]? = some (.cells (colsTo (stn (2 ^ (t + 1))) j) 44 (0, 0)) ∧ wr.heap[w.heap.size]? = some (.cells (colsTo (stn (2 ^ t)) 32) 44 (0, 0)) ∧ Below w.heap.size w wr) (fun jv _ => 32 - (intOf jv).toNat)
            case atStart =>
              refine ⟨0, by omega, rfl, (heap_alloc_new wo _).trans ?_, (heap_alloc_old wo _ hwg).trans hg2, hbel2.alloc hbel2.size _⟩
              rw [colsTo_zero _ st]
              kernel_rfl
            case round =>
              obtain ⟨j, hj, rfl, hgn, hgo, hbi⟩ := hrel
              by_cases hlj : j < 32
              · have hc := (cell_of_row wr w.heap.size j _ _ _ hgo).trans (colsTo_at (stn (2 ^ t)) 32 j hlj)
                rw [if_pos hlj] at hc
                obtain ⟨⟨old, hco⟩, hf, hs⟩ := block_cell (k := j) hgn (by rw [colsTo_size]; omega)
                have hn1 := hs (sv (stn (2 ^ (t + 1)) (1#32 <<< j)))
                rw [colsTo_next _ j hlj] at hn1
                have hn2 := (heap_setCell_other wr ⟨wo.heap.size, j, none⟩ w.heap.size (sv (stn (2 ^ (t + 1)) (1#32 <<< j))) (by simp; omega)).trans hgo
                have hdb : stn (2 ^ t) (stn (2 ^ t) (1#32 <<< j)) = stn (2 ^ (t + 1)) (1#32 <<< j) := by
                  rw [← stn_add, Nat.pow_succ]; congr 1; omega
                have hb3 := hbi.setCell (p := ⟨wo.heap.size, j, none⟩) (by simp; omega) (sv (stn (2 ^ (t + 1)) (1#32 <<< j)))
                have HD := Lib.hid hdb
                have H1 := Lib.hid hn1
                have H2 := Lib.hid hn2
                clear hs hn1 hn2 hdb
                unfold sv at *
                generalize 1#32 <<< j = y at *
                go_wp2_with fail
                refine (matOf_calls w.heap.size (stn (2 ^ t)) (lin_stn _) (stn (2 ^ t) y) _ _ hgo).mono ?_
                rintro e w5 ⟨rfl, rfl⟩
                rw [HD.out]
                clear hgo hgn
                go_wp2_with fail
                exact ⟨⟨j + 1, by omega, by go_num, H1.out, H2.out, hb3⟩, by simp [intOf]; omega⟩
              · have hj32 : j = 32 := by omega
                subst hj32
                clear hlj hj
                have hi : (Try.prog.info? 44).map (·.size) = some (colsTo (stn (2 ^ (t + 1))) 32).size := by rw [colsTo_size]; kernel_rfl
                have hold : (colsTo (stn (2 ^ t)) 32).size = (colsTo (stn (2 ^ (t + 1))) 32).size := by rw [colsTo_size, colsTo_size]
                have hone := colsTo_one (stn (2 ^ (t + 1))) 32
                have hb4 := below_setRow hbi w.heap.size (colsTo (stn (2 ^ (t + 1))) 32) (Nat.le_refl _)
                have hnew := setRow_heap wr w.heap.size _ (colsTo (stn (2 ^ (t + 1))) 32) _ _ hgo
                have HN := Lib.hid hnew
                clear hnew
                generalize hC : colsTo (stn (2 ^ (t + 1))) 32 = C at *
                have HC := Lib.hid hC
                clear hC
                generalize colsTo (stn (2 ^ t)) 32 = C0 at *
                go_wp2_with (first | (refine wpList_load_row rfl 44 _ rfl wo.heap.size rfl 44 C (0, 0) _ hgn mat_under rfl hi ?_) | (refine wpList_store_row rfl 44 _ _ rfl w.heap.size C rfl rfl 44 C0 hgo hi hold hone ?_))
                go_roundw
                case rel =>
                  refine ⟨t + 1, x, congrArg (Value.int .i64) ?_, rfl, by rw [hmodn.out, HQ.out, if_neg HO.out, HX.out]; rfl, by rw [HC.out]; exact HN.out, hb4⟩
                  rw [Nat.pow_succ, ← Nat.div_div_eq_div_mul, HQ.out]; omega
                case measure => simp [intOf]; omega
        · have hq0 : q = 0 := by omega
          subst hq0
          have hfin : 8 * n % 2 ^ t = 8 * n := by
            apply Nat.mod_eq_of_lt
            have := HQ.out
            rcases Nat.lt_or_ge (8 * n) (2 ^ t) with h | h
            · exact h
            · have := Nat.div_pos h (Nat.two_pow_pos t); omega
          have hj : x ^^^ b = joinS a b n := by
            unfold joinS; rw [HX.out, hfin]
          have HJ := Lib.hid hj
          have ex := bxor x b
          clear hj hfin hg2
          go_wp2_with fail
          go_ret
          exact ⟨by rw [← HJ.out, BitVec.toNat_xor]; rfl, hbel2⟩
theorem join_int (a b : BitVec 32) (N : Int) (w : World) (h0 : 0 ≤ N) (h1 : N ≤ 1048576) :
    Calls Try.prog 15 #[.int .u32 (a.toNat : Int), .int .u32 (b.toNat : Int), .int .i64 N] w (fun e w' => e = .returned (.int .u32 ((joinS a b N.toNat).toNat : Int)) ∧ Below w.heap.size w w') := by
  obtain ⟨n, rfl⟩ := Int.eq_ofNat_of_zero_le h0
  exact join_calls a b n w (by omega)
end Go.Proofs.Ytlgbdibfpboleaa
