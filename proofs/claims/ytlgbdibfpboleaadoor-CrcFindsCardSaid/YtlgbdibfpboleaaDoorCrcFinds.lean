/- CrcFinds returns true at every input. -/
import Derived.Test.YtlgbdibfpboleaaDoorCrcOpen
import Derived.Test.YtlgbdibfpboleaaDoorCrcFirst
import Derived.Test.YtlgbdibfpboleaaDoorRefBytes
import Derived.Test.YtlgbdibfpboleaaDoorVintInt
import Derived.Test.YtlgbdibfpboleaaDoorSameBytes
import Derived.Test.YtlgbdibfpboleaaDoorSee
import Derived.Test.YtlgbdibfpboleaaDoorStr
import Derived.Test.YtlgbdibfpboleaaDoorTouch
import Derived.Deep.DeepCutAuto
import Derived.Deep.CutBlock
import Derived.StillTailTactics
namespace Go.Proofs.YtlgbdibfpboleaaDoor
open Go Go.RowKit Crc Vint

theorem flip_byte (x : UInt8) (r : Nat) (hr : r < 8) : bits .xor .u8 (x.toNat : Int) ((2 : Int) ^ r % (256 : Int)) = (((x ^^^ (1 <<< UInt8.ofNat r)).toNat : Nat) : Int) := by
  have h1 : ((2 : Int) ^ r % (256 : Int)) = (((1 <<< UInt8.ofNat r : UInt8).toNat : Nat) : Int) := by
    have : ∀ r, r < 8 → ((2 : Int) ^ r % (256 : Int)) = (((1 <<< UInt8.ofNat r : UInt8).toNat : Nat) : Int) := by decide
    exact this r hr
  rw [h1, u8x]

theorem bit_at (x : BitVec 32) (i : Nat) : bits .and .u32 ((x.toNat : Int) / 2 ^ i) 1 = if x.getLsbD i then 1 else 0 := by
  have h0 : ((x.toNat : Int) / 2 ^ i) = (((x >>> i).toNat : Nat) : Int) := by
    rw [BitVec.toNat_ushiftRight, Nat.shiftRight_eq_div_pow]; push_cast; rfl
  have := band (x >>> i) 1#32
  rw [show (((1#32 : BitVec 32).toNat : Nat) : Int) = 1 by rfl] at this
  rw [h0, this]
  have e : (x >>> i &&& 1#32).toNat = (x >>> i).toNat % 2 := by
    rw [BitVec.toNat_and]
    show (x >>> i).toNat &&& 1 = _
    exact Nat.and_one_is_mod _
  have e2 : x.getLsbD i = (x >>> i).getLsbD 0 := by simp
  rw [e, e2, BitVec.getLsbD, Nat.testBit_zero]
  rcases Nat.mod_two_eq_zero_or_one (x >>> i).toNat with h | h
  · rw [h]; rfl
  · rw [h]; rfl

theorem mod_nat (n : Int) (m : Nat) (h : 0 < m) : ∃ k : Nat, n % (m : Int) = (k : Int) ∧ k < m := by
  have e1 := Int.emod_nonneg n (show (m : Int) ≠ 0 by omega)
  have e2 := Int.emod_lt_of_pos n (show (0 : Int) < (m : Int) by omega)
  exact ⟨(n % (m : Int)).toNat, by omega, by omega⟩

/-- Bits turned one behind the other. -/
def flips (s : List UInt8) (g : Nat → Nat) : Nat → List UInt8
  | 0 => s
  | i + 1 => flipped (flips s g i) (g i)
theorem flips_length (s : List UInt8) (g : Nat → Nat) (i : Nat) : (flips s g i).length = s.length := by
  induction i with
  | zero => rfl
  | succ i ih => rw [flips, flipped_length, ih]

set_option maxRecDepth 100000 in
set_option maxHeartbeats 2000000 in
theorem crcFinds_walk (S : List Nat) (A : Nat → Addr) (va : Value) (l : List UInt8) (at' : Int) (bs : BitVec 32) (p q r : Int) (w : World) (hS : Sents S w A) (hall : All S) (ha : Rd w 1 va l.length (bvs l)) :
    Calls Tryd.prog 6 #[va, .int .i64 at', .int .u32 (bs.toNat : Int), .int .i64 p, .int .i64 q, .int .i64 r] w (fun e w' => e = .returned (.bool true) ∧ Below w.heap.size w w') := by
  obtain ⟨a1, c1, rfl⟩ := ha.slice
  have m1 := ha.len_le
  by_cases t1 : 1000 < l.length
  · go_enter Tryd.func6, Tryd.ntmps6
    go_wp2_with fail
    refine (crcFirst_calls _).mono ?_
    rintro e w1 ⟨rfl, b1⟩
    go_wp2_with fail
    go_ret
    exact ⟨rfl, b1⟩
  · go_enter Tryd.func6, Tryd.ntmps6
    go_wp2_with fail
    refine (crcFirst_calls _).mono ?_
    rintro e w1 ⟨rfl, b1⟩
    go_wp2_with fail
    refine (seal_calls _ l _ (ha.below b1) (by omega)).mono ?_
    rintro e w2 ⟨v2, rfl, o2, b2⟩
    have hsl := sealed_len l
    have hkept := run_sealed l
    obtain ⟨s, hs⟩ : ∃ s, s = sealed l := ⟨_, rfl⟩
    rw [← hs] at o2 hsl hkept
    have HS := Lib.hid hs
    have hs4 : 4 ≤ s.length := by omega
    have hs5 : s.length ≤ 1004 := by omega
    clear hs hsl
    have r2 := Rd.of_owns o2
    obtain ⟨a2, c2, rfl⟩ := owns_slice o2
    have B2 := nxt b1 b2
    clear o2 b1 b2
    go_wp2_with fail
    refine (number_calls at' (8 * (s.length : Int)) _ (by omega) (by omega)).mono ?_
    rintro e w3 ⟨rfl, rfl⟩
    obtain ⟨k, hk, hk8⟩ : ∃ k : Nat, at' % (8 * (s.length : Int)) = (k : Int) ∧ k < 8 * s.length := by
      have e1 := Int.emod_nonneg at' (show 8 * (s.length : Int) ≠ 0 by omega)
      have e2 := Int.emod_lt_of_pos at' (show (0 : Int) < 8 * (s.length : Int) by omega)
      exact ⟨(at' % (8 * (s.length : Int))).toNat, by omega, by omega⟩
    rw [hk]
    clear hk
    go_wp2_with fail
    refine (refBytes_calls _ s _ r2 (by omega)).mono ?_
    rintro e w4 ⟨v4, rfl, o4, b4⟩
    obtain ⟨a4, c4, rfl⟩ := owns_slice o4
    obtain ⟨g4, rfl, hg4⟩ := owns_at o4 (by omega)
    go_upto_block 0 with fail
    go_cut [18] (fun _ wx => ∃ m : Nat, m ≤ 32 ∧ k + m ≤ 8 * s.length ∧ wx.ownsRow w2.heap.size 5 1 (.slice (some ⟨g4, 0, none⟩) s.length c4) s.length (bvs (burst s k bs m)) ∧ Below w2.heap.size w2 wx)
    case first =>
      go_wp2_with fail
      go_loopw [18] (fun iv wr => ∃ i : Nat, i ≤ 32 ∧ k + i ≤ 8 * s.length ∧ iv = .int .i64 i ∧ wr.ownsRow w2.heap.size 5 1 (.slice (some ⟨g4, 0, none⟩) s.length c4) s.length (bvs (burst s k bs i)) ∧ Below w2.heap.size w2 wr) (fun iv _ => 33 - (intOf iv).toNat)
      case atStart => exact ⟨0, by omega, by omega, rfl, o4, b4⟩
      case round =>
        obtain ⟨i, hi, hki, rfl, hown, hb⟩ := hrel
        by_cases hlt : i < 32 ∧ k + i < 8 * s.length
        · obtain ⟨h1, h2⟩ := hlt
          have hw := bit_at bs i
          by_cases hbit : bs.getLsbD i = true
          · rw [if_pos hbit] at hw
            have hB : burst s k bs (i + 1) = flipped (burst s k bs i) (k + i) := by
              show (if bs.getLsbD i then flipped (burst s k bs i) (k + i) else burst s k bs i) = _
              rw [if_pos hbit]
            have HB := Lib.hid hB
            clear hB
            have hj : (k + i) / 8 < s.length := by omega
            have f1 := World.ownsRow.cellAt hown ((k + i) / 8) (by simpa [bvs, burst_length] using hj)
            rw [bvs_at (burst s k bs i) ((k + i) / 8) (by rw [burst_length]; exact hj)] at f1
            have hfr := World.ownsRow.frozenAt hown ((k + i) / 8)
            have hjb : (k + i) / 8 < (burst s k bs i).length := by rw [burst_length]; exact hj
            have hfl : flipped (burst s k bs i) (k + i) = (burst s k bs i).set ((k + i) / 8) ((burst s k bs i)[(k + i) / 8] ^^^ (1 <<< UInt8.ofNat ((k + i) % 8))) := by
              unfold flipped
              rw [List.getD_eq_getElem?_getD, List.getElem?_eq_getElem hjb]
              rfl
            have hx := flip_byte ((burst s k bs i)[(k + i) / 8]) ((k + i) % 8) (by omega)
            have hst := (World.ownsRow.stored hown ((k + i) / 8) (.int .u8 ((((burst s k bs i)[(k + i) / 8] ^^^ (1 <<< UInt8.ofNat ((k + i) % 8))).toNat : Nat) : Int))).1
            rw [bvs_set, ← hfl, ← HB.out] at hst
            have hbs := hb.setCell (p := ⟨g4, (k + i) / 8, none⟩) hg4 (.int .u8 ((((burst s k bs i)[(k + i) / 8] ^^^ (1 <<< UInt8.ofNat ((k + i) % 8))).toNat : Nat) : Int))
            rw [← hx] at hst hbs
            have HT := Lib.hid hst
            have HS2 := Lib.hid hbs
            clear hst hbs hfl hx hbit
            generalize ((burst s k bs i)[(k + i) / 8]) = x at *
            go_wp2_with fail
            go_roundw
            case rel => exact ⟨i + 1, by omega, by omega, by go_num, HT.out, HS2.out⟩
            case measure => simp [intOf]; omega
          · rw [if_neg hbit] at hw
            have hB : burst s k bs (i + 1) = burst s k bs i := by
              show (if bs.getLsbD i then flipped (burst s k bs i) (k + i) else burst s k bs i) = _
              rw [if_neg hbit]
            have HB := Lib.hid hB
            clear hB hbit
            go_wp2_with fail
            go_roundw
            case rel => exact ⟨i + 1, by omega, by omega, by go_num, by rw [HB.out]; exact hown, hb⟩
            case measure => simp [intOf]; omega
        · by_cases h32 : i < 32
          · have h8 : ¬ k + i < 8 * s.length := fun e => hlt ⟨h32, e⟩
            clear hlt
            go_wp2_with fail
            go_meet
            exact ⟨i, hi, hki, hown, hb⟩
          · clear hlt
            go_wp2_with fail
            go_meet
            exact ⟨i, hi, hki, hown, hb⟩
    case rest =>
      obtain ⟨m, hm, hkm, hown, hb⟩ := hcut
      have hbt := burst_told s k bs (~~~ 0#32) m hm hkm
      have hbl := burst_length s k bs m
      generalize burst s k bs m = tl at *
      rw [hkept] at hbt
      have hr4 : Rd wc 1 (.slice (some ⟨g4, 0, none⟩) s.length c4) tl.length (bvs tl) := by rw [hbl]; exact Rd.of_owns hown
      have r2' := r2.below hb
      have B4 := nxt B2 hb
      have cv1 := txt_rd _ tl wc hr4
      have cv2 := txt_rd _ s wc r2'
      unfold txt at cv1 cv2
      have HBL := Lib.hid hbl
      have HBT := Lib.hid hbt
      clear hbl hbt hown o4 b4
      go_upto_if 85 with fail
      go_cut [20] (fun _ wx => Below w2.heap.size w2 wx)
      case first =>
        by_cases ht : tl = s
        · have ht2 : (!(tl == s)) = false := by simp [ht]
          clear ht
          rw [ht2]
          go_wp2_with fail
          go_meet
          exact hb
        · have ht2 : (!(tl == s)) = true := by simp [ht]
          have hop := openL_sum tl (by rw [HBL.out]; omega) (HBT.out ht)
          have HO := Lib.hid hop
          clear ht hop
          rw [ht2]
          go_wp2_with fail
          refine (open_calls S A (hall 0 (by omega)) (hall 1 (by omega)) _ tl _ (hS.below B4) hr4 (by rw [HBL.out]; omega)).mono ?_
          rw [HO.out]
          rintro e w8 ⟨b8, rfl⟩
          have B8 := nxt B4 b8
          go_wp2_with fail
          refine (is_calls (hS.below B8) hall _ (.bare 1) ⟨by omega, rfl⟩ _).mono ?_
          rintro e w9 ⟨rfl, b9⟩
          go_wp2_with fail
          go_meet
          exact nxt hb (nxt b8 b9)
      case rest =>
        have hb0 := hcut
        clear hcut hb hr4 r2' B4 cv1 cv2 HBL HBT
        have B4 := nxt B2 hb0
        have r3 := r2.below hb0
        have r3c := r3
        clear hb0 r2 B2
        have hkk := number_calls
        go_wp2_with fail
        refine (refBytes_calls _ s _ r3 (by omega)).mono ?_
        rintro e w5 ⟨v5, rfl, o5, b5⟩
        obtain ⟨a5, c5, rfl⟩ := owns_slice o5
        obtain ⟨g5, rfl, hg5⟩ := owns_at o5 (by omega)
        have B5 := nxt B4 b5
        replace r3 := r3.below b5
        obtain ⟨x0, hx0, lx0⟩ := mod_nat p (8 * s.length) (by omega)
        obtain ⟨x1, hx1, lx1⟩ := mod_nat q (8 * s.length) (by omega)
        obtain ⟨x2, hx2, lx2⟩ := mod_nat r (8 * s.length) (by omega)
        rw [Int.natCast_mul] at hx0 hx1 hx2
        have H0 := Lib.hid hx0
        have H1 := Lib.hid hx1
        have H2 := Lib.hid hx2
        clear hx0 hx1 hx2 hkk
        go_wp2_with fail
        refine (number_calls p (8 * (s.length : Int)) _ (by omega) (by omega)).mono ?_
        rintro e w6 ⟨rfl, rfl⟩
        rw [show p % (8 * (s.length : Int)) = (x0 : Int) from H0.out]
        go_wp2_with fail
        refine (number_calls q (8 * (s.length : Int)) _ (by omega) (by omega)).mono ?_
        rintro e w6 ⟨rfl, rfl⟩
        rw [show q % (8 * (s.length : Int)) = (x1 : Int) from H1.out]
        go_wp2_with fail
        refine (number_calls r (8 * (s.length : Int)) _ (by omega) (by omega)).mono ?_
        rintro e w6 ⟨rfl, rfl⟩
        rw [show r % (8 * (s.length : Int)) = (x2 : Int) from H2.out]
        obtain ⟨g, hg⟩ : ∃ g : Nat → Nat, g = fun i => [x0, x1, x2].getD i 0 := ⟨_, rfl⟩
        have hcs : ∀ W : World, W.heap[w5.heap.size]? = some (.cells #[.int .i64 (x0 : Int), .int .i64 (x1 : Int), .int .i64 (x2 : Int)] 3 (0, 0)) → ∀ i, i < 3 → W.cell? ⟨w5.heap.size, i, none⟩ = some (.int .i64 (g i : Int)) := by
          intro W hW i hi
          rw [cell_of_row W _ i _ _ _ hW, hg]
          rcases i with _ | _ | _ | i
          · rfl
          · rfl
          · rfl
          · omega
        have hgl : ∀ i, i < 3 → g i < 8 * s.length := by
          intro i hi
          rw [hg]
          rcases i with _ | _ | _ | i
          · exact lx0
          · exact lx1
          · exact lx2
          · omega
        have h3 := run_three s (g 0) (g 1) (g 2) (hgl 0 (by omega)) (hgl 1 (by omega)) (hgl 2 (by omega)) (~~~ 0#32)
        rw [hkept, show flipped (flipped (flipped s (g 0)) (g 1)) (g 2) = flips s g 3 from rfl] at h3
        have hne : flips s g 3 ≠ s := fun e => h3 (by rw [e]; exact hkept)
        have H3 := Lib.hid h3
        have HNE := Lib.hid hne
        have HCS := Lib.hid hcs
        have hsz6 : g5 < w5.heap.size := by
          rcases o5.2 with ⟨h, _⟩ | ⟨k, _, _, h, _, hk, _⟩
          · simp at h
          · simp only [Value.slice.injEq, Option.some.injEq, Addr.mk.injEq] at h
            rw [h.1.1]; exact (Array.getElem?_eq_some_iff.1 hk).1
        clear hg hcs h3 hne lx0 lx1 lx2 H0 H1 H2
        go_wp2_with fail
        go_loopw [23] (fun iv wr => ∃ i : Nat, i ≤ 3 ∧ iv = .int .i64 i ∧ wr.ownsRow wc.heap.size 5 1 (.slice (some ⟨g5, 0, none⟩) s.length c5) s.length (bvs (flips s g i)) ∧ wr.heap[w5.heap.size]? = some (.cells #[.int .i64 (x0 : Int), .int .i64 (x1 : Int), .int .i64 (x2 : Int)] 3 (0, 0)) ∧ Below wc.heap.size wc wr) (fun iv _ => 3 - (intOf iv).toNat)
        case atStart => exact ⟨0, by omega, rfl, owns_below o5 (below_alloc _ _), heap_alloc_new _ _, nxt b5 (below_alloc _ _)⟩
        case round =>
          obtain ⟨i, hi, rfl, hown, hrow, hb⟩ := hrel
          by_cases hlt : i < 3
          · have hc := HCS.out _ hrow i hlt
            have hgi := hgl i hlt
            have hnext : flips s g (i + 1) = flipped (flips s g i) (g i) := rfl
            have hlen := flips_length s g i
            generalize g i = y at *
            generalize flips s g i = z at *
            obtain ⟨j, hj⟩ : ∃ j, j = y / 8 := ⟨_, rfl⟩
            obtain ⟨b, hb8⟩ : ∃ b, b = y % 8 := ⟨_, rfl⟩
            have hq : (y : Int).tdiv 8 = (j : Int) := by rw [Int.tdiv_eq_ediv_of_nonneg (by omega)]; omega
            have hr : (y : Int).tmod 8 = (b : Int) := by rw [Int.tmod_eq_emod_of_nonneg (by omega)]; omega
            have hq2 : (y : Int) / 8 = (j : Int) := by omega
            have hr2 : (y : Int) % 8 = (b : Int) := by omega
            have hwj : IntKind.i64.wrap (j : Int) = (j : Int) := by rw [IntKind.wrap_i64]; omega
            have hwb : IntKind.i64.wrap (b : Int) = (b : Int) := by rw [IntKind.wrap_i64]; omega
            have hjs : j < s.length := by omega
            have hb7 : b < 8 := by omega
            have hmb : min b 8 = b := by omega
            have hjz : j < z.length := by rw [hlen]; exact hjs
            have hownd : wr.drew.ownsRow wc.heap.size 5 1 (.slice (some ⟨g5, 0, none⟩) s.length c5) s.length (bvs z) := hown
            have f1 := World.ownsRow.cellAt hown j (by simpa [bvs, hlen] using hjs)
            rw [bvs_at z j hjz] at f1
            have hfr := World.ownsRow.frozenAt hown j
            have hfl : flipped z y = z.set j (z[j] ^^^ (1 <<< UInt8.ofNat b)) := by
              unfold flipped
              rw [← hj, ← hb8, List.getD_eq_getElem?_getD, List.getElem?_eq_getElem hjz]
              rfl
            have hx := flip_byte z[j] b hb7
            have hst := (World.ownsRow.stored hownd j (.int .u8 (((z[j] ^^^ (1 <<< UInt8.ofNat b)).toNat : Nat) : Int))).1
            rw [bvs_set, ← hfl, ← hnext] at hst
            have hbs := (hb.drew).setCell (p := ⟨g5, j, none⟩) hg5 (.int .u8 (((z[j] ^^^ (1 <<< UInt8.ofNat b)).toNat : Nat) : Int))
            have hrow2 : (wr.drew.setCell ⟨g5, j, none⟩ (.int .u8 (((z[j] ^^^ (1 <<< UInt8.ofNat b)).toNat : Nat) : Int))).heap[w5.heap.size]? = some (.cells #[.int .i64 (x0 : Int), .int .i64 (x1 : Int), .int .i64 (x2 : Int)] 3 (0, 0)) :=
              (Touch.setCell wr.drew j _).heap hrow (by omega)
            rw [← hx] at hst hbs hrow2
            have HT := Lib.hid hst
            have HS2 := Lib.hid hbs
            have HR2 := Lib.hid hrow2
            clear hst hbs hfl hx hownd hrow hrow2 hj hb8 hnext hlen hown hb
            generalize z[j] = x at *
            go_wp2_with fail
            go_still_tail 17, (by kernel_rfl)
            change wpList _ _ _ _ _ wr.drew
            go_wp2_with fail
            exact ⟨⟨i + 1, by omega, by go_num, HT.out, HR2.out, HS2.out⟩, by simp [intOf]; omega⟩
          · obtain rfl : i = 3 := by omega
            have hlen := flips_length s g 3
            have h3 := H3.out
            have hne := HNE.out
            clear H3 HNE HCS hgl
            generalize flips s g 3 = z at *
            have hop := openL_sum z (by omega) h3
            have hop2 : openL s = .ok l := by rw [HS.out]; exact openL_sealed l
            have rz : Rd wr 1 (.slice (some ⟨g5, 0, none⟩) s.length c5) z.length (bvs z) := by rw [hlen]; exact Rd.of_owns hown
            have rs := r3c.below hb
            have B7 := nxt B4 hb
            have hzs : (z == s) = false := by simp [hne]
            have HZ := Lib.hid hlen
            have HO := Lib.hid hop
            have HO2 := Lib.hid hop2
            clear hlen h3 hne hop hop2 hown hrow hb r3c r3 hsz6 hkept
            have hz5 : z.length ≤ 1004 := by rw [HZ.out]; exact hs5
            go_wp2_with fail
            refine (open_calls S A (hall 0 (by omega)) (hall 1 (by omega)) _ z _ (hS.below B7) rz (by omega)).mono ?_
            rw [HO.out]
            rintro e w8 ⟨b8, rfl⟩
            have B8 := nxt B7 b8
            replace rz := rz.below b8
            replace rs := rs.below b8
            go_wp2_with fail
            refine (open_calls S A (hall 0 (by omega)) (hall 1 (by omega)) _ s _ (hS.below B8) rs (by omega)).mono ?_
            rw [HO2.out]
            rintro e w9 ⟨b9, v9, rfl, r9⟩
            have B9 := nxt B8 b9
            replace rz := rz.below b9
            replace rs := rs.below b9
            have cv1 := fun n => txt_rd _ z (w9.drewN n) (rz.below (below_drewN (Below.refl _ _) n))
            have cv2 := fun n => txt_rd _ s (w9.drewN n) (rs.below (below_drewN (Below.refl _ _) n))
            have hsb := fun n => sameBytes_calls _ _ _ _ (w9.drewN n) (r9.below (below_drewN (Below.refl _ _) n)) (ha.below (nxt B9 (below_drewN (Below.refl _ _) n)))
            rw [show (l == l) = true by simp] at hsb
            unfold txt at cv1 cv2
            unfold senV
            clear rz rs B8 B7 B4 B5
            go_wp2_with fail
            go_quiet ((go_at_call 22; exact Calls.quiet_of (hsb _)))
            go_wp2_with fail
            go_ret
            exact ⟨rfl, nxt B9 (below_drewN (Below.refl _ _) _)⟩
end Go.Proofs.YtlgbdibfpboleaaDoor
