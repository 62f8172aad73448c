/- However bytes are cut, one sum: CrcParts returns true at every input. -/
import Derived.Test.YtlgbdibfpboleaaCrcFirst
import Derived.Test.YtlgbdibfpboleaaRefBytes
import Derived.Test.YtlgbdibfpboleaaVintInt
namespace Go.Proofs.Ytlgbdibfpboleaa
open Go Go.RowKit Crc Vint

theorem info_bs : (Try.prog.info? 24).map (fun i => (i.zero, i.size, i.bytes)) = some (some (.slice none 0 0), 1, 24) := by kernel_rfl

set_option maxRecDepth 100000 in
set_option maxHeartbeats 2000000 in
theorem crcParts_main (va vb vc vz : Value) (la lb lc : List UInt8) (zs : List Int) (w : World) (ha : Rd w 1 va la.length (bvs la)) (hb : Rd w 1 vb la.length (bvs lb)) (hc : Rd w 1 vc la.length (bvs lc))
    (hz : Rd w 1 vz zs.length (zs.map (Value.int .i64))) (t1 : la.length ≤ 300) (t4 : zs.length ≤ 20) :
    Calls Try.prog 4 #[va, vb, vc, vz] w (fun e w' => e = .returned (.bool true) ∧ Below w.heap.size w w') := by
  obtain ⟨i0, hi, hz0, hz1, hz2⟩ := info_parts info_bs
  obtain ⟨a1, c1, rfl⟩ := ha.slice
  obtain ⟨a2, c2, rfl⟩ := hb.slice
  obtain ⟨a3, c3, rfl⟩ := hc.slice
  obtain ⟨a4, c4, rfl⟩ := hz.slice
  go_enter Try.func4, Try.ntmps4
  go_wp2_with fail
  refine (crcFirst_calls _).mono ?_
  rintro e w1 ⟨rfl, b1⟩
  go_wp2_with fail
  go_loopw [10, 11, 12] (fun pv av iv wr => ∃ (k n : Nat) (vs : List Value) (ls : List (List UInt8)), k ≤ zs.length ∧ iv = .int .i64 k ∧ n ≤ la.length ∧ av = .int .i64 n ∧ wr.ownsRow w.heap.size 24 1 pv k vs ∧ Parts w vs ls ∧ ls.flatten = la.take n ∧ Below w.heap.size w wr) (fun _ _ iv _ => zs.length - (intOf iv).toNat)
  case atStart => exact ⟨0, 0, [], [], Nat.zero_le _, rfl, Nat.zero_le _, rfl, World.ownsRow_nil _ _ _ _, ⟨rfl, by simp⟩, rfl, b1⟩
  case round =>
    obtain ⟨k, n, vs, ls, hk, rfl, hn, rfl, hown, hp, hfl, hbel⟩ := hrel
    have HF := Lib.hid hfl
    clear hfl
    by_cases hlt : k < zs.length
    · obtain ⟨b, o, rfl, hc1, hm1, hx1⟩ := (hz.below hbel).at (by omega)
      have g1 := hx1 k (.int .i64 zs[k]) (by simp [hlt])
      clear hx1 hc1 hm1
      generalize zs[k] = z at *
      go_wp2_with fail
      refine (number_calls z 40 _ (by omega) (by omega)).mono ?_
      rintro e w2 ⟨rfl, rfl⟩
      have ez1 := Int.emod_nonneg z (show (40 : Int) ≠ 0 by omega)
      have ez2 := Int.emod_lt_of_pos z (show (0 : Int) < 40 by omega)
      obtain ⟨q, hq⟩ : ∃ q : Nat, z % 40 = (q : Int) := ⟨(z % 40).toNat, by omega⟩
      rw [hq] at ez1 ez2 ⊢
      clear hq
      by_cases hmin : n + q < la.length
      · go_wp2_with (refine wpList_slice_lh rfl 24 _ _ _ rfl sl_u8 1 sz_u8 _ la.length _ rfl _ _ _ _ rfl rfl n (n + q) rfl (by omega) ha.cap (by omega) (by omega) ?_)
        intro a5 c5 r5
        go_wp2_with (at_builtin; refine wpList_append_own _ rfl _ _ 31 rfl w.heap.size 24 i0 (.slice none 0 0) 1 24 Try.underlying31 hi hz0 hz1 hz2 rfl (by decide) _ _ _ rfl (hown.alloc _) ⟨wr.heap.size, 0, none⟩ 1 1 [.slice a5 q c5] rfl rfl ?c1 ?c2 ?c3 ?c4 ?c5 ?_)
        case c1 => exact cell_one_new _ _ _
        case c2 => intro u hu; simp at hu; subst hu; rfl
        case c3 => unfold maxLen; omega
        case c4 => omega
        case c5 => have := hbel.size; simp; omega
        intro v' w' hown' hgrow _
        have hb' : Below w.heap.size w w' := (hbel.alloc hbel.size _).grown hgrow (by have := hbel.size; simp; omega) (fun j hj => (hown.lt j hj).1)
        have hfl' : (ls ++ [(la.drop n).take (q)]).flatten = la.take (n + q) := by
          rw [List.flatten_append, HF.out]; simp; have := take_drop_take la n (n + q) (by omega) (by omega); rwa [Nat.add_sub_cancel_left] at this
        have hp' : Parts w (vs ++ [.slice a5 (q) c5]) (ls ++ [(la.drop n).take (q)]) := hp.snoc (by have := r5 _ _ ha; rw [show ((la.drop n).take q).length = q by simp; omega, bvs_part]; exact this)
        clear hgrow r5
        go_wp2_with fail
        exact ⟨⟨k + 1, n + q, _, _, by omega, by go_num, by omega, by go_num, hown', hp', hfl', hb'⟩, by simp [intOf]; omega⟩
      · go_wp2_with (refine wpList_slice_lh rfl 24 _ _ _ rfl sl_u8 1 sz_u8 _ la.length _ rfl _ _ _ _ rfl rfl n (la.length) rfl (by omega) ha.cap (by omega) (by omega) ?_)
        intro a5 c5 r5
        go_wp2_with (at_builtin; refine wpList_append_own _ rfl _ _ 31 rfl w.heap.size 24 i0 (.slice none 0 0) 1 24 Try.underlying31 hi hz0 hz1 hz2 rfl (by decide) _ _ _ rfl (hown.alloc _) ⟨wr.heap.size, 0, none⟩ 1 1 [.slice a5 (la.length - n) c5] rfl rfl ?c1 ?c2 ?c3 ?c4 ?c5 ?_)
        case c1 => exact cell_one_new _ _ _
        case c2 => intro u hu; simp at hu; subst hu; rfl
        case c3 => unfold maxLen; omega
        case c4 => omega
        case c5 => have := hbel.size; simp; omega
        intro v' w' hown' hgrow _
        have hb' : Below w.heap.size w w' := (hbel.alloc hbel.size _).grown hgrow (by have := hbel.size; simp; omega) (fun j hj => (hown.lt j hj).1)
        have hfl' : (ls ++ [(la.drop n).take (la.length - n)]).flatten = la.take (la.length) := by
          rw [List.flatten_append, HF.out]; simp; have := take_drop_take la n la.length (by omega) (by omega); rwa [List.take_of_length_le (Nat.le_refl _)] at this
        have hp' : Parts w (vs ++ [.slice a5 (la.length - n) c5]) (ls ++ [(la.drop n).take (la.length - n)]) := hp.snoc (by have := r5 _ _ ha; rw [show ((la.drop n).take (la.length - n)).length = la.length - n by simp, bvs_part]; exact this)
        clear hgrow r5
        go_wp2_with fail
        exact ⟨⟨k + 1, la.length, _, _, by omega, by go_num, by omega, by go_num, hown', hp', hfl', hb'⟩, by simp [intOf]; omega⟩
    · have hkz : k = zs.length := by omega
      subst hkz
      clear hlt hk hz
      go_wp2_with (refine wpList_slice_l rfl 24 _ _ rfl sl_u8 1 sz_u8 _ la.length _ rfl _ _ rfl n rfl (by omega) ?_)
      intro a5 c5 r5
      go_wp2_with (at_builtin; refine wpList_append_own _ rfl _ _ 31 rfl w.heap.size 24 i0 (.slice none 0 0) 1 24 Try.underlying31 hi hz0 hz1 hz2 rfl (by decide) _ _ _ rfl (hown.alloc _) ⟨wr.heap.size, 0, none⟩ 1 1 [.slice a5 (la.length - n) c5] rfl rfl ?c1 ?c2 ?c3 ?c4 ?c5 ?_)
      case c1 => exact cell_one_new _ _ _
      case c2 => intro u hu; simp at hu; subst hu; rfl
      case c3 => unfold maxLen; omega
      case c4 => omega
      case c5 => have := hbel.size; simp; omega
      intro v' w' hown' hgrow _
      have hb' : Below w.heap.size w w' := (hbel.alloc hbel.size _).grown hgrow (by have := hbel.size; simp; omega) (fun j hj => (hown.lt j hj).1)
      have hfl' : (ls ++ [la.drop n]).flatten = la := by rw [List.flatten_append, HF.out]; simp
      have hp' : Parts w (vs ++ [.slice a5 (la.length - n) c5]) (ls ++ [la.drop n]) := hp.snoc (by have := r5 _ _ ha; rw [show (la.drop n).length = la.length - n by simp, bvs_drop]; exact this)
      have HF' := Lib.hid hfl'
      clear hgrow r5 hown hfl' hbel hp HF
      generalize vs ++ [.slice a5 (la.length - n) c5] = ws at *
      generalize ls ++ [la.drop n] = ms at *
      go_wp2_with fail
      refine (refBytes_calls _ la _ (ha.below hb') (by omega)).mono ?_
      rintro e w2 ⟨v2, rfl, ho2, hb2⟩
      obtain ⟨a6, c6, rfl⟩ := owns_slice ho2
      go_wp2_with fail
      go_loopw [15] (fun iv wr => ∃ k : Nat, k ≤ la.length ∧ iv = .int .i64 k ∧ wr.ownsRow w'.heap.size 5 1 (.slice a6 la.length c6) la.length (bvs ((xorl (xorl la lb) lc).take k ++ la.drop k)) ∧ Below w'.heap.size w' wr) (fun iv _ => la.length - (intOf iv).toNat)
      case atStart => exact ⟨0, Nat.zero_le _, rfl, by simpa using ho2, hb2⟩
      case round =>
        obtain ⟨k, hk, rfl, hown2, hbel2⟩ := hrel
        have hlb : lb.length = la.length := by have := hb.1; simpa using this
        have hlc : lc.length = la.length := by have := hc.1; simpa using this
        by_cases hlt : k < la.length
        · have kb : k < lb.length := by omega
          have kc : k < lc.length := by omega
          obtain ⟨g, rfl, hg⟩ := owns_at hown2 (by omega)
          have hbw : Below w.heap.size w wr := hb'.trans (hbel2.mono hb'.size)
          obtain ⟨b2, o2, rfl, _, _, hx2⟩ := (hb.below hbw).at (by omega)
          obtain ⟨b3, o3, rfl, _, _, hx3⟩ := (hc.below hbw).at (by omega)
          have g2 := hx2 k _ (bvs_at lb k kb)
          have g3 := hx3 k _ (bvs_at lc k kc)
          have g1 := World.ownsRow.cellAt hown2 k (by omega)
          have hfr := World.ownsRow.frozenAt hown2 k
          have hM : ((xorl (xorl la lb) lc).take k ++ la.drop k)[k]? = some la[k] := by
            have hkl : ((xorl (xorl la lb) lc).take k).length = k := by simp [xorl]; omega
            rw [List.getElem?_append_right (by omega), hkl, Nat.sub_self, List.getElem?_drop, Nat.add_zero, List.getElem?_eq_getElem hlt]
          have hMb : (bvs ((xorl (xorl la lb) lc).take k ++ la.drop k))[k]? = some (.int .u8 ((la[k].toNat : Nat) : Int)) := by
            rw [bvs, List.getElem?_map, hM]; rfl
          rw [hMb] at g1
          have hst := (World.ownsRow.stored hown2 k (.int .u8 (((la[k] ^^^ lb[k] ^^^ lc[k]).toNat : Nat) : Int))).1
          have hset : ((xorl (xorl la lb) lc).take k ++ la.drop k).set k (la[k] ^^^ lb[k] ^^^ lc[k]) = (xorl (xorl la lb) lc).take (k + 1) ++ la.drop (k + 1) := by
            have hkl : ((xorl (xorl la lb) lc).take k).length = k := by simp [xorl]; omega
            rw [List.set_append_right _ _ (by omega), hkl, Nat.sub_self, List.take_succ_eq_append_getElem (by simp [xorl]; omega)]
            rw [List.drop_eq_getElem_cons hlt, List.set_cons_zero]
            simp [xorl]
          rw [bvs_set, hset] at hst
          have hbst := hbel2.setCell (p := ⟨g, k, none⟩) hg (.int .u8 (((la[k] ^^^ lb[k] ^^^ lc[k]).toNat : Nat) : Int))
          have e1 := u8x la[k] lb[k]
          have e2 := u8x (la[k] ^^^ lb[k]) lc[k]
          clear hx2 hx3 hM hMb hset hown2 hbel2 hlb hlc
          generalize la[k] = x at *
          generalize lb[k] = y at *
          generalize lc[k] = z at *
          clear kb kc
          go_wp2_with fail
          go_region
          go_wp2_with fail
          have eV : bits .xor .u8 (((x.toNat ^^^ y.toNat : Nat) : Int)) ((z.toNat : Nat) : Int) = (((x ^^^ y ^^^ z).toNat : Nat) : Int) := by
            rw [← UInt8.toNat_xor, e2]
          rw [eV]
          exact ⟨⟨k + 1, by omega, by go_num, hst.drew, hbst.drew⟩, by simp [intOf]; omega⟩
        · have hkl : k = la.length := by omega
          subst hkl
          have hx3 := Lib.hid (sum_xor3 la lb lc hlb hlc)
          have hxl : (xorl (xorl la lb) lc).length = la.length := by simp [xorl]; omega
          have hmix : (xorl (xorl la lb) lc).take la.length ++ la.drop la.length = xorl (xorl la lb) lc := by
            rw [List.take_of_length_le (by omega)]; simp
          rw [hmix] at hown2
          have hbw : Below w.heap.size w wr := hb'.trans (hbel2.mono hb'.size)
          have r2 := Rd.of_owns hown2
          have rp := (Rd.of_owns (owns_below hown' hbel2))
          have hwl : ws.length = zs.length + 1 := by have := hown'.1; omega
          clear hmix hb2 hown' hown2 hlt hk ho2
          generalize xorl (xorl la lb) lc = X at *
          have ex : bits .xor .u32 (bits .xor .u32 ((sum la).toNat : Int) ((sum lb).toNat : Int)) ((sum lc).toNat : Int) = ((sum X).toNat : Int) := by
            rw [bxor, bxor, hx3.out]
          have EX := Lib.hid ex
          clear ex hx3
          rw [← hwl] at rp
          go_wp2_with fail
          refine (of_calls v' ws ms _ rp (hp'.below hbw)).mono ?_
          rintro e w4 ⟨rfl, hb4⟩
          rw [HF'.out]
          have hbw4 := nxt hbw hb4
          have r4 := (r2.below hb4)
          clear rp hb4 hbw r2 hp' HF' hbel2 hb' hwl
          go_wp2_with fail
          refine (of_one _ _ la w4 (ha.below hbw4)).mono ?_
          rintro e w5 ⟨rfl, hb5⟩
          have hbw5 := nxt hbw4 hb5
          have r5 := r4.below hb5
          clear r4 hb5 hbw4
          go_wp2_with fail
          refine (of_one _ _ X w5 r5).mono ?_
          rintro e w6 ⟨rfl, hb6⟩
          have hbw6 := nxt hbw5 hb6
          clear r5 hb6 hbw5
          go_wp2_with fail
          refine (of_one _ _ la w6 (ha.below hbw6)).mono ?_
          rintro e w7 ⟨rfl, hb7⟩
          have hbw7 := nxt hbw6 hb7
          clear hb7 hbw6
          go_wp2_with fail
          refine (of_one _ _ lb w7 (hb.below hbw7)).mono ?_
          rintro e w8 ⟨rfl, hb8⟩
          have hbw8 := nxt hbw7 hb8
          clear hb8 hbw7
          go_wp2_with fail
          refine (of_one _ _ lc w8 (hc.below hbw8)).mono ?_
          rintro e w9 ⟨rfl, hb9⟩
          have hbw9 := nxt hbw8 hb9
          clear hb9 hbw8
          have ex := EX.out
          go_wp2_with fail
          go_ret
          exact ⟨rfl, hbw9⟩

set_option maxRecDepth 100000 in
set_option maxHeartbeats 2000000 in
theorem crcParts_walk (va vb vc vz : Value) (la lb lc : List UInt8) (zs : List Int) (w : World) (ha : Rd w 1 va la.length (bvs la)) (hb : Rd w 1 vb lb.length (bvs lb)) (hc : Rd w 1 vc lc.length (bvs lc))
    (hz : Rd w 1 vz zs.length (zs.map (Value.int .i64))) :
    Calls Try.prog 4 #[va, vb, vc, vz] w (fun e w' => e = .returned (.bool true) ∧ Below w.heap.size w w') := by
  obtain ⟨a1, c1, rfl⟩ := ha.slice
  obtain ⟨a2, c2, rfl⟩ := hb.slice
  obtain ⟨a3, c3, rfl⟩ := hc.slice
  obtain ⟨a4, c4, rfl⟩ := hz.slice
  have m1 := ha.len_le
  have m2 := hb.len_le
  have m3 := hc.len_le
  have m4 := hz.len_le
  by_cases t1 : 300 < la.length
  · go_enter Try.func4, Try.ntmps4
    go_wp2_with fail
    refine (crcFirst_calls _).mono ?_
    rintro e w1 ⟨rfl, b1⟩
    go_wp2_with fail
    go_ret
    exact ⟨rfl, b1⟩
  · by_cases t2 : lb.length = la.length
    · by_cases t3 : lc.length = la.length
      · by_cases t4 : 20 < zs.length
        · have n2 : ((lb.length : Int) != (la.length : Int)) = false := by rw [t2]; simp
          have n3 : ((lc.length : Int) != (la.length : Int)) = false := by rw [t3]; simp
          clear t2 t3
          go_enter Try.func4, Try.ntmps4
          go_wp2_with fail
          refine (crcFirst_calls _).mono ?_
          rintro e w1 ⟨rfl, b1⟩
          go_wp2_with fail
          go_ret
          exact ⟨rfl, b1⟩
        · exact crcParts_main _ _ _ _ la lb lc zs w ha (t2 ▸ hb) (t3 ▸ hc) hz (by omega) (by omega)
      · have n2 : ((lb.length : Int) != (la.length : Int)) = false := by rw [t2]; simp
        have n3 : ((lc.length : Int) != (la.length : Int)) = true := by rw [bne_iff_ne]; omega
        clear t2 t3
        go_enter Try.func4, Try.ntmps4
        go_wp2_with fail
        refine (crcFirst_calls _).mono ?_
        rintro e w1 ⟨rfl, b1⟩
        go_wp2_with fail
        go_ret
        exact ⟨rfl, b1⟩
    · have n2 : ((lb.length : Int) != (la.length : Int)) = true := by rw [bne_iff_ne]; omega
      clear t2
      go_enter Try.func4, Try.ntmps4
      go_wp2_with fail
      refine (crcFirst_calls _).mono ?_
      rintro e w1 ⟨rfl, b1⟩
      go_wp2_with fail
      go_ret
      exact ⟨rfl, b1⟩
end Go.Proofs.Ytlgbdibfpboleaa
