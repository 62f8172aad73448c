/- EpochCuts returns true at every input. -/
import Derived.Test.YtjhebnjajnjhhaaDoorEpoCutStart
import Derived.Test.YtjhebnjajnjhhaaDoorEpoClone
import Derived.Test.YtjhebnjajnjhhaaDoorEpoEnd
import Derived.Test.YtjhebnjajnjhhaaDoorSamePairs
import Derived.Test.YtjhebnjajnjhhaaDoorLong
import Derived.Test.YtjhebnjajnjhhaaDoorOrd
import Derived.Deep.DeepCutAuto
import Derived.Deep.CutBlock
namespace Go.Proofs.YtjhebnjajnjhhaaDoor
open Go Go.RowKit Epo

theorem LineAt.old {w : World} {F : Nat → Prop} {g : Nat} {l : List Pr} (h : LineAt w F g l) : ∀ k, F k → k < w.heap.size := by obtain ⟨_, h⟩ := h; exact h.old
/-- Another one's blocks have turned. -/
theorem LineAt.frame {w w1 : World} {F G : Nat → Prop} {g : Nat} {l : List Pr} (h : LineAt w F g l) (f : Frame G w w1) (hd : ∀ k, F k → ¬ G k) : LineAt w1 F g l := by
  obtain ⟨v, h⟩ := h
  exact ⟨v, h.mine, fun k hk => Nat.lt_of_lt_of_le (h.old k hk) f.size, f.heap h.row (hd g h.mine), f.owns h.pairs (fun k hk => hd k (h.inP k hk)), h.inP⟩

theorem at_says {l : List Pr} {o x : Int} {b : Bool} (h : AtSays l o x b) : x = atX l o ∧ b = atB l o := by
  unfold AtSays at h
  unfold atX atB
  rcases atO_at l o with ⟨h1, h2⟩ | ⟨k, hk, h1, h2⟩
  · rw [h2]
    rcases h with ⟨_, rfl, rfl⟩ | ⟨k', hk', h3, _⟩
    · exact ⟨rfl, rfl⟩
    · omega
  · rw [h2]
    rcases h with ⟨h3, _⟩ | ⟨k', hk', h3, rfl, rfl⟩
    · omega
    · obtain rfl : k = k' := by omega
      exact ⟨rfl, rfl⟩

theorem line_at {w : World} {F : Nat → Prop} {g : Nat} {l : List Pr} (h : LineAt w F g l) (n : Int) :
    Calls Tryd.prog 29 #[.pointer (some ⟨g, 0, none⟩), .int .i64 n] w (fun e w' => e = .returned (.tuple #[.int .i64 (atX l n), .bool (atB l n)]) ∧ Below w.heap.size w w') := by
  refine (at_calls h n).mono ?_
  rintro e w' ⟨x, b, rfl, hs, hb⟩
  obtain ⟨rfl, rfl⟩ := at_says hs
  exact ⟨rfl, hb⟩

set_option maxRecDepth 100000 in
set_option maxHeartbeats 3000000 in
theorem epochCuts_walk (S : List Nat) (A : Nat → Addr) (l : List Pr) (v : Value) (za zo : Int) (w : World) (hS : Sents S w A) (h2 : 2 ∈ S) (h3 : 3 ∈ S) (h4 : 4 ∈ S) (hp : Rd w 2 v l.length (l.flatMap prV)) :
    Calls Tryd.prog 7 #[v, .int .i64 za, .int .i64 zo] w (fun e w' => e = .returned (.bool true) ∧ Below w.heap.size w w') := by
  obtain ⟨a1, c1, rfl⟩ := hp.slice
  have m1 := hp.len_le
  have hfst := epoFirst_calls S A w hS h2 h3 h4
  go_enter Tryd.func7, Tryd.ntmps7
  go_wp2_with fail
  refine hfst.mono ?_
  rintro e w1 ⟨rfl, b1⟩
  have hn := new_calls S A (hS.below b1) h2 h3 h4 (hp.below b1)
  clear hfst
  go_wp2_with fail
  refine hn.mono ?_
  rintro e w2 ⟨hv, b2⟩
  have B2 := nxt b1 b2
  clear hn b2
  unfold senV at hv
  rcases hv with ⟨hv, F, g, rfl, hl, hF⟩ | ⟨hv, rfl⟩
  · obtain ⟨hv1, hv2, hup⟩ := (valid_iff l).1 hv
    have HUP := Lib.hid hup
    clear hv hv2 hup
    by_cases t1 : 20 < l.length
    · go_wp2_with fail
      go_ret
      exact ⟨rfl, B2⟩
    · have t1' : decide ((20 : Int) < (l.length : Int)) = false := decide_eq_false (by omega)
      go_wp2_with fail
      refine (long_calls za 549755813888 _ (by omega) (by omega)).mono ?_
      rintro e wx ⟨rfl, rfl⟩
      obtain ⟨a, ha, ha0, ha1⟩ : ∃ a, a = za % 549755813888 ∧ 0 ≤ a ∧ a < 549755813888 := ⟨_, rfl, by omega, by omega⟩
      rw [← ha]
      clear ha
      go_wp2_with fail
      refine (long_calls zo 549755813888 _ (by omega) (by omega)).mono ?_
      rintro e wx ⟨rfl, rfl⟩
      obtain ⟨o, ho, ho0, ho1⟩ : ∃ o, o = zo % 549755813888 ∧ 0 ≤ o ∧ o < 549755813888 := ⟨_, rfl, by omega, by omega⟩
      rw [← ho]
      clear ho
      go_wp2_with fail
      refine (line_at hl o).mono ?_
      rintro e w3 ⟨rfl, b3⟩
      have B3 := nxt B2 b3
      have l3 := hl.below b3
      go_wp2_with fail
      refine (lclone_calls l3 (by omega)).mono ?_
      rintro e w4 h4'
      unfold ClonePost at h4'
      obtain ⟨⟨Fa, ga, rfl, la4, hFa⟩, b4⟩ := h4'
      have B4 := nxt B3 b4
      have l4 := l3.below b4
      have F4 := hl.below (nxt b3 b4)
      have hdis : ∀ k, F k → k < w3.heap.size := fun k hk => l3.old k hk
      go_wp2_with fail
      refine (cutEnd_calls la4 HUP.out a).mono ?_
      rintro e w5 h5
      unfold CutPost at h5
      obtain ⟨rfl, Fa', la5, hFa', f5⟩ := h5
      have hFaw : ∀ k, Fa k → w.heap.size ≤ k := fun k hk => Nat.le_trans B3.size (hFa k hk)
      have B5 : Below w.heap.size w w5 := f5.below B4 hFaw B4.size
      have l5 := l4.frame f5 (fun k hk hg => by have := hdis k hk; have := hFa k hg; omega)
      have hFa5 : ∀ k, Fa' k → w3.heap.size ≤ k := fun k hk => by
        rcases hFa' k hk with h | h
        · exact hFa k h
        · exact Nat.le_trans b4.size h
      clear la4 l4 F4 l3
      go_wp2_with fail
      refine (lclone_calls l5 (by omega)).mono ?_
      rintro e w6 h6
      unfold ClonePost at h6
      obtain ⟨⟨Fb, gb, rfl, lb6, hFb⟩, b6⟩ := h6
      have B6 := nxt B5 b6
      have l6 := l5.below b6
      have la6 := la5.below b6
      have hla5 := la5.old
      go_wp2_with fail
      refine (cutStart_calls lb6 (by omega) a).mono ?_
      rintro e w7 h7
      unfold CutPost at h7
      obtain ⟨rfl, Fb', lb7, hFb', f7⟩ := h7
      have hFbw : ∀ k, Fb k → w.heap.size ≤ k := fun k hk => Nat.le_trans B5.size (hFb k hk)
      have B7 : Below w.heap.size w w7 := f7.below B6 hFbw B6.size
      have l7 := l6.frame f7 (fun k hk hg => by have := l5.old k hk; have := hFb k hg; omega)
      have la7 := la6.frame f7 (fun k hk hg => by have := hla5 k hk; have := hFb k hg; omega)
      clear l5 l6 la5 la6 lb6 hla5 f5 f7 hFb' hFa'
      have le1 := cutE_len a l
      have ls1 := cutS_len a l
      have hE := fun (h : o < a) => atO_cutE h l
      have hSx := fun (h : a ≤ o) => atO_cutS h l
      have hSn := cutS_nil a l
      have hEm : ∀ p ∈ cutE a l, p.st < a := fun p hp => cutE_mem hp
      generalize cutE a l = le at *
      generalize cutS a l = ls at *
      go_wp2_with fail
      refine (line_at la7 o).mono ?_
      rintro e w8 ⟨rfl, b8⟩
      go_wp2_with fail
      refine (line_at (lb7.below b8) o).mono ?_
      rintro e w9 ⟨rfl, b9⟩
      have b79 := nxt b8 b9
      have B9 := nxt B7 b79
      have la9 := la7.below b79
      have lb9 := lb7.below b79
      have l9 := l7.below b79
      have hatE : o < a → atX le o = atX l o ∧ atB le o = atB l o := fun h => by unfold atX atB; rw [hE h]; exact ⟨rfl, rfl⟩
      have hatS : a ≤ o → atX ls o = atX l o ∧ atB ls o = atB l o := fun h => by unfold atX atB; rw [hSx h]; exact ⟨rfl, rfl⟩
      have hbb : ∀ b : Bool, (b != b) = false := fun b => by cases b <;> rfl
      have hii : ∀ b : Int, (b != b) = false := fun b => by simp
      have hb1 := hbb (atB l o)
      have hi1 := hii (atX l o)
      clear hE hSx la7 lb7 l7 hbb hii
      obtain ⟨x1, hx1⟩ : ∃ x, x = atX le o := ⟨_, rfl⟩
      obtain ⟨x2, hx2⟩ : ∃ x, x = atB le o := ⟨_, rfl⟩
      obtain ⟨x3, hx3⟩ : ∃ x, x = atX ls o := ⟨_, rfl⟩
      obtain ⟨x4, hx4⟩ : ∃ x, x = atB ls o := ⟨_, rfl⟩
      rw [← hx1, ← hx2] at hatE
      rw [← hx3, ← hx4] at hatS
      rw [← hx1, ← hx2, ← hx3, ← hx4]
      generalize atX l o = x5 at *
      generalize atB l o = x6 at *
      have HAE := Lib.hid hatE
      have HAS := Lib.hid hatS
      clear hx1 hx2 hx3 hx4 hatE hatS
      go_upto_region 16 with fail
      go_cut [84] (fun x wx => x = .bool false ∧ wx = w9)
      case first =>
        by_cases hlt : o < a
        · obtain ⟨rfl, rfl⟩ := HAE.out hlt
          go_wp2_with fail
          go_meet
          exact ⟨rfl, rfl⟩
        · have hd : decide (o < a) = false := decide_eq_false hlt
          go_wp2_with fail
          go_meet
          exact ⟨rfl, rfl⟩
      case rest =>
      obtain ⟨rfl, rfl⟩ := hcut
      go_upto_region 18 with fail
      go_cut [97] (fun x wx => x = .bool false ∧ wx = wc)
      case first =>
        by_cases hlt : o < a
        · have hd : decide (a ≤ o) = false := decide_eq_false (by omega)
          go_wp2_with fail
          go_meet
          exact ⟨rfl, rfl⟩
        · have hge : a ≤ o := by omega
          obtain ⟨rfl, rfl⟩ := HAS.out hge
          have hd : decide (a ≤ o) = true := decide_eq_true hge
          go_wp2_with fail
          go_meet
          exact ⟨rfl, rfl⟩
      case rest =>
      obtain ⟨rfl, rfl⟩ := hcut
      go_wp2_with fail
      refine (pairs_calls la9 (by omega)).mono ?_
      rintro e w10 ⟨v10, rfl, o10, b10⟩
      have r10 := Rd.of_owns o10
      obtain ⟨a10, c10, rfl⟩ := owns_slice o10
      have m10 := r10.len_le
      have B10 := nxt B9 b10
      have lb10 := lb9.below b10
      have l10 := l9.below b10
      go_upto_region 21 with fail
      go_cut [113] (fun x wx => x = .bool false ∧ wx = w10)
      case first =>
        rcases Nat.eq_zero_or_pos le.length with h0 | h0
        · have hd : decide (0 < le.length) = false := decide_eq_false (by omega)
          clear h0
          go_wp2_with fail
          go_meet
          exact ⟨rfl, rfl⟩
        · obtain ⟨k, hk⟩ : ∃ k, le.length = k + 1 := ⟨le.length - 1, by omega⟩
          obtain ⟨b, of, rfl, _, _, hx⟩ := r10.at h0
          obtain ⟨q0, q1⟩ := pr_cells hx k (by omega)
          have hm := hEm le[k] (List.getElem_mem _)
          generalize le[k] = y at *
          have hs1 : IntKind.i64.wrap ((le.length : Int) - 1) = (k : Int) := by rw [IntKind.wrap_i64]; omega
          have hd0 : decide (0 < le.length) = true := decide_eq_true (by omega)
          have hd : decide (a ≤ y.st) = false := decide_eq_false (by omega)
          have hkl : k < le.length := by omega
          clear hx hk
          go_wp2_with fail
          go_meet
          exact ⟨rfl, rfl⟩
      case rest =>
        obtain ⟨rfl, rfl⟩ := hcut
        go_wp2_with fail
        refine (pairs_calls lb10 (by omega)).mono ?_
        rintro e w11 ⟨v11, rfl, o11, b11⟩
        have r11 := Rd.of_owns o11
        obtain ⟨a11, c11, rfl⟩ := owns_slice o11
        have B11 := nxt B10 b11
        have l11 := l10.below b11
        have hpc := pairs_calls (l11.below (Below.refl _ _).drew) (by omega)
        have B12 : Below w.heap.size w w11.drew := B11.drew
        have hp12 := hp.below B12
        have hfin : ∀ wz v, Below w11.drew.heap.size w11.drew wz → wz.ownsRow w11.drew.heap.size 50 2 v l.length (l.flatMap prV) → Calls Tryd.prog 34 #[v, .slice a1 l.length c1] wz (fun e w' => e = .returned (.bool true) ∧ Below w11.drew.heap.size w11.drew w') := fun wz v hb ho => by
          have hsp := samePairs_calls v (.slice a1 l.length c1) l l wz (Rd.of_owns ho) (hp12.below hb)
          rw [decide_eq_true rfl] at hsp
          exact hsp.mono fun e w' ⟨he, hb'⟩ => ⟨he, nxt hb hb'⟩
        have HFIN := Lib.hid hfin
        clear hfin hp12
        by_cases hl0 : l.length = 0
        case' pos =>
          have hs0 : ls.length = 0 := by rw [hSn.2 (List.eq_nil_of_length_eq_zero hl0)]; rfl
          have HF2 := HFIN.out
          rw [hl0] at hpc HF2
          rw [hl0, hs0]
          replace HFIN := Lib.hid HF2
          clear hl0 hs0 HF2
          go_wp2_with fail
          refine wp_region_ord (S := fun _ => True) [(0, true), (1, true), (2, true), (3, true), (4, true), (5, true), (6, true), (7, true), (8, true), (9, true), (10, true), (11, true), (12, true), (13, true), (14, true), (15, true), (16, true), (17, true), (18, true), (19, true), (20, true), (21, true), (22, true), (23, true), (24, true), (25, true), (26, true), (28, true), (27, false), (29, false), (30, true), (31, true)] (by kernel_rfl) (by kernel_rfl) rfl (by kernel_rfl) (fun _ _ _ _ _ h => h) trivial ?_
          simp only [List.map_cons, List.map_nil, List.getElem?_toArray, List.getElem?_cons_succ, List.getElem?_cons_zero]
          iterate 12 (refine ord_take (v := ?_) (by kernel_rfl) (fun w hSw => ?_) ?_; rotate_left; (focus ((try dsimp only at hSw); go_simp; (first | done | with_reducible rfl))); simp only [Act.put, List.setIfInBounds_toArray, List.set_cons_zero, List.set_cons_succ])
          iterate 11 (refine ord_skip (by kernel_rfl) ?_; simp only [Act.put, List.setIfInBounds_toArray, List.set_cons_zero, List.set_cons_succ])
          iterate 5 (refine ord_take (v := ?_) (by kernel_rfl) (fun w hSw => ?_) ?_; rotate_left; (focus ((try dsimp only at hSw); go_simp; (first | done | with_reducible rfl))); simp only [Act.put, List.setIfInBounds_toArray, List.set_cons_zero, List.set_cons_succ])
          refine ord_do (by kernel_rfl) (fun K hK => ?_)
          go_simp
          go_at_call 33
          refine hpc.mono ?_
          rintro e w13 ⟨v13, rfl, o13, b13⟩
          have hff := HFIN.out w13 v13 b13 o13
          obtain ⟨a13, c13, rfl⟩ := owns_slice o13
          show K _ _
          refine hK.out _ _ trivial ?_
          clear hK
          try simp only [Act.put, List.setIfInBounds_toArray, List.set_cons_zero, List.set_cons_succ]
          refine ord_do (by kernel_rfl) (fun K hK => ?_)
          go_simp
          go_at_call 34
          refine hff.mono ?_
          rintro e w14 ⟨rfl, b14⟩
          show K _ _
          refine hK.out _ _ trivial ?_
          clear hK
          try simp only [Act.put, List.setIfInBounds_toArray, List.set_cons_zero, List.set_cons_succ]
          iterate 2 (refine ord_take (v := ?_) (by kernel_rfl) (fun w hSw => ?_) ?_; rotate_left; (focus ((try dsimp only at hSw); go_simp; (first | done | with_reducible rfl))); simp only [Act.put, List.setIfInBounds_toArray, List.set_cons_zero, List.set_cons_succ])
          refine ord_nil ?_
        case' neg =>
          have hs0 : 0 < ls.length := List.length_pos_iff.2 (fun e => hl0 (by rw [hSn.1 e]; rfl))
          have d1 : decide (0 < l.length) = true := decide_eq_true (by omega)
          have d2 : decide (0 < ls.length) = true := decide_eq_true (by omega)
          have d3 : ((ls.length : Int) == 0) = false := by rw [beq_eq_false_iff_ne]; omega
          obtain ⟨b, of, rfl, _, _, hx⟩ := r11.at hs0
          obtain ⟨q0, q1⟩ := pr_cells hx 0 hs0
          generalize ls[0] = y at *
          simp only [Nat.zero_mul, Nat.add_zero] at q0 q1
          have d4 : decide ((if y.st < a then y.st else a) ≤ y.st) = true := decide_eq_true (by split <;> omega)
          have KK : ∀ W, Below w11.drew.heap.size w11.drew W → W.cell? ⟨b, of + 1, none⟩ = some (.int .i64 y.st) := fun W hW => by
            rw [hW.cell (World.block_lt_of_cell? _ _ (show w11.drew.cell? ⟨b, of + 1, none⟩ = _ from q1))]; exact q1
          clear hx hl0
          go_wp2_with fail
          refine wp_region_ord (S := fun w' => w'.cell? ⟨b, of + 1, none⟩ = some (.int .i64 y.st)) [(0, true), (1, true), (2, true), (3, true), (4, true), (5, true), (6, true), (7, true), (8, true), (9, true), (10, true), (11, true), (12, true), (13, true), (14, true), (15, true), (16, true), (17, true), (18, true), (19, true), (20, true), (21, true), (22, true), (23, true), (24, true), (25, true), (26, true), (28, true), (27, false), (29, false), (30, true), (31, true)] (by kernel_rfl) (by kernel_rfl) rfl (by kernel_rfl) (fun _ _ _ _ _ h => h) (KK _ (Below.refl _ _)) ?_
          simp only [List.map_cons, List.map_nil, List.getElem?_toArray, List.getElem?_cons_succ, List.getElem?_cons_zero]
          iterate 28 (refine ord_take (v := ?_) (by kernel_rfl) (fun w hSw => ?_) ?_; rotate_left; (focus ((try dsimp only at hSw); go_simp; (first | done | with_reducible rfl))); simp only [Act.put, List.setIfInBounds_toArray, List.set_cons_zero, List.set_cons_succ])
          refine ord_do (by kernel_rfl) (fun K hK => ?_)
          go_simp
          go_at_call 33
          refine hpc.mono ?_
          rintro e w13 ⟨v13, rfl, o13, b13⟩
          have hff := HFIN.out w13 v13 b13 o13
          obtain ⟨a13, c13, rfl⟩ := owns_slice o13
          show K _ _
          refine hK.out _ _ (KK _ b13) ?_
          clear hK
          try simp only [Act.put, List.setIfInBounds_toArray, List.set_cons_zero, List.set_cons_succ]
          refine ord_do (by kernel_rfl) (fun K hK => ?_)
          go_simp
          go_at_call 34
          refine hff.mono ?_
          rintro e w14 ⟨rfl, b14⟩
          show K _ _
          refine hK.out _ _ (KK _ b14) ?_
          clear hK
          try simp only [Act.put, List.setIfInBounds_toArray, List.set_cons_zero, List.set_cons_succ]
          iterate 2 (refine ord_take (v := ?_) (by kernel_rfl) (fun w hSw => ?_) ?_; rotate_left; (focus ((try dsimp only at hSw); go_simp; (first | done | with_reducible rfl))); simp only [Act.put, List.setIfInBounds_toArray, List.set_cons_zero, List.set_cons_succ])
          refine ord_nil ?_
        all_goals
          go_wp2_with fail
          all_goals (
            go_ret
            exact ⟨rfl, nxt B12 b14⟩)
  · by_cases t1 : 20 < l.length
    · go_wp2_with fail
      go_ret
      exact ⟨rfl, B2⟩
    · have t1' : decide ((20 : Int) < (l.length : Int)) = false := decide_eq_false (by omega)
      go_wp2_with fail
      go_ret
      exact ⟨rfl, B2⟩
end Go.Proofs.YtjhebnjajnjhhaaDoor
