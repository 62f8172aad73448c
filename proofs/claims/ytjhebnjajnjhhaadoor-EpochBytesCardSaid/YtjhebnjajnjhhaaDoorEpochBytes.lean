/- EpochBytes returns true at every input. -/
import Derived.Test.YtjhebnjajnjhhaaDoorEpoEnd
import Derived.Test.YtjhebnjajnjhhaaDoorRefReadPairs
import Derived.Test.YtjhebnjajnjhhaaDoorSamePairs
import Derived.Test.YtjhebnjajnjhhaaDoorSameBytes
import Derived.Test.YtjhebnjajnjhhaaDoorSee
import Derived.Deep.DeepCutAuto
import Derived.Deep.CutBlock
namespace Go.Proofs.YtjhebnjajnjhhaaDoor
open Go Go.RowKit Epo

theorem same_self (e : Er) : decide (e.code = e.code ∧ e.has = e.has ∧ e.pos = e.pos) = true := decide_eq_true ⟨rfl, rfl, rfl⟩

theorem pairs_len (l : List Pr) (hl : l.length ≤ 256) (hal : l.all Epo.right = true) : (pairsL l).length ≤ 1099511627776 := by
  unfold pairsL
  rw [List.length_append]
  have h1 := Vint.putL_len10 l.length (by omega)
  have h2 : ∀ ys : List Pr, (∀ p ∈ ys, Epo.right p = true) → (ys.flatMap pairL).length ≤ ys.length * 20 := by
    intro ys
    induction ys with
    | nil => intro _; simp
    | cons y ys ih =>
      intro hy
      have h3 := ih (fun p hp => hy p (List.mem_cons_of_mem _ hp))
      have h4 := hy y List.mem_cons_self
      unfold Epo.right at h4
      rw [decide_eq_true_eq] at h4
      have h5 := Vint.putL_len10 y.ep.toNat (by omega)
      have h6 := Vint.putL_len10 y.st.toNat (by omega)
      rw [List.flatMap_cons, List.length_append, List.length_cons]
      unfold pairL at h3 ⊢
      rw [List.length_append]
      omega
  have h3 := h2 l (fun p hp => List.all_eq_true.1 hal p hp)
  omega

set_option maxRecDepth 100000 in
set_option maxHeartbeats 4000000 in
theorem epochBytes_walk (S : List Nat) (A : Nat → Addr) (l : List Pr) (v vb : Value) (bs : List UInt8) (w : World) (hS : Sents S w A) (hall : All S) (hp : Rd w 2 v l.length (l.flatMap prV)) (hb : Rd w 1 vb bs.length (bvs bs)) :
    Calls Tryd.prog 9 #[v, vb] w (fun e w' => e = .returned (.bool true) ∧ Below w.heap.size w w') := by
  have hz : ∀ i ∈ [0, 2, 3, 4], i ∈ S := by intro i hi; simp at hi; exact hall i (by omega)
  obtain ⟨a1, c1, rfl⟩ := hp.slice
  obtain ⟨a2, c2, rfl⟩ := hb.slice
  have m1 := hp.len_le
  have m2 := hb.len_le
  have hfst := epoFirst_calls S A w hS (hall 2 (by omega)) (hall 3 (by omega)) (hall 4 (by omega))
  by_cases t1 : 300 < l.length
  · go_enter Tryd.func9, Tryd.ntmps9
    go_wp2_with fail
    refine hfst.mono ?_
    rintro e w1 ⟨rfl, b1⟩
    go_wp2_with fail
    go_ret
    exact ⟨rfl, b1⟩
  by_cases t2 : 300 < bs.length
  · have t1' : decide ((300 : Int) < (l.length : Int)) = false := decide_eq_false (by omega)
    go_enter Tryd.func9, Tryd.ntmps9
    go_wp2_with fail
    refine hfst.mono ?_
    rintro e w1 ⟨rfl, b1⟩
    go_wp2_with fail
    go_ret
    exact ⟨rfl, b1⟩
  have t1' : decide ((300 : Int) < (l.length : Int)) = false := decide_eq_false (by omega)
  have t2' : decide ((300 : Int) < (bs.length : Int)) = false := decide_eq_false (by omega)
  go_enter Tryd.func9, Tryd.ntmps9
  go_wp2_with fail
  refine hfst.mono ?_
  rintro e w1 ⟨rfl, b1⟩
  have hr1 := eread_calls (hS.below b1) hz (hb.below b1) (by omega)
  clear hfst
  go_wp2_with fail
  refine hr1.mono ?_
  rintro e w2 h2
  unfold ReadPost at h2
  obtain ⟨b2, h2⟩ := h2
  have B2 := nxt b1 b2
  have hr2 := refRead_calls (hb.below B2) (by omega)
  unfold RefReadPost at hr2
  obtain ⟨er, her⟩ : ∃ er, er = (readPairs bs).1 := ⟨_, rfl⟩
  obtain ⟨lb, hlb⟩ : ∃ lb, lb = (readPairs bs).2 := ⟨_, rfl⟩
  have hback := readPairs_back bs
  rw [← her, ← hlb] at h2 hr2
  have HBK : Hid (er = .fine → pairsL lb = bs ∧ valid lb = 0) := Lib.hid (fun e => by
    have : readPairs bs = (.fine, lb) := Prod.ext (by rw [← her, e]) (by rw [← hlb])
    exact hback lb this)
  clear her hlb hback hr1
  rcases h2 with ⟨F, g, rfl, rfl, hL, hF⟩ | ⟨vf, hne, rfl, hvf⟩
  case' inl =>
    have hLB := HBK.out rfl
    have HPL := Lib.hid hLB.1
    have hvl := (valid_iff lb).1 hLB.2
    have hl2 := hvl.1
    have hal2 := hvl.2.1
    clear HBK hLB hvl
    go_wp2_with fail
    refine hr2.mono ?_
    rintro e w3 ⟨vy, rfl, ry, b3⟩
    obtain ⟨ay, cy, rfl⟩ := ry.slice
    have B3 := nxt B2 b3
    clear hr2
    have row4 := heap_alloc_new w3 (.cells #[.int .i64 0, .bool false, .int .i64 0] 67)
    have b4 := below_alloc w3 (.cells #[.int .i64 0, .bool false, .int .i64 0] 67)
    simp only [Er.code, Er.has, Er.pos]
    unfold fv
    have hsc := fun W (hW : Sents S W A) => same_calls hW hall .nilIface .fine rfl 0 0 false
    rw [show decide ((Er.fine).code = 0 ∧ (Er.fine).has = false ∧ (Er.fine).pos = 0) = true by decide] at hsc
    unfold fv at hsc
    go_upto_region 8 with fail
    generalize hw5 : w3.alloc (.cells #[.int .i64 0, .bool false, .int .i64 0] 67) = w5 at *
    have hw35 : w3.heap.size < w5.heap.size := by rw [← hw5]; simp
    have B5 := nxt B3 b4
    go_cut [69] (fun x wx => x = .bool false ∧ Below w.heap.size w wx)
    case first =>
      have c0 : w5.cell? ⟨w3.heap.size, 0, none⟩ = some (.int .i64 0) := cell_of_row w5 _ 0 _ _ _ row4
      have c1' : w5.cell? ⟨w3.heap.size, 1, none⟩ = some (.bool false) := cell_of_row w5 _ 1 _ _ _ row4
      have c2' : w5.cell? ⟨w3.heap.size, 2, none⟩ = some (.int .i64 0) := cell_of_row w5 _ 2 _ _ _ row4
      have b25 := nxt b3 b4
      have hL5 := hL.below b25
      go_wp2_with fail
      refine (hsc _ (hS.below B5)).mono ?_
      rintro e w6 ⟨rfl, b6⟩
      have k0 : w6.cell? ⟨w3.heap.size, 0, none⟩ = some (.int .i64 0) := cell_of_row w6 _ 0 _ _ _ (heap_below b6 row4)
      have hL6 := hL5.below b6
      have hpc := pairs_calls hL6 (by omega)
      have B6 := nxt B5 b6
      have ry6 := ry.below (nxt b4 b6)
      clear hsc c0 c1' c2' hL5
      go_wp2_with fail
      refine hpc.mono ?_
      rintro e w7 ⟨v7, rfl, o7, b7⟩
      have hsp := samePairs_calls v7 _ lb lb w7 (Rd.of_owns o7) (ry6.below b7)
      rw [decide_eq_true rfl] at hsp
      have hbc := fun W (hW : LineAt W F g lb) => lbytes_calls hW hl2 hal2
      obtain ⟨a7, c7, rfl⟩ := owns_slice o7
      have B7 := nxt B6 b7
      clear hpc
      go_wp2_with fail
      refine hsp.mono ?_
      rintro e w8 ⟨rfl, b8⟩
      have B8 := nxt B7 b8
      have hL8 := (hL6.below b7).below b8
      clear hsp
      go_wp2_with fail
      refine (hbc _ hL8).mono ?_
      rintro e w9 ⟨v9, rfl, o9, b9⟩
      rw [HPL.out] at o9
      have B9 := nxt B8 b9
      have hsb := sameBytes_calls v9 _ bs bs w9 (Rd.of_owns o9) (hb.below B9)
      rw [beq_self_eq_true] at hsb
      obtain ⟨a9, c9, rfl⟩ := owns_slice o9
      clear hbc
      go_wp2_with fail
      refine hsb.mono ?_
      rintro e w10 ⟨rfl, q10, rfl⟩
      go_wp2_with fail
      go_meet
      exact ⟨rfl, below_drewN B9 q10⟩
  case' inr =>
    clear HBK
    have hcne := Er.code_ne hne
    have hcne2 : (er.code != 0) = true := by simp only [bne, hcne, Bool.not_false]
    have hvA := hvf.at
    obtain ⟨T3, u3, rfl⟩ := hvf.not_nil hne
    go_wp2_with fail
    refine hr2.mono ?_
    rintro e w3 ⟨vy, rfl, ry, b3⟩
    obtain ⟨ay, cy, rfl⟩ := ry.slice
    have B3 := nxt B2 b3
    clear hr2
    have row4 := heap_alloc_new w3 (.cells #[.int .i64 er.code, .bool er.has, .int .i64 er.pos] 67)
    have b4 := below_alloc w3 (.cells #[.int .i64 er.code, .bool er.has, .int .i64 er.pos] 67)
    unfold fv
    have hsc := fun W (hW : Sents S W A) (hA : ErAt A W (.iface T3 u3) er) => same_calls hW hall _ er hA er.code er.pos er.has
    rw [same_self] at hsc
    unfold fv at hsc
    go_upto_region 8 with fail
    generalize hw5 : w3.alloc (.cells #[.int .i64 er.code, .bool er.has, .int .i64 er.pos] 67) = w5 at *
    have B5 := nxt B3 b4
    go_cut [69] (fun x wx => x = .bool false ∧ Below w.heap.size w wx)
    case first =>
      have c0 : w5.cell? ⟨w3.heap.size, 0, none⟩ = some (.int .i64 er.code) := cell_of_row w5 _ 0 _ _ _ row4
      have c1' : w5.cell? ⟨w3.heap.size, 1, none⟩ = some (.bool er.has) := cell_of_row w5 _ 1 _ _ _ row4
      have c2' : w5.cell? ⟨w3.heap.size, 2, none⟩ = some (.int .i64 er.pos) := cell_of_row w5 _ 2 _ _ _ row4
      go_wp2_with fail
      refine (hsc _ (hS.below B5) ((hvA.below b3).below b4)).mono ?_
      rintro e w6 ⟨rfl, b6⟩
      have k0 : w6.cell? ⟨w3.heap.size, 0, none⟩ = some (.int .i64 er.code) := cell_of_row w6 _ 0 _ _ _ (heap_below b6 row4)
      have B6 := nxt B5 b6
      clear hsc c0 c1' c2' row4
      generalize er.code = code at *
      go_wp2_with fail
      go_meet
      exact ⟨rfl, B6⟩
  all_goals
    obtain ⟨rfl, B⟩ := hcut
    have hn := new_calls S A (hS.below B) (hall 2 (by omega)) (hall 3 (by omega)) (hall 4 (by omega)) (hp.below B)
    go_wp2_with fail
    refine hn.mono ?_
    rintro e wn ⟨hv, bn⟩
    have Bn := nxt B bn
    clear hn
    unfold senV at hv
    rcases hv with ⟨hv, Fn, gn, rfl, hLn, _⟩ | ⟨hv, rfl⟩
    · have hrp := readPairs_put _ hv
      have HRP := Lib.hid hrp
      obtain ⟨hl3, hal3, _⟩ := (valid_iff l).1 hv
      have hple := pairs_len l hl3 hal3
      have hbc := fun W (hW : LineAt W Fn gn l) => lbytes_calls hW hl3 hal3
      have HPLE := Lib.hid hple
      clear hv hrp hple
      go_wp2_with fail
      refine (hbc _ hLn).mono ?_
      rintro e w4 ⟨v4, rfl, o4, b4'⟩
      have B4 := nxt Bn b4'
      have hrd := eread_calls (hS.below B4) hz (Rd.of_owns o4) HPLE.out
      go_wp2_with fail
      refine hrd.mono ?_
      rintro e w5' h5
      unfold ReadPost at h5
      rw [HRP.out] at h5
      obtain ⟨b5, h5⟩ := h5
      have B5' := nxt B4 b5
      have hL5 := (hLn.below b4').below b5
      clear hrd
      rcases h5 with ⟨F5, g5, _, rfl, x5, _⟩ | ⟨v5, hne', _⟩
      · simp only at x5
        have hpc5 := pairs_calls x5 (by omega)
        go_wp2_with fail
        refine hpc5.mono ?_
        rintro e w6 ⟨v6, rfl, o6, b6⟩
        have B6 := nxt B5' b6
        have hsp := samePairs_calls v6 _ l l w6 (Rd.of_owns o6) (hp.below B6)
        rw [decide_eq_true rfl] at hsp
        obtain ⟨a6, c6, rfl⟩ := owns_slice o6
        clear hpc5
        go_wp2_with fail
        refine hsp.mono ?_
        rintro e w7 ⟨rfl, b7⟩
        have B7 := nxt B6 b7
        have hL7 := (hL5.below b6).below b7
        clear hsp
        go_wp2_with fail
        refine (hbc _ hL7).mono ?_
        rintro e w8 ⟨v8, rfl, o8, b8⟩
        have B8 := nxt B7 b8
        have hpb := refPairBytes_calls (hp.below B8) hl3 hal3
        obtain ⟨a8, c8, rfl⟩ := owns_slice o8
        clear hbc
        go_wp2_with fail
        refine hpb.mono ?_
        rintro e w9 ⟨v9, rfl, o9, b9⟩
        have B9 := nxt B8 b9
        have hsb := sameBytes_calls _ v9 (pairsL l) (pairsL l) w9 (Rd.of_owns (owns_below o8 b9)) (Rd.of_owns o9)
        rw [beq_self_eq_true] at hsb
        obtain ⟨a9, c9, rfl⟩ := owns_slice o9
        clear hpb
        go_wp2_with fail
        refine hsb.mono ?_
        rintro e w10 ⟨rfl, q10, rfl⟩
        go_wp2_with fail
        go_ret
        exact ⟨rfl, below_drewN B9 q10⟩
      · exact absurd rfl hne'
    · go_wp2_with fail
      go_ret
      exact ⟨rfl, Bn⟩
end Go.Proofs.YtjhebnjajnjhhaaDoor
