/- IndexReads returns true at every input. -/
import Derived.Test.YtjhebnjajnjhhaaDoorRefReadIdx
import Derived.Test.YtjhebnjajnjhhaaDoorIdxFirst
import Derived.Test.YtjhebnjajnjhhaaDoorIdxSame
import Derived.Test.YtjhebnjajnjhhaaDoorSameBytes
import Derived.Test.YtjhebnjajnjhhaaDoorBase
import Derived.Test.YtjhebnjajnjhhaaDoorSee
import Derived.Deep.DeepCutAuto
import Derived.Deep.CutBlock
namespace Go.Proofs.YtjhebnjajnjhhaaDoor
open Go Go.RowKit Idx Vint

theorem readIdx_back {b : List UInt8} {e : Int} {l : List Mk} (h : readIdx b = (.fine, e, l)) : Crc.sealed (bodyL e l) = b ∧ 1 ≤ e ∧ e ≤ 1048576 ∧ l.all right = true ∧ rise l = true ∧ l.length ≤ 4096 := by
  unfold readIdx at h
  cases ho : openL b with
  | fin => rw [ho] at h; simp at h
  | sum => rw [ho] at h; simp at h
  | ok c =>
    rw [ho] at h
    simp only at h
    obtain ⟨h1, h2⟩ := readIn_back c e l h
    exact ⟨by rw [h1]; exact openL_back ho, h2⟩
theorem cellOf_below {w w1 : World} (b : Below w.heap.size w w1) {a : Addr} {v : Value} (h : w.cell? a = some v) : w1.cell? a = some v := by
  rw [b.cell (World.block_lt_of_cell? _ _ h)]; exact h
theorem same_self' (e : Er) : decide (e.code = e.code ∧ e.has = e.has ∧ e.pos = e.pos) = true := decide_eq_true ⟨rfl, rfl, rfl⟩

set_option maxRecDepth 100000 in
set_option maxHeartbeats 4000000 in
theorem indexReads_walk (S : List Nat) (A : Nat → Addr) (vb : Value) (bs : List UInt8) (w : World) (hS : Sents S w A) (hall : All S) (hb : Rd w 1 vb bs.length (bvs bs)) :
    Calls Tryd.prog 13 #[vb] w (fun e w' => e = .returned (.bool true) ∧ Below w.heap.size w w') := by
  obtain ⟨a2, c2, rfl⟩ := hb.slice
  have m2 := hb.len_le
  have hfst := idxFirst_calls w
  by_cases t2 : 500 < bs.length
  · go_enter Tryd.func13, Tryd.ntmps13
    go_wp2_with fail
    refine hfst.mono ?_
    rintro e w1 ⟨rfl, b1⟩
    go_wp2_with fail
    go_ret
    exact ⟨rfl, b1⟩
  have t2' : decide ((500 : Int) < (bs.length : Int)) = false := decide_eq_false (by omega)
  go_enter Tryd.func13, Tryd.ntmps13
  go_wp2_with fail
  refine hfst.mono ?_
  rintro e w1 ⟨rfl, b1⟩
  have hr1 := iread_calls (hS.below b1) hall (hb.below b1) (by omega)
  clear hfst
  go_wp2_with fail
  refine hr1.mono ?_
  rintro e w2 h2
  unfold IReadPost at h2
  obtain ⟨b2, h2⟩ := h2
  have B2 := nxt b1 b2
  have hr2 := refReadIdx_calls (hb.below B2) (by omega)
  unfold RefIdxPost at hr2
  obtain ⟨er, her⟩ : ∃ er, er = (readIdx bs).1 := ⟨_, rfl⟩
  obtain ⟨ev, hev⟩ : ∃ ev, ev = (readIdx bs).2.1 := ⟨_, rfl⟩
  obtain ⟨lb, hlb⟩ : ∃ lb, lb = (readIdx bs).2.2 := ⟨_, rfl⟩
  rw [← her, ← hev, ← hlb] at h2
  rw [← her, ← hlb] at hr2
  have HBK : Hid (er = .fine → Crc.sealed (bodyL ev lb) = bs ∧ 1 ≤ ev ∧ ev ≤ 1048576 ∧ lb.all right = true ∧ rise lb = true ∧ lb.length ≤ 4096) := Lib.hid (fun e => readIdx_back (by rw [← e, her, hev, hlb]))
  clear her hev hlb hr1
  rcases h2 with ⟨F, g, rfl, rfl, hX, hF⟩ | ⟨vf, hne, rfl, hvf⟩
  case' inl =>
    obtain ⟨hbk, k1, k2, k3, k4, k5⟩ := HBK.out rfl
    have HPL := Lib.hid hbk
    clear HBK hbk
    go_wp2_with fail
    refine hr2.mono ?_
    rintro e w3 ⟨b3, (⟨_, gy, vm, rfl, cy, ry⟩ | ⟨hne, _⟩)⟩
    case inr => exact absurd rfl hne
    obtain ⟨ay, cay, rfl⟩ := ry.slice
    have B3 := nxt B2 b3
    clear hr2
    have row4 := heap_alloc_new w3 (.cells #[.int .i64 0, .bool false, .int .i64 0] 67)
    have b4 := below_alloc w3 (.cells #[.int .i64 0, .bool false, .int .i64 0] 67)
    unfold fv
    have hsc := fun W (hW : Sents S W A) => same_calls hW hall .nilIface .fine rfl 0 0 false
    rw [show decide ((Er.fine).code = 0 ∧ (Er.fine).has = false ∧ (Er.fine).pos = 0) = true by decide] at hsc
    unfold fv at hsc
    go_upto_region 8 with fail
    generalize w3.alloc (.cells #[.int .i64 0, .bool false, .int .i64 0] 67) = w5 at *
    have B5 := nxt B3 b4
    have c0 : w5.cell? ⟨w3.heap.size, 0, none⟩ = some (.int .i64 0) := cell_of_row w5 _ 0 _ _ _ row4
    have c1' : w5.cell? ⟨w3.heap.size, 1, none⟩ = some (.bool false) := cell_of_row w5 _ 1 _ _ _ row4
    have c2' : w5.cell? ⟨w3.heap.size, 2, none⟩ = some (.int .i64 0) := cell_of_row w5 _ 2 _ _ _ row4
    have hX5 := hX.below (nxt b3 b4)
    have cy5 := cellOf_below b4 cy
    have ry5 := ry.below b4
    go_wp2_with fail
    refine (hsc _ (hS.below B5)).mono ?_
    rintro e w6 ⟨rfl, b6⟩
    have B6 := nxt B5 b6
    have hX6 := hX5.below b6
    have cy6 := cellOf_below b6 cy5
    have ry6 := ry5.below b6
    clear hsc c0 c1' c2' hX5 cy5 ry5 hX cy ry row4
    have hmc := marks_calls (hX6.below (Below.refl _ _).drew) (by simp only [ofMarks]; omega)
    have KK : ∀ W, Below w6.drew.heap.size w6.drew W → W.cell? ⟨gy, 1, none⟩ = some (.slice ay lb.length cay) := fun W hW => by
      rw [hW.cell (World.block_lt_of_cell? _ _ (show w6.drew.cell? ⟨gy, 1, none⟩ = _ from cy6))]; exact cy6
    have hib := fun W (hW : IdxAt W F g (ofMarks ev lb)) => ibytes_calls hW (by exact k1) (by exact k2) (by exact k5) (by exact k3) (by exact k4)
    simp only [ofMarks] at hib hmc
    go_wp2_with fail
    refine wp_region_ord (S := fun W => W.cell? ⟨gy, 1, none⟩ = some (.slice ay lb.length cay)) [(0, true), (1, true), (2, true), (3, true), (5, true), (6, true), (7, true), (8, true), (4, false), (9, false), (10, true), (11, true), (13, true), (12, false), (14, false), (15, true), (16, true), (17, true)] (by kernel_rfl) (by kernel_rfl) rfl (by kernel_rfl) (fun _ _ _ _ _ h => h) (KK _ (Below.refl _ _)) ?_
    simp only [List.map_cons, List.map_nil, List.getElem?_toArray, List.getElem?_cons_succ, List.getElem?_cons_zero]
    iterate 8 (refine ord_take (v := ?_) (by kernel_rfl) (fun w hSw => ?_) ?_; rotate_left; (focus ((try dsimp only at hSw); go_simp; (first | done | with_reducible rfl))); simp only [Act.put, List.setIfInBounds_toArray, List.set_cons_zero, List.set_cons_succ])
    refine ord_do (by kernel_rfl) (fun K hK => ?_)
    go_simp
    go_at_call 20
    refine hmc.mono ?_
    rintro e w7 ⟨v7, rfl, o7, b7⟩
    have hsm := idxSame_calls v7 _ lb w7 (Rd.of_owns o7) ((ry6.below (Below.refl _ _).drew).below b7)
    have hX7 := (hX6.below (Below.refl _ _).drew).below b7
    have B7 := nxt B6.drew b7
    obtain ⟨a7, c7, rfl⟩ := owns_slice o7
    show K _ _
    refine hK.out _ _ (KK _ b7) ?_
    clear hK
    try simp only [Act.put, List.setIfInBounds_toArray, List.set_cons_zero, List.set_cons_succ]
    refine ord_do (by kernel_rfl) (fun K hK => ?_)
    go_simp
    go_at_call 53
    refine hsm.mono ?_
    rintro e w8 ⟨rfl, b8⟩
    have hX8 := hX7.below b8
    have B8 := nxt B7 b8
    show K _ _
    refine hK.out _ _ (KK _ (nxt b7 b8)) ?_
    clear hK
    try simp only [Act.put, List.setIfInBounds_toArray, List.set_cons_zero, List.set_cons_succ]
    iterate 3 (refine ord_take (v := ?_) (by kernel_rfl) (fun w hSw => ?_) ?_; rotate_left; (focus ((try dsimp only at hSw); go_simp; (first | done | with_reducible rfl))); simp only [Act.put, List.setIfInBounds_toArray, List.set_cons_zero, List.set_cons_succ])
    refine ord_do (by kernel_rfl) (fun K hK => ?_)
    go_simp
    go_at_call 54
    refine (hib _ hX8).mono ?_
    rintro e w9 ⟨v9, rfl, o9, b9⟩
    rw [HPL.out] at o9
    have B9 := nxt B8 b9
    have hsb := sameBytes_calls v9 _ bs bs w9 (Rd.of_owns o9) (hb.below B9)
    rw [beq_self_eq_true] at hsb
    obtain ⟨a9, c9, rfl⟩ := owns_slice o9
    show K _ _
    refine hK.out _ _ (KK _ (nxt b7 (nxt b8 b9))) ?_
    clear hK
    try simp only [Act.put, List.setIfInBounds_toArray, List.set_cons_zero, List.set_cons_succ]
    refine ord_do (by kernel_rfl) (fun K hK => ?_)
    go_simp
    go_at_call 40
    refine hsb.mono ?_
    rintro e w10 ⟨rfl, q10, rfl⟩
    show K _ _
    refine hK.out _ _ (KK _ (below_drewN (nxt b7 (nxt b8 b9)) q10)) ?_
    clear hK
    try simp only [Act.put, List.setIfInBounds_toArray, List.set_cons_zero, List.set_cons_succ]
    iterate 3 (refine ord_take (v := ?_) (by kernel_rfl) (fun w hSw => ?_) ?_; rotate_left; (focus ((try dsimp only at hSw); go_simp; (first | done | with_reducible rfl))); simp only [Act.put, List.setIfInBounds_toArray, List.set_cons_zero, List.set_cons_succ])
    refine ord_nil ?_
    have BE := below_drewN B9 q10
    generalize w9.drewN q10 = wE at *
  case' inr =>
    clear HBK
    have hvA := hvf.at
    obtain ⟨T3, u3, rfl⟩ := hvf.not_nil hne
    go_wp2_with fail
    refine hr2.mono ?_
    rintro e w3 ⟨b3, (⟨hfi, _⟩ | ⟨_, rfl⟩)⟩
    case inl => exact absurd hfi hne
    have B3 := nxt B2 b3
    clear hr2
    have row4 := heap_alloc_new w3 (.cells #[.int .i64 er.code, .bool er.has, .int .i64 er.pos] 67)
    have b4 := below_alloc w3 (.cells #[.int .i64 er.code, .bool er.has, .int .i64 er.pos] 67)
    unfold fv
    have hsc := fun W (hW : Sents S W A) (hA : ErAt A W (.iface T3 u3) er) => same_calls hW hall _ er hA er.code er.pos er.has
    rw [same_self'] at hsc
    unfold fv at hsc
    go_upto_region 8 with fail
    generalize w3.alloc (.cells #[.int .i64 er.code, .bool er.has, .int .i64 er.pos] 67) = w5 at *
    have B5 := nxt B3 b4
    have c0 : w5.cell? ⟨w3.heap.size, 0, none⟩ = some (.int .i64 er.code) := cell_of_row w5 _ 0 _ _ _ row4
    have c1' : w5.cell? ⟨w3.heap.size, 1, none⟩ = some (.bool er.has) := cell_of_row w5 _ 1 _ _ _ row4
    have c2' : w5.cell? ⟨w3.heap.size, 2, none⟩ = some (.int .i64 er.pos) := cell_of_row w5 _ 2 _ _ _ row4
    go_wp2_with fail
    refine (hsc _ (hS.below B5) ((hvA.below b3).below b4)).mono ?_
    rintro e w6 ⟨rfl, b6⟩
    have BE := (nxt B5 b6).drew
    clear hsc c0 c1' c2' row4
    go_wp2_with fail
    refine wp_region_ord (S := fun _ => True) [(0, true), (1, true), (2, true), (3, true), (5, true), (6, true), (7, true), (8, true), (4, false), (9, false), (10, true), (11, true), (13, true), (12, false), (14, false), (15, true), (16, true), (17, true)] (by kernel_rfl) (by kernel_rfl) rfl (by kernel_rfl) (fun _ _ _ _ _ h => h) trivial ?_
    simp only [List.map_cons, List.map_nil, List.getElem?_toArray, List.getElem?_cons_succ, List.getElem?_cons_zero]
    iterate 3 (refine ord_take (v := ?_) (by kernel_rfl) (fun w hSw => ?_) ?_; rotate_left; (focus ((try dsimp only at hSw); go_simp; (first | done | with_reducible rfl))); simp only [Act.put, List.setIfInBounds_toArray, List.set_cons_zero, List.set_cons_succ])
    iterate 5 (refine ord_skip (by kernel_rfl) ?_; simp only [Act.put, List.setIfInBounds_toArray, List.set_cons_zero, List.set_cons_succ])
    iterate 2 (refine ord_pass (by kernel_rfl) trivial ?_; simp only [Act.put, List.setIfInBounds_toArray, List.set_cons_zero, List.set_cons_succ])
    iterate 3 (refine ord_skip (by kernel_rfl) ?_; simp only [Act.put, List.setIfInBounds_toArray, List.set_cons_zero, List.set_cons_succ])
    iterate 2 (refine ord_pass (by kernel_rfl) trivial ?_; simp only [Act.put, List.setIfInBounds_toArray, List.set_cons_zero, List.set_cons_succ])
    iterate 1 (refine ord_skip (by kernel_rfl) ?_; simp only [Act.put, List.setIfInBounds_toArray, List.set_cons_zero, List.set_cons_succ])
    iterate 2 (refine ord_take (v := ?_) (by kernel_rfl) (fun w hSw => ?_) ?_; rotate_left; (focus ((try dsimp only at hSw); go_simp; (first | done | with_reducible rfl))); simp only [Act.put, List.setIfInBounds_toArray, List.set_cons_zero, List.set_cons_succ])
    refine ord_nil ?_
    generalize w6.drew = wE at *
  all_goals
    go_wp2_with fail
    go_ret
    exact ⟨rfl, BE⟩
end Go.Proofs.YtjhebnjajnjhhaaDoor
