/- Line.CutStart: what ends at a place, or ahead, is none. -/
import Derived.Test.YtdlcpcpcojpecaaDoorEpoCutEnd
import Derived.Test.YtdlcpcpcojpecaaDoorBase
import Derived.StillTailTactics
namespace Go.Proofs.YtdlcpcpcojpecaaDoor
open Go Go.RowKit Epo

def lenAt (g : Nat) (w : World) : Nat := match w.cell? ⟨g, 0, none⟩ with
  | some (.slice _ n _) => n
  | _ => 0
theorem lenAt_of {g : Nat} {w : World} {a : Option Addr} {n c : Nat} (h : w.cell? ⟨g, 0, none⟩ = some (.slice a n c)) : lenAt g w = n := by
  unfold lenAt; rw [h]

set_option maxRecDepth 100000 in
set_option maxHeartbeats 2000000 in
theorem cutStart_calls {w : World} {F : Nat → Prop} {g : Nat} {l : List Pr} (h : LineAt w F g l) (hl : l.length ≤ 1000000) (a : Int) :
    Calls Tryd.prog 15 #[.pointer (some ⟨g, 0, none⟩), .int .i64 a] w (CutPost F g (cutS a l) w) := by
  obtain ⟨v, h⟩ := h
  have hnr := h.not_row
  have ho := h.pairs
  obtain ⟨am, cm, rfl⟩ := owns_slice h.pairs
  have H := Lib.hid h
  obtain ⟨D, hD⟩ : ∃ D, D = dropS a l := ⟨_, rfl⟩
  have HD := Lib.hid hD
  have hlt : g < w.heap.size := h.old g h.mine
  have hrow0 := h.row
  clear h hD
  go_enter Tryd.func15, Tryd.ntmps15
  go_wp2_with fail
  go_loopw [4] (fun _ wr => ∃ (lk : List Pr) (ak : Option Addr) (ck : Nat), lk.length ≤ l.length ∧ Hid (dropS a lk = D) ∧ wr.heap[g]? = some (.cells #[.slice ak lk.length ck] 52 (0, 0)) ∧ (Rd wr 2 (.slice ak lk.length ck) lk.length (lk.flatMap prV) ∧ OffV g (.slice ak lk.length ck)) ∧ Touch g w wr) (fun _ wr => lenAt g wr)
  case atStart =>
    refine ⟨l, am, cm, Nat.le_refl _, Lib.hid HD.out.symm, hrow0, ⟨Rd.of_owns ho, fun x n c hx _ => ?_⟩, Touch.refl _ _⟩
    rcases ho.2 with ⟨hn, _⟩ | ⟨k, cap, cur, hn, _⟩
    · rw [hn] at hx; cases hx
    · rw [hn] at hx hnr
      cases hx
      exact fun e => hnr (by rw [← e]; rfl)
  case round =>
    obtain ⟨lk, ak, ck, hlk, HDK, hrow, ⟨hrd, hoff⟩, ht⟩ := hrel
    have k1 := cell_of_row wr g 0 _ _ _ hrow
    have z1 := frozen_of_row wr g 0 _ _ hrow
    have hm := lenAt_of k1
    have HM := Lib.hid hm
    clear hm
    rcases lk with _ | ⟨p, lk⟩
    · have hC : cutS a l = [] := by unfold cutS; rw [← HD.out, ← HDK.out]; rfl
      have HC := Lib.hid hC
      have hcl := clone_pairs _ _ _ wr hrd (prV_one _) (by simp)
      simp only [List.length_nil] at k1 hcl hrow
      have HROW := Lib.hid hrow
      clear hrow hC
      go_wp2_with fail
      refine hcl.mono ?_
      rintro e w2 ⟨v2, rfl, o2, b2⟩
      have row2 := heap_below b2 HROW.out
      have k2 : w2.cell? ⟨g, 0, none⟩ = some (.slice ak 0 ck) := cell_of_row w2 g 0 _ _ _ row2
      have z2 := frozen_of_row w2 g 0 _ _ row2
      have hge := owns_ge o2
      have hlt2 := owns_lt o2
      obtain ⟨a2, c2, rfl⟩ := owns_slice o2
      have ROW2 := Lib.hid row2
      have O2 := Lib.hid (owns_zero o2)
      clear hcl row2 o2
      have t2 := Touch.setCell (g := g) w2 0 (.slice a2 0 c2)
      have row3 := heap_setCell_same w2 g 0 _ _ (.slice a2 0 c2) ROW2.out
      have k3 : (w2.setCell ⟨g, 0, none⟩ (.slice a2 0 c2)).cell? ⟨g, 0, none⟩ = some (.slice a2 0 c2) := cell_of_row _ g 0 _ _ _ row3
      have hsz : (w2.setCell ⟨g, 0, none⟩ (.slice a2 0 c2)).heap.size = w2.heap.size := by simp [World.setCell]
      clear row3
      go_wp2_with fail
      go_end0
      unfold CutPost
      rw [HC.out]
      have T2 : Touch g w w2 := ht.trans (Touch.of_below b2)
      have hsw := T2.size
      refine ⟨rfl, fun k => F k ∨ (Value.slice a2 0 c2).ownBlock = some k, ⟨_, .inl H.out.mine, ?_, heap_setCell_same _ g 0 _ _ _ ROW2.out, t2.owns O2.out ROW2.out (by decide), fun k hk => .inr hk⟩, ?_, Frame.of_touch (T2.trans t2) H.out.mine⟩
      · rintro k (hk | hk)
        · rw [hsz]; exact Nat.lt_of_lt_of_le (H.out.old k hk) hsw
        · rw [hsz]; exact hlt2 k hk
      · rintro k (hk | hk)
        · exact .inl hk
        · exact .inr (Nat.le_trans ht.size (hge k hk))
    obtain ⟨n, hn⟩ : ∃ n, n = (p :: lk).length := ⟨_, rfl⟩
    have hn0 : 0 < n := by rw [hn]; simp
    rw [← hn] at hlk hrow k1 hrd hoff
    have hmm := HM.out
    rw [← hn] at hmm
    have HM2 := Lib.hid hmm
    clear HM hmm
    obtain ⟨b, o, rfl, hnc, hmx, hx⟩ := hrd.at hn0
    have HN := Lib.hid hn
    have HROW := Lib.hid hrow
    clear hn hrow
    have hcl := clone_pairs _ _ _ wr hrd (prV_one _) (by omega)
    by_cases h1 : 1 < n
    case' pos =>
      obtain ⟨q, r, rfl⟩ : ∃ q r, lk = q :: r := by
        have := HN.out
        cases lk with
        | nil => simp at this; omega
        | cons q r => exact ⟨q, r, rfl⟩
      have q3 := hx 3 (.int .i64 q.st) (by simp [prV])
      by_cases hq : q.st ≤ a
      · have hcut : ∀ W, (Instr.sliceAt 22 (.slice (some ⟨b, o, none⟩) n ck) (some (.int .i64 1)) none none).run Tryd.prog W = .ok (.slice (some ⟨b, o + 2, none⟩) (n - 1) (ck - 1)) W := fun W => by
          have := run_cut_l 22 sl_pair 2 sz_pair (some ⟨b, o, none⟩) n ck 1 .i64 (by omega) W
          unfold sliced at this
          rw [if_neg (by omega), Option.map_some, add_none, Nat.one_mul] at this
          exact this
        have HX := Lib.hid hx
        have HQ := Lib.hid hq
        clear hx hcl
        go_wp2_with fail
        have t2 := Touch.setCell (g := g) wr 0 (.slice (some ⟨b, o + 2, none⟩) (n - 1) (ck - 1))
        have row3 := heap_setCell_same wr g 0 _ _ (.slice (some ⟨b, o + 2, none⟩) (n - 1) (ck - 1)) HROW.out
        have hn1 : n - 1 = (q :: r).length := by have := HN.out; simp at this ⊢; omega
        have hrd2 : Rd wr 2 (.slice (some ⟨b, o + 2, none⟩) (n - 1) (ck - 1)) (n - 1) ((q :: r).flatMap prV) := by
          refine ⟨by rw [hn1]; exact flat_length prV 2 _ (prV_len _), .inr ⟨⟨b, o + 2, none⟩, ck - 1, rfl, by omega, by omega, fun j u hu => ?_⟩⟩
          rw [add_none, show o + 2 + j = o + (2 + j) by omega]
          refine HX.out (2 + j) u ?_
          rw [List.flatMap_cons, List.getElem?_append_right (by simp [prV])]
          simpa [prV] using hu
        have hoff2 : OffV g (.slice (some ⟨b, o + 2, none⟩) (n - 1) (ck - 1)) := by
          intro x m c e _
          cases e
          exact hoff ⟨b, o, none⟩ _ _ rfl (by omega)
        have hd2 : dropS a (q :: r) = D := by rw [← HDK.out, dropS_go HQ.out]
        rw [hn1] at hrd2 hoff2 row3 t2 ⊢
        have k5 := cell_of_row _ g 0 _ _ _ row3
        refine ⟨⟨q :: r, _, _, by omega, Lib.hid hd2, row3, ⟨hrd2.touch t2 hoff2, hoff2⟩, ht.trans t2⟩, ?_⟩
        rw [HM2.out, lenAt_of k5]
        omega
      have hD2 : D = p :: q :: r := by rw [← HDK.out, dropS_stop hq]
    case' neg =>
      have hD2 : D = p :: lk := by
        rw [← HDK.out]
        have := HN.out
        cases lk with
        | nil => rfl
        | cons q r => simp at this; omega
    all_goals
      obtain ⟨T, hT⟩ : ∃ T, T = max p.st (min a 1099511627776) := ⟨_, rfl⟩
      have hC : cutS a l = ⟨p.ep, T⟩ :: D.tail := by unfold cutS; rw [← HD.out, hD2, hT]; rfl
      have HC := Lib.hid hC
      have HD2 := Lib.hid hD2
      have hx1 := hx 1 (.int .i64 p.st) (by simp [prV])
      have hTc : (1099511627776 < a ∧ p.st < 1099511627776 ∧ T = 1099511627776) ∨ (1099511627776 < a ∧ ¬ p.st < 1099511627776 ∧ T = p.st) ∨ (¬ 1099511627776 < a ∧ p.st < a ∧ T = a) ∨ (¬ 1099511627776 < a ∧ ¬ p.st < a ∧ T = p.st) := by omega
      clear hC hD2 hx hT
      go_wp2_with fail
      refine hcl.mono ?_
      rintro e w2 ⟨v2, rfl, o2, b2⟩
      have row2 := heap_below b2 HROW.out
      have k2 : w2.cell? ⟨g, 0, none⟩ = some (.slice (some ⟨b, o, none⟩) n ck) := cell_of_row w2 g 0 _ _ _ row2
      have z2 := frozen_of_row w2 g 0 _ _ row2
      have hge := owns_ge o2
      have hlt2 := owns_lt o2
      obtain ⟨a2, c2, rfl⟩ := owns_slice o2
      obtain ⟨b2', rfl, _⟩ := owns_at o2 hn0
      have ROW2 := Lib.hid row2
      have t2 := Touch.setCell (g := g) w2 0 (.slice (some ⟨b2', 0, none⟩) n c2)
      have row3 := heap_setCell_same w2 g 0 _ _ (.slice (some ⟨b2', 0, none⟩) n c2) row2
      have o3 := t2.owns (owns_zero o2) row2 (by decide)
      have T2 : Touch g w w2 := ht.trans (Touch.of_below b2)
      have hsw : w.heap.size ≤ w2.heap.size := T2.size
      have hgb : b2' ≠ g := fun e => by have := hge b2' rfl; have := ht.size; omega
      have hb2s : wr.heap.size ≤ b2' := hge b2' rfl
      have hb2l : b2' < w2.heap.size := hlt2 b2' rfl
      have hsz : (w2.setCell ⟨g, 0, none⟩ (.slice (some ⟨b2', 0, none⟩) n c2)).heap.size = w2.heap.size := by simp [World.setCell]
      clear hcl row2 o2 hge hlt2
      go_upto_region 4 with fail
      generalize w2.setCell ⟨g, 0, none⟩ (.slice (some ⟨b2', 0, none⟩) n c2) = w3 at *
      have k3 : w3.cell? ⟨g, 0, none⟩ = some (.slice (some ⟨b2', 0, none⟩) n c2) := cell_of_row _ g 0 _ _ _ row3
      have m1 : w3.cell? ⟨b2', 1, none⟩ = some (.int .i64 p.st) := by rw [World.ownsRow.cellAt o3 1 (by omega)]; simp [prV]
      have z3 := World.ownsRow.frozenAt o3 1
      have s1 := World.ownsRow.stored o3 1 (.int .i64 T)
      have S1 := Lib.hid s1
      have ROW3 := Lib.hid row3
      have T3 := T2.trans t2
      have hfin : CutPost F g (cutS a l) w (.returned (.tuple #[])) (w3.setCell ⟨b2', 1, none⟩ (.int .i64 T)) := by
        unfold CutPost
        obtain ⟨o4, g4⟩ := S1.out
        have hz4 : (w3.setCell ⟨b2', 1, none⟩ (.int .i64 T)).heap.size = w3.heap.size := by simp [World.setCell]
        have row4 : (w3.setCell ⟨b2', 1, none⟩ (.int .i64 T)).heap[g]? = some (.cells #[.slice (some ⟨b2', 0, none⟩) n c2] 52 (0, 0)) := by
          rw [g4.block g (Array.getElem?_eq_some_iff.1 ROW3.out).1 (fun e => hgb (Option.some.inj e).symm)]
          exact ROW3.out
        have hlen : (cutS a l).length = n := by rw [HC.out, HD2.out, HN.out]; simp
        have hflat : ((p :: D.tail).flatMap prV).set 1 (.int .i64 T) = (cutS a l).flatMap prV := by rw [HC.out]; simp [prV]
        have hpd : p :: D.tail = D := by rw [HD2.out]; rfl
        rw [hpd, HD2.out] at hflat
        refine ⟨rfl, fun k => F k ∨ k = b2', ⟨_, .inl H.out.mine, ?_, row4, by rw [hlen, ← hflat]; exact o4, fun k hk => .inr ?_⟩, ?_, ?_⟩
        · rintro k (hk | rfl)
          · rw [hz4, hsz]; exact Nat.lt_of_lt_of_le (H.out.old k hk) hsw
          · rw [hz4, hsz]; exact hb2l
        · simpa [Value.ownBlock] using hk.symm
        · rintro k (hk | rfl)
          · exact .inl hk
          · exact .inr (Nat.le_trans ht.size hb2s)
        · have f3 : Frame F w w3 := Frame.of_touch T3 H.out.mine
          refine f3.trans (Frame.of_grown (F := fun k => k = b2') g4 (fun k e => by cases e; rfl)) (fun i e => .inr ?_)
          rw [e]; exact Nat.le_trans ht.size hb2s
      have HF := Lib.hid hfin
      clear s1 row3 o3 t2 T2 T3 hfin S1 hgb hsz
      rcases hTc with ⟨t1, t2, rfl⟩ | ⟨t1, t2, rfl⟩ | ⟨t1, t2, rfl⟩ | ⟨t1, t2, rfl⟩
      all_goals
        go_still_tail 16, (by kernel_rfl)
        change wpList _ _ _ _ _ w3.drew
        go_wp2_with fail
        go_end0
        have h := HF.out
        unfold CutPost at h ⊢
        obtain ⟨_, F', h1, h2, h3⟩ := h
        exact ⟨rfl, F', h1.below (Below.refl _ _).drew, h2, h3.then_below (Below.refl _ _).drew⟩
end Go.Proofs.YtdlcpcpcojpecaaDoor
