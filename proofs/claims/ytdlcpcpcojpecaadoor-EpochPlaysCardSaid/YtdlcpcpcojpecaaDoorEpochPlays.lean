/- EpochPlays returns true at every input. -/
import Derived.Test.YtdlcpcpcojpecaaDoorAsks
import Derived.Test.YtdlcpcpcojpecaaDoorRefLine5
import Derived.Test.YtdlcpcpcojpecaaDoorEpoBegin5
import Derived.Test.YtdlcpcpcojpecaaDoorEpoCutStart
import Derived.Test.YtdlcpcpcojpecaaDoorEpoClone
import Derived.Test.YtdlcpcpcojpecaaDoorSee
import Derived.Test.YtdlcpcpcojpecaaDoorDoE
namespace Go.Proofs.YtdlcpcpcojpecaaDoor
open Go Go.RowKit Epo

theorem LineAt.old {w : World} {F : Nat → Prop} {g : Nat} {l : List Pr} (h : LineAt w F g l) : ∀ k, F k → k < w.heap.size := by obtain ⟨_, h⟩ := h; exact h.old
/-- Another one's blocks have turned. -/
theorem LineAt.frame {w w1 : World} {F G : Nat → Prop} {g : Nat} {l : List Pr} (h : LineAt w F g l) (f : Frame G w w1) (hd : ∀ k, F k → ¬ G k) : LineAt w1 F g l := by
  obtain ⟨v, h⟩ := h
  exact ⟨v, h.mine, fun k hk => Nat.lt_of_lt_of_le (h.old k hk) f.size, f.heap h.row (hd g h.mine), f.owns h.pairs (fun k hk => hd k (h.inP k hk)), h.inP⟩

/-- How all lies after what was told. -/
structure PlaySt (w : World) (g gc : Nat) (Gc : Nat → Prop) (vw : Value) (Bw : Nat) (m : List Pr) (G : Nat → Prop) (l x : List Pr) (vx : Value) (B : Nat) (W : World) : Prop where
  line : LineAt W G g l
  mine : ∀ k, G k → w.heap.size ≤ k
  row : W.ownsRow B 46 2 vx x.length (x.flatMap prV)
  off : ∀ k, vx.ownBlock = some k → ¬ G k
  cline : LineAt W Gc gc m
  coff : ∀ k, Gc k → ¬ G k
  was : W.ownsRow Bw 46 2 vw m.length (m.flatMap prV)
  wasoff : ∀ k, vw.ownBlock = some k → ¬ G k
  below : Below w.heap.size w W
theorem PlaySt.next {w : World} {g gc : Nat} {Gc : Nat → Prop} {vw : Value} {Bw : Nat} {m : List Pr} {G : Nat → Prop} {l x : List Pr} {vx : Value} {B : Nat} {W W' : World}
    (h : PlaySt w g gc Gc vw Bw m G l x vx B W) (b : Below W.heap.size W W') : PlaySt w g gc Gc vw Bw m G l x vx B W' :=
  ⟨h.line.below b, h.mine, owns_below h.row b, h.off, h.cline.below b, h.coff, owns_below h.was b, h.wasoff, nxt h.below b⟩
theorem PlaySt.step {w : World} {g gc : Nat} {Gc : Nat → Prop} {vw : Value} {Bw : Nat} {m : List Pr} {G G' : Nat → Prop} {l l' x : List Pr} {vx : Value} {B : Nat} {W W' : World}
    (h : PlaySt w g gc Gc vw Bw m G l x vx B W) (hL : LineAt W' G' g l') (hG : ∀ k, G' k → G k ∨ W.heap.size ≤ k) (f : Frame G W W') : PlaySt w g gc Gc vw Bw m G' l' x vx B W' :=
  ⟨hL, fun k hk => (hG k hk).elim (h.mine k) (fun hk => Nat.le_trans h.below.size hk), f.owns h.row h.off,
    fun k hk hg => (hG k hg).elim (h.off k hk) (fun h1 => Nat.not_lt.2 h1 (owns_lt h.row k hk)), h.cline.frame f h.coff,
    fun k hk hg => (hG k hg).elim (h.coff k hk) (fun h1 => Nat.not_lt.2 h1 (h.cline.old k hk)), f.owns h.was h.wasoff,
    fun k hk hg => (hG k hg).elim (h.wasoff k hk) (fun h1 => Nat.not_lt.2 h1 (owns_lt h.was k hk)), f.below h.below h.mine h.below.size⟩
theorem PlaySt.fresh {w : World} {g gc : Nat} {Gc : Nat → Prop} {vw : Value} {Bw : Nat} {m : List Pr} {G : Nat → Prop} {l x z : List Pr} {vx vz : Value} {B B' : Nat} {W W' : World}
    (h : PlaySt w g gc Gc vw Bw m G l x vx B W) (b : Below W.heap.size W W') (hB : W.heap.size ≤ B') (r : W'.ownsRow B' 46 2 vz z.length (z.flatMap prV)) : PlaySt w g gc Gc vw Bw m G l z vz B' W' :=
  ⟨h.line.below b, h.mine, r, fun k hk hg => by have := owns_ge r k hk; have := h.line.old k hg; omega, h.cline.below b, h.coff, owns_below h.was b, h.wasoff, nxt h.below b⟩

/-- The errors of a beginning. -/
theorem beginR_code (l : List Pr) (p : Pr) : (beginR l p).1 = 0 ∨ ∃ i, i < 19 ∧ (beginR l p).1 = 101 + i := by
  unfold beginR
  split
  · exact .inr ⟨4, by omega, rfl⟩
  · split
    · exact .inl rfl
    · split
      · exact .inr ⟨13, by omega, rfl⟩
      · split
        · exact .inl rfl
        · split
          · exact .inr ⟨2, by omega, rfl⟩
          · split
            · exact .inr ⟨3, by omega, rfl⟩
            · split
              · exact .inl rfl
              · exact .inl rfl

theorem valid_bad {l : List Pr} (h : valid l ≠ 0) : ∃ i, i < 19 ∧ valid l = 101 + i ∧ valid l - 101 = i := by
  unfold valid at h ⊢
  split
  · exact ⟨3, by omega, rfl, rfl⟩
  · split
    · exact ⟨4, by omega, rfl, rfl⟩
    · split
      · exact ⟨2, by omega, rfl, rfl⟩
      · rename_i h1 h2 h3
        simp [h1, h2, h3] at h

set_option maxRecDepth 100000 in
set_option maxHeartbeats 4000000 in
theorem epochPlays_walk (S : List Nat) (A : Nat → Addr) (p q : List Pr) (ls : List DoE) (vp vl vq : Value) (o t n : Int) (w : World) (hS : Sents S w A) (hall : All S) (hp : Rd w 2 vp p.length (p.flatMap prV)) (hl : Rd w 3 vl ls.length (ls.flatMap doeV)) (hq : Rd w 2 vq q.length (q.flatMap prV)) :
    Calls Tryd.prog 3 #[vp, vl, .int .i64 o, .int .i64 t, .int .i64 n, vq] w (fun e w' => e = .returned (.bool true) ∧ Below w.heap.size w w') := by
  have h2 := hall 2 (by omega)
  have h3 := hall 3 (by omega)
  have h4 := hall 4 (by omega)
  have h13 := hall 13 (by omega)
  obtain ⟨a1, c1, rfl⟩ := hp.slice
  obtain ⟨a2, c2, rfl⟩ := hl.slice
  obtain ⟨a3, c3, rfl⟩ := hq.slice
  have m1 := hp.len_le
  have m2 := hl.len_le
  have m3 := hq.len_le
  have hfst := epoFirst_calls S A w hS h2 h3 h4
  have HS := Lib.hid hS
  have HALL := Lib.hid hall
  clear hS hall
  by_cases tb : 300 < p.length ∨ 40 < ls.length ∨ 30 < q.length
  · go_enter Tryd.func3, Tryd.ntmps3
    go_wp2_with fail
    refine hfst.mono ?_
    rintro e w1 ⟨rfl, b1⟩
    clear hfst
    by_cases t1 : 300 < p.length
    · clear tb
      go_wp2_with fail
      go_ret
      exact ⟨rfl, b1⟩
    · have d1 : decide ((300 : Int) < (p.length : Int)) = false := decide_eq_false (by omega)
      by_cases t2 : 40 < ls.length
      · clear tb
        go_wp2_with fail
        go_ret
        exact ⟨rfl, b1⟩
      · have d2 : decide ((40 : Int) < (ls.length : Int)) = false := decide_eq_false (by omega)
        have t3 : 30 < q.length := by omega
        clear tb
        go_wp2_with fail
        go_ret
        exact ⟨rfl, b1⟩
  have t1 : ¬ 300 < p.length := by omega
  have t2 : ¬ 40 < ls.length := by omega
  have t3 : ¬ 30 < q.length := by omega
  clear tb
  go_enter Tryd.func3, Tryd.ntmps3
  go_wp2_with fail
  refine hfst.mono ?_
  rintro e w1 ⟨rfl, b1⟩
  clear hfst
  go_wp2_with fail
  refine (new_calls S A (HS.out.below b1) h2 h3 h4 (hp.below b1)).mono ?_
  rintro e w2 ⟨hv, b2⟩
  have B2 := nxt b1 b2
  have hvc := refValid_calls (hp.below B2)
  unfold ValidPost at hvc
  rcases hv with ⟨hv, F, g, rfl, hL, hF⟩ | ⟨hv, rfl⟩
  case inr =>
    obtain ⟨i, hi, hvi, hvj⟩ := valid_bad hv
    rw [hvj]
    rw [hvi] at hvc
    have hne : (((101 + i : Nat) : Int) != 0) = true := by rw [bne_iff_ne]; omega
    obtain ⟨E, hE⟩ : ∃ E, E = senV A i := ⟨_, rfl⟩
    obtain ⟨C, hC⟩ : ∃ C : Int, C = ((101 + i : Nat) : Int) := ⟨_, rfl⟩
    rw [← hC] at hvc hne
    have his := fun W (b : Below w.heap.size w W) => is_calls (HS.out.below b) HALL.out E (.bare i) ⟨hi, hE⟩ C
    have hdd : decide ((Er.bare i).code = C ∧ (Er.bare i).has = false ∧ (Er.bare i).pos = 0) = true := decide_eq_true ⟨hC.symm, rfl, rfl⟩
    rw [hdd] at his
    rw [← hE]
    clear hv hvi hvj hE hC hdd
    go_wp2_with fail
    refine hvc.mono ?_
    rintro e w3 ⟨rfl, b3⟩
    have B3 := nxt B2 b3
    go_wp2_with fail
    refine (his _ B3).mono ?_
    rintro e w4 ⟨rfl, b4⟩
    go_wp2_with fail
    go_ret
    exact ⟨rfl, nxt B3 b4⟩
  rw [hv] at hvc
  have hFw : ∀ k, F k → w.heap.size ≤ k := fun k hk => Nat.le_trans b1.size (hF k hk)
  clear hF
  go_wp2_with fail
  refine hvc.mono ?_
  rintro e w3 ⟨rfl, b3⟩
  have B3 := nxt B2 b3
  have L3 := hL.below b3
  have hold3 := L3.old
  clear hvc b2 hL
  go_wp2_with fail
  refine (refPairs_calls _ p w3 (hp.below B3) (by omega)).mono ?_
  rintro e w4 ⟨vx, rfl, rx, b4⟩
  have B4 := nxt B3 b4
  have L4 := L3.below b4
  have hxF : ∀ k, vx.ownBlock = some k → ¬ F k := fun k hk hf => by have := owns_ge rx k hk; have := hold3 k hf; omega
  have HV := Lib.hid hv
  clear L3 hold3 b3 B3 hv
  go_wp2_with fail
  go_loopw [17, 18] (fun xv iv wr => ∃ (J : Int) (m : List Pr) (G : Nat → Prop) (B : Nat), -1 ≤ J ∧ J ≤ (ls.length : Int) ∧ iv = .int .i64 J ∧ Hid (valid m = 0) ∧ LineAt wr G g m ∧ (∀ k, G k → w.heap.size ≤ k) ∧ wr.ownsRow B 46 2 xv m.length (m.flatMap prV) ∧ (∀ k, xv.ownBlock = some k → ¬ G k) ∧ Below w.heap.size w wr) (fun _ iv _ => ((ls.length : Int) - intOf iv).toNat)
  case atStart => exact ⟨-1, p, F, _, by omega, by omega, rfl, HV, L4, hFw, rx, hxF, B4⟩
  case round =>
    clear L4 hxF rx hFw B4 b4 b1 B2 HV
    obtain ⟨J, m, G, B, hJ0, hJ1, rfl, HVM, L, hG, rx, hxG, hb⟩ := hrel
    by_cases hlt : J < (ls.length : Int)
    · obtain ⟨hml, -, hmu⟩ := (valid_iff m).1 HVM.out
      have HMU := Lib.hid hmu
      clear hmu
      have hold := L.old
      go_wp2_with fail
      refine (lclone_calls L (by omega)).mono ?_
      rintro e u1 ⟨⟨Fc, gc, rfl, Lc, hFc⟩, c1'⟩
      go_wp2_with fail
      refine (pairs_calls Lc (by omega)).mono ?_
      rintro e u2 ⟨vw, rfl, rw', c2'⟩
      have st2 : PlaySt w g gc Fc vw u1.heap.size m G m m _ B u2 := ⟨L.below (nxt c1' c2'), hG, owns_below rx (nxt c1' c2'), hxG, Lc.below c2', fun k hk hg => by have := hFc k hk; have := hold k hg; omega, rw',
        fun k hk hg => by have := owns_ge rw' k hk; have := hold k hg; have := c1'.size; omega, nxt (nxt hb c1') c2'⟩
      clear L hG rx hxG hb Lc rw' c1' c2' hold hFc
      by_cases h0 : 0 ≤ J
      case' neg =>
        have hd0 : decide (0 ≤ J) = false := decide_eq_false h0
        obtain rfl : J = -1 := by omega
        have st := Lib.hid st2
        have HV2 := HVM
        clear HMU st2 HVM
        go_wp2_with fail
      case' pos =>
        obtain ⟨k, rfl⟩ : ∃ k : Nat, J = (k : Int) := ⟨J.toNat, by omega⟩
        have hkl : k < ls.length := by omega
        obtain ⟨b', o', rfl, -, -, hx⟩ := (hl.below st2.below).at (by omega)
        obtain ⟨q0, q1, q2⟩ := doe_cells hx k hkl
        clear hx
        generalize ls[k] = d at *
        obtain ⟨kd, ep, sto⟩ := d
        simp only at q0 q1 q2
        have hbl := World.block_lt_of_cell? _ _ q0
        simp only at hbl
        have b3 := below_alloc u2 (.cells #[.int .i64 kd, .int .i64 ep, .int .i64 sto] 36)
        have rowD := heap_alloc_new u2 (.cells #[.int .i64 kd, .int .i64 ep, .int .i64 sto] 36)
        have st3 := st2.next b3
        have hGu : ¬ G u2.heap.size := fun h => Nat.lt_irrefl _ (st2.line.old _ h)
        by_cases hk1 : kd = 1
        case' pos =>
          have kb1 : (kd == 1) = true := by rw [hk1]; rfl
          obtain ⟨R, hR⟩ : ∃ R, R = beginR m ⟨ep, sto⟩ := ⟨_, rfl⟩
          have hcode := beginR_code m ⟨ep, sto⟩
          have hrb := refBegin_calls _ m ⟨ep, sto⟩ _ (Rd.of_owns st3.row) hml
          have hba := fun (W : World) (hW : Sents S W A) (hLW : LineAt W G g m) => begin_all S A hW h2 h3 h4 h13 hLW hml ⟨ep, sto⟩
          have HV2 : Hid (valid R.2 = 0) := Lib.hid (by rw [hR]; exact beginR_valid HVM.out _)
          rw [← hR] at hcode hrb hba
          unfold RBeg at hrb
          unfold BegAll at hba
          simp only at hrb hba
          clear hR HMU hk1 HVM
          go_wp2_with fail
          refine hrb.mono ?_
          rintro e u4 ⟨vy, rfl, hy, b4⟩
          obtain ⟨By, st4⟩ : ∃ By, PlaySt w g gc Fc vw u1.heap.size m G m R.2 vy By u4 := by
            rcases hy with ⟨rfl, e⟩ | ⟨By, hBy, ry⟩
            · rw [e]; exact ⟨_, st3.next b4⟩
            · exact ⟨By, st3.fresh b4 hBy ry⟩
          have rowD4 := heap_below b4 rowD
          have z0 : u4.cell? ⟨u2.heap.size, 0, none⟩ = some (.int .i64 kd) := cell_of_row u4 _ 0 _ _ _ rowD4
          have z1 : u4.cell? ⟨u2.heap.size, 1, none⟩ = some (.int .i64 ep) := cell_of_row u4 _ 1 _ _ _ rowD4
          have z2 : u4.cell? ⟨u2.heap.size, 2, none⟩ = some (.int .i64 sto) := cell_of_row u4 _ 2 _ _ _ rowD4
          clear hrb hy
          go_wp2_with fail
          refine (hba _ (HS.out.below st4.below) st4.line).mono ?_
          rintro e u5 ⟨rfl, G', L5, hG5, f5⟩
          have st5 := st4.step L5 hG5 f5
          have his : Calls Tryd.prog 7 #[if R.1 = 0 then .nilIface else senV A (R.1 - 101), .int .i64 ((R.1 : Nat) : Int)] u5 (fun e w' => e = .returned (.bool true) ∧ Below u5.heap.size u5 w') := by
            rcases hcode with hc | ⟨i, hi, hc⟩
            · have := is_calls (HS.out.below st5.below) HALL.out .nilIface .fine rfl 0
              rw [hc, if_pos rfl]
              exact this
            · have := is_calls (HS.out.below st5.below) HALL.out (senV A i) (.bare i) ⟨hi, rfl⟩ ((101 + i : Nat) : Int)
              rw [decide_eq_true ⟨rfl, rfl, rfl⟩] at this
              rw [hc, if_neg (by omega), show 101 + i - 101 = i by omega]
              exact this
          generalize (if R.1 = 0 then Value.nilIface else senV A (R.1 - 101)) = E at *
          clear hba hcode L5 hG5 f5 z0 z1 z2 rowD4 b4 rowD b3
          go_wp2_with fail
          refine his.mono ?_
          rintro e u6 ⟨rfl, b6⟩
          have st := Lib.hid (st5.next b6)
          clear his st5 st4 st3 st2 b6
          go_wp2_with fail
        case' neg =>
          have kb1 : (kd == 1) = false := by rw [beq_eq_false_iff_ne]; exact hk1
          by_cases hk2 : kd = 2
          case' pos =>
            have kb2 : (kd == 2) = true := by rw [hk2]; rfl
            have HV2 : Hid (valid (cutE sto m) = 0) := Lib.hid (cutE_valid HVM.out _)
            have hcu := cutEnd_calls st3.line HMU.out sto
            have hrc := fun vx W (r : Rd W 2 vx m.length (m.flatMap prV)) => refCutEnd_calls vx m sto W r (by omega)
            generalize cutE sto m = R at *
            clear HMU hk1 hk2 HVM
            unfold CutPost at hcu
            go_wp2_with fail
            refine hcu.mono ?_
            rintro e u4 ⟨rfl, G', L4, hG4, f4⟩
            have st4 := st3.step L4 hG4 f4
            have rowD4 := f4.heap rowD hGu
            have z0 : u4.cell? ⟨u2.heap.size, 0, none⟩ = some (.int .i64 kd) := cell_of_row u4 _ 0 _ _ _ rowD4
            have z1 : u4.cell? ⟨u2.heap.size, 1, none⟩ = some (.int .i64 ep) := cell_of_row u4 _ 1 _ _ _ rowD4
            have z2 : u4.cell? ⟨u2.heap.size, 2, none⟩ = some (.int .i64 sto) := cell_of_row u4 _ 2 _ _ _ rowD4
            clear hcu L4 hG4 f4
            go_wp2_with fail
            refine (hrc _ _ (Rd.of_owns st4.row)).mono ?_
            rintro e u5 ⟨vz, rfl, rz, b5⟩
            have st := Lib.hid (st4.fresh b5 (Nat.le_refl _) rz)
            clear hrc rz b5 st4 st3 st2 rowD4 z0 z1 z2 rowD b3
            go_wp2_with fail
          case' neg =>
            have kb2 : (kd == 2) = false := by rw [beq_eq_false_iff_ne]; exact hk2
            have HV2 : Hid (valid (cutS sto m) = 0) := Lib.hid (cutS_valid HVM.out _)
            have hcu := cutStart_calls st3.line (by omega) sto
            have hrc := fun vx W (r : Rd W 2 vx m.length (m.flatMap prV)) => refCutStart_calls vx m sto W r (by omega) HVM.out
            generalize cutS sto m = R at *
            clear HMU hk1 hk2 HVM
            unfold CutPost at hcu
            go_wp2_with fail
            refine hcu.mono ?_
            rintro e u4 ⟨rfl, G', L4, hG4, f4⟩
            have st4 := st3.step L4 hG4 f4
            have rowD4 := f4.heap rowD hGu
            have z0 : u4.cell? ⟨u2.heap.size, 0, none⟩ = some (.int .i64 kd) := cell_of_row u4 _ 0 _ _ _ rowD4
            have z1 : u4.cell? ⟨u2.heap.size, 1, none⟩ = some (.int .i64 ep) := cell_of_row u4 _ 1 _ _ _ rowD4
            have z2 : u4.cell? ⟨u2.heap.size, 2, none⟩ = some (.int .i64 sto) := cell_of_row u4 _ 2 _ _ _ rowD4
            clear hcu L4 hG4 f4
            go_wp2_with fail
            refine (hrc _ _ (Rd.of_owns st4.row)).mono ?_
            rintro e u5 ⟨vz, rfl, rz, b5⟩
            have st := Lib.hid (st4.fresh b5 (Nat.le_refl _) rz)
            clear hrc rz b5 st4 st3 st2 rowD4 z0 z1 z2 rowD b3
            go_wp2_with fail
      all_goals
        refine (pairs_calls st.out.line (by have := ((valid_iff _).1 HV2.out).1; omega)).mono ?_
        rintro e y1 ⟨v1, rfl, r1, e1⟩
        have s1 := Lib.hid (st.out.next e1)
        have hs1 := samePairs_calls v1 _ _ _ _ (Rd.of_owns r1) (Rd.of_owns s1.out.row)
        rw [decide_eq_true rfl] at hs1
        clear st r1 e1
        go_wp2_with fail
        refine hs1.mono ?_
        rintro e y2 ⟨rfl, e2⟩
        have s2 := Lib.hid (s1.out.next e2)
        clear s1 e2 hs1
        go_wp2_with fail
        refine (pairs_calls s2.out.cline (by omega)).mono ?_
        rintro e y3 ⟨v3, rfl, r3, e3⟩
        have s3 := Lib.hid (s2.out.next e3)
        have hs2 := samePairs_calls v3 _ _ _ _ (Rd.of_owns r3) (Rd.of_owns s3.out.was)
        rw [decide_eq_true rfl] at hs2
        clear s2 r3 e3
        go_wp2_with fail
        refine hs2.mono ?_
        rintro e y4 ⟨rfl, e4⟩
        have s4 := Lib.hid (s3.out.next e4)
        clear s3 e4 hs2
        go_wp2_with fail
        refine (asks_calls S A (HS.out.below s4.out.below) h2 h3 h4 HV2.out s4.out.line (Rd.of_owns s4.out.row) (hq.below s4.out.below) o t n).mono ?_
        rintro e y5 ⟨rfl, e5⟩
        have s5 := s4.out.next e5
        clear s4 e5
        go_wp2_with fail
        exact ⟨⟨_, _, _, _, by omega, by omega, rfl, HV2, s5.line, s5.mine, s5.row, s5.off, s5.below⟩, by simp [intOf] <;> omega⟩
    · have hlt' : decide (J < (ls.length : Int)) = false := decide_eq_false hlt
      clear L hG hxG rx
      go_wp2_with fail
      go_ret
      exact ⟨rfl, hb⟩
end Go.Proofs.YtdlcpcpcojpecaaDoor
