/- The document's lineage: Has. -/
import Derived.Test.YtdlcpcpcojpecaaDoorRefLine2
import Derived.Test.YtdlcpcpcojpecaaDoorRefValidP
import Derived.Test.YtdlcpcpcojpecaaDoorEpoHas
import Derived.BigQuiet
namespace Go.Proofs.YtdlcpcpcojpecaaDoor
open Go Go.RowKit Epo

/-- The last place, of the first so many, where an epoch is this one. -/
def eqK (n : Int) (e : List Pr) : Nat → Int
  | 0 => -1
  | j + 1 => match e[j]? with
    | some m => if m.ep = n then (j : Int) else eqK n e j
    | none => eqK n e j
theorem eqK_next (n : Int) (e : List Pr) (j : Nat) (h : j < e.length) : eqK n e (j + 1) = if e[j].ep = n then (j : Int) else eqK n e j := by
  conv => lhs; unfold eqK
  rw [List.getElem?_eq_getElem h]
theorem eqK_is (n : Int) (e : List Pr) : ∀ j, j ≤ e.length → (eqK n e j = -1 ∧ ∀ k (h : k < e.length), k < j → e[k].ep ≠ n) ∨ ∃ k, ∃ h : k < e.length, k < j ∧ eqK n e j = (k : Int) ∧ e[k].ep = n := by
  intro j
  induction j with
  | zero => intro _; exact .inl ⟨rfl, fun k h hk => by omega⟩
  | succ j ih =>
    intro hj
    rw [eqK_next n e j (by omega)]
    by_cases he : e[j].ep = n
    · rw [if_pos he]
      exact .inr ⟨j, by omega, by omega, rfl, he⟩
    · rw [if_neg he]
      rcases ih (by omega) with ⟨h1, h2⟩ | ⟨k, h1, h2, h3, h4⟩
      · refine .inl ⟨h1, fun k h hk => ?_⟩
        by_cases e2 : k = j
        · subst e2; exact he
        · exact h2 k h (by omega)
      · exact .inr ⟨k, h1, by omega, h3, h4⟩
theorem okRef_at {e : List Pr} (hu : up e = true) {p : Pr} {t : Int} (k : Nat) (hk : k < e.length) (h : e[k].ep = p.ep) : OkRef e p t ↔ (e[k].st ≤ p.st ∧ ∀ h : k + 1 < e.length, t ≤ e[k + 1].st) := by
  constructor
  · rintro ⟨j, hj, h1, h2, h3⟩
    have : j = k := by
      rcases Nat.lt_trichotomy j k with g | g | g
      · have := (up_lt e hu j k g hk).1; omega
      · exact g
      · have := (up_lt e hu k j g hj).1; omega
    subst this
    exact ⟨h2, h3⟩
  · rintro ⟨h2, h3⟩
    exact ⟨k, hk, h, h2, h3⟩
theorem hasP_iff {e l : List Pr} (hu : up e = true) {en wh : Int} : HasP e l en wh ↔ (valid l = 0 ∧ (∃ q, l.getLast? = some q ∧ q.st < en) ∧ en ≤ wh ∧ ∀ i (hi : i < l.length), OkRef e l[i] (toAt en l i)) := by
  constructor
  · rintro ⟨h1, h2, h3, h4⟩
    exact ⟨h1, h2, h3, fun i hi => (okRef_iff hu (toAt_lt ((valid_iff l).1 h1).2.2 h2 i hi)).1 (h4 i hi)⟩
  · rintro ⟨h1, h2, h3, h4⟩
    exact ⟨h1, h2, h3, fun i hi => (okRef_iff hu (toAt_lt ((valid_iff l).1 h1).2.2 h2 i hi)).2 (h4 i hi)⟩

set_option maxRecDepth 100000 in
set_option maxHeartbeats 4000000 in
theorem refHas_calls {w : World} {e l : List Pr} {ve v : Value} (hu : up e = true) (he : Rd w 2 ve e.length (e.flatMap prV)) (hp : Rd w 2 v l.length (l.flatMap prV)) (en wh : Int) :
    Calls Tryd.prog 38 #[ve, v, .int .i64 en, .int .i64 wh] w (HasPost e l en wh w) := by
  obtain ⟨a1, c1, rfl⟩ := hp.slice
  obtain ⟨a2, c2, rfl⟩ := he.slice
  have m1 := hp.len_le
  have m2 := he.len_le
  have hn := refValid_calls hp
  unfold ValidPost at hn
  have hiff := hasP_iff (e := e) (l := l) (en := en) (wh := wh) hu
  by_cases hvz : valid l = 0
  case neg =>
    have HN := Lib.hid (show ¬ HasP e l en wh from fun h => hvz h.1)
    have hz1 : ((((valid l : Nat) : Int)) != 0) = true := by rw [bne_iff_ne]; omega
    generalize valid l = V at *
    clear hiff
    go_enter Tryd.func38, Tryd.ntmps38
    go_wp2_with fail
    refine hn.mono ?_
    rintro r w1 ⟨rfl, b1⟩
    go_wp2_with fail
    go_ret
    exact HasPost.no HN.out b1
  rw [hvz] at hn
  rcases Nat.eq_zero_or_pos l.length with h0 | h0
  · have HN := Lib.hid (show ¬ HasP e l en wh by
      rintro ⟨_, ⟨q, hq, _⟩, _⟩
      rw [List.eq_nil_of_length_eq_zero h0] at hq; cases hq)
    rw [h0] at hn ⊢
    clear hiff hvz
    go_enter Tryd.func38, Tryd.ntmps38
    go_wp2_with fail
    refine hn.mono ?_
    rintro r w1 ⟨rfl, b1⟩
    go_wp2_with fail
    go_ret
    exact HasPost.no HN.out b1
  obtain ⟨m, hm⟩ : ∃ m, l.length = m + 1 := ⟨l.length - 1, by omega⟩
  have hml : m < l.length := by omega
  have hgl : l.getLast? = some l[m] := by rw [List.getLast?_eq_getElem?, show l.length - 1 = m by omega, List.getElem?_eq_getElem hml]
  have hs1 : IntKind.i64.wrap ((l.length : Int) - 1) = (m : Int) := by rw [IntKind.wrap_i64]; omega
  have hl0 : ((l.length : Int) == 0) = false := by rw [beq_eq_false_iff_ne]; omega
  obtain ⟨y, hy⟩ : ∃ y, y = l[m] := ⟨_, rfl⟩
  rw [← hy] at hgl
  have HGL := Lib.hid hgl
  have HIF := Lib.hid hiff
  have HVZ := Lib.hid hvz
  have HY := Lib.hid hy
  have HU := Lib.hid hu
  have HM := Lib.hid hm
  clear hgl hiff hvz hy hu hm
  go_enter Tryd.func38, Tryd.ntmps38
  go_wp2_with fail
  refine hn.mono ?_
  rintro r w1 ⟨rfl, b1⟩
  clear hn
  obtain ⟨b, o, rfl, _, _, hx1⟩ := (hp.below b1).at h0
  obtain ⟨q0, q1⟩ := pr_cells hx1 m hml
  rw [← HY.out] at q0 q1
  clear hx1
  by_cases t1 : en ≤ y.st
  · have HN := Lib.hid (show ¬ HasP e l en wh by
      rintro ⟨_, ⟨q, hq, h5⟩, _⟩
      rw [HGL.out] at hq; cases hq; omega)
    have hd : decide (en ≤ y.st) = true := decide_eq_true t1
    go_wp2_with fail
    go_ret
    exact HasPost.no HN.out b1
  have hd1 : decide (en ≤ y.st) = false := decide_eq_false t1
  by_cases t2 : wh < en
  · have HN := Lib.hid (show ¬ HasP e l en wh by
      rintro ⟨_, _, h5, _⟩; omega)
    have hd2 : decide (wh < en) = true := decide_eq_true t2
    go_wp2_with fail
    go_ret
    exact HasPost.no HN.out b1
  have hd2 : decide (wh < en) = false := decide_eq_false t2
  go_wp2_with fail
  go_loopw [9] (fun iv wr => ∃ i : Nat, i ≤ l.length ∧ iv = .int .i64 i ∧ (∀ j (hj : j < l.length), j < i → OkRef e l[j] (toAt en l j)) ∧ Below w.heap.size w wr) (fun iv _ => l.length - (intOf iv).toNat)
  case atStart => exact ⟨0, Nat.zero_le _, rfl, fun j _ hj => by omega, b1⟩
  case round =>
    obtain ⟨i, hi, rfl, hs, hb⟩ := hrel
    rename World => w0
    have HSS := Lib.hid hs
    clear hs q0 q1 hs1
    by_cases hlt : i < l.length
    · obtain ⟨b', o', hh, _, _, hx1⟩ := (hp.below hb).at h0
      simp only [Option.some.injEq, Addr.mk.injEq] at hh
      obtain ⟨rfl, rfl, _⟩ := hh
      obtain ⟨q0, q1⟩ := pr_cells hx1 i hlt
      have HNX := Lib.hid (show OkRef e l[i] (toAt en l i) → ∀ j (hj : j < l.length), j < i + 1 → OkRef e l[j] (toAt en l j) from fun h5 j hj hji => by
        by_cases hji2 : j = i
        · subst hji2; exact h5
        · exact HSS.out j hj (by omega))
      have HNO := Lib.hid (show ¬ OkRef e l[i] (toAt en l i) → ¬ HasP e l en wh from fun h5 h6 => h5 ((HIF.out.1 h6).2.2.2 i hlt))
      obtain ⟨T, hT⟩ : ∃ T, T = toAt en l i := ⟨_, rfl⟩
      rw [← hT] at HNX HNO
      by_cases h1 : i + 1 < l.length
      case' pos =>
        obtain ⟨p0, p1⟩ := pr_cells hx1 (i + 1) h1
        have hT2 : T = l[i + 1].st := by rw [hT]; unfold toAt; rw [List.getElem?_eq_getElem h1]
        rw [← hT2] at p1
        clear p0 hT2 hT
        have i1 : ((i : Int) + 1).toNat = i + 1 := by omega
      case' neg =>
        have hT2 : T = en := by rw [hT]; unfold toAt; rw [List.getElem?_eq_none (by omega)]
        clear hT
        subst hT2
      all_goals
        generalize l[i] = p at *
        obtain ⟨ep, st⟩ := p
        simp only at q0 q1
        clear hx1
        go_wp2_with fail
        have Q0 : ∀ W, Below w0.heap.size w0 W → W.cell? ⟨b, o + i * 2, none⟩ = some (.int .i64 ep) := fun W bw => by rw [bw.cell (World.block_lt_of_cell? _ _ q0)]; exact q0
        have Q1 : ∀ W, Below w0.heap.size w0 W → W.cell? ⟨b, o + i * 2 + 1, none⟩ = some (.int .i64 st) := fun W bw => by rw [bw.cell (World.block_lt_of_cell? _ _ q1)]; exact q1
        have he0 := he.below hb
        have hiN : (i : Int).toNat = i := Int.toNat_natCast i
        clear q0 q1
        go_loopw [11, 12] (fun kv jv wr => ∃ j : Nat, j ≤ e.length ∧ jv = .int .i64 j ∧ kv = .int .i64 (eqK ep e j) ∧ Below w0.heap.size w0 wr) (fun _ jv _ => e.length - (intOf jv).toNat)
        case atStart => exact ⟨0, Nat.zero_le _, rfl, rfl, Below.refl _ _⟩
        case round =>
          obtain ⟨j, hj, rfl, rfl, hb2⟩ := hrel
          have B2 := nxt hb hb2
          have q0 := Q0 _ hb2
          have q1 := Q1 _ hb2
          by_cases hlt2 : j < e.length
          · obtain ⟨be, oe, rfl, _, _, hxe⟩ := (he0.below hb2).at (by omega)
            obtain ⟨f0, _⟩ := pr_cells hxe j hlt2
            have hK := Lib.hid (eqK_next ep e j hlt2)
            generalize e[j].ep = x at *
            generalize eqK ep e j = K at *
            clear hxe
            by_cases hq : x = ep
            · have hqb : (x == ep) = true := by rw [hq]; exact beq_self_eq_true _
              have HK := Lib.hid (hK.out.trans (if_pos hq))
              clear hK hq
              go_wp2_with fail
              go_quiet (fail)
              go_wp2_with fail
              exact ⟨⟨j + 1, by omega, by go_num, by rw [HK.out], below_drewN hb2 _⟩, by simp [intOf]; omega⟩
            · have hqb : (x == ep) = false := by rw [beq_eq_false_iff_ne]; exact hq
              have HK := Lib.hid (hK.out.trans (if_neg hq))
              clear hK hq
              go_wp2_with fail
              go_quiet (fail)
              go_wp2_with fail
              exact ⟨⟨j + 1, by omega, by go_num, by rw [HK.out], below_drewN hb2 _⟩, by simp [intOf]; omega⟩
          · obtain rfl : j = e.length := by omega
            rcases eqK_is ep e e.length (Nat.le_refl _) with ⟨hK, hno⟩ | ⟨k, hk, -, hK, hep⟩
            · have HN := Lib.hid (HNO.out (by
                rintro ⟨k, hk, h5, -⟩
                exact hno k hk hk h5))
              rw [hK]
              clear hK hno
              go_wp2_with fail
              go_quiet (fail)
              go_wp2_with fail
              go_ret
              exact HasPost.no HN.out (below_drewN B2 _)
            · obtain ⟨be, oe, rfl, _, _, hxe⟩ := (he0.below hb2).at (by omega)
              obtain ⟨_, f1⟩ := pr_cells hxe k hk
              have HIFF := Lib.hid (okRef_at (p := ⟨ep, st⟩) (t := T) HU.out k hk hep)
              rw [hK]
              clear hK hep
              generalize e[k].st = x at *
              have hd0 : decide ((k : Int) < 0) = false := decide_eq_false (by omega)
              have hs2 : IntKind.i64.wrap ((k : Int) + 1) = (k : Int) + 1 := by rw [IntKind.wrap_i64]; omega
              by_cases hst : st < x
              · have hd1 : decide (st < x) = true := decide_eq_true hst
                have HN := Lib.hid (HNO.out (fun h5 => by have := (HIFF.out.1 h5).1; simp only at this; omega))
                clear hxe
                go_wp2_with fail
                go_quiet (fail)
                go_wp2_with fail
                go_ret
                exact HasPost.no HN.out (below_drewN B2 _)
              · have hd1 : decide (st < x) = false := decide_eq_false hst
                by_cases hk1 : k + 1 < e.length
                · obtain ⟨_, g1⟩ := pr_cells hxe (k + 1) hk1
                  have HZ := Lib.hid (show OkRef e ⟨ep, st⟩ T ↔ T ≤ e[k + 1].st from ⟨fun h5 => (HIFF.out.1 h5).2 hk1, fun h5 => HIFF.out.2 ⟨by simp only; omega, fun _ => h5⟩⟩)
                  generalize e[k + 1].st = z at *
                  have hd1' : decide ((k : Int) + 1 < (e.length : Int)) = true := decide_eq_true (by omega)
                  have k1 : ((k : Int) + 1).toNat = k + 1 := by omega
                  clear hxe
                  by_cases hz : z < T
                  · have hd2' : decide (z < T) = true := decide_eq_true hz
                    have HN := Lib.hid (HNO.out (fun h5 => by have := HZ.out.1 h5; omega))
                    go_wp2_with fail
                    go_quiet (fail)
                    go_wp2_with fail
                    go_ret
                    exact HasPost.no HN.out (below_drewN B2 _)
                  · have hd2' : decide (z < T) = false := decide_eq_false hz
                    have HN := Lib.hid (HNX.out (HZ.out.2 (by omega)))
                    go_wp2_with fail
                    go_quiet (fail)
                    go_wp2_with fail
                    exact ⟨⟨i + 1, by omega, by go_num, HN.out, below_drewN B2 _⟩, by simp [intOf]; omega⟩
                · have hd1' : decide ((k : Int) + 1 < (e.length : Int)) = false := decide_eq_false (by omega)
                  have HN := Lib.hid (HNX.out (HIFF.out.2 ⟨by simp only; omega, fun h5 => absurd h5 hk1⟩))
                  clear hxe
                  go_wp2_with fail
                  go_quiet (fail)
                  go_wp2_with fail
                  exact ⟨⟨i + 1, by omega, by go_num, HN.out, below_drewN B2 _⟩, by simp [intOf]; omega⟩
    · have HYES := Lib.hid (show HasP e l en wh from HIF.out.2 ⟨HVZ.out, ⟨y, HGL.out, by omega⟩, by omega, fun j hj => HSS.out j hj (by omega)⟩)
      go_wp2_with fail
      go_ret
      exact ⟨true, rfl, ⟨fun _ => HYES.out, fun _ => rfl⟩, hb⟩
end Go.Proofs.YtdlcpcpcojpecaaDoor
