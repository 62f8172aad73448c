/- EpochSpans returns true at every input. -/
import Derived.Test.YtjhebnjajnjhhaaDoorEpoSpan
import Derived.Test.YtjhebnjajnjhhaaDoorEpoHas
import Derived.Test.YtjhebnjajnjhhaaDoorSpansMath
import Derived.Test.YtjhebnjajnjhhaaDoorEpoCutEnd
import Derived.Test.YtjhebnjajnjhhaaDoorEpoClone
import Derived.Test.YtjhebnjajnjhhaaDoorEpoEnd
import Derived.Test.YtjhebnjajnjhhaaDoorEpoLast
import Derived.Test.YtjhebnjajnjhhaaDoorEpoAsk
import Derived.Test.YtjhebnjajnjhhaaDoorEpoBegin
import Derived.Test.YtjhebnjajnjhhaaDoorSamePairs
import Derived.Test.YtjhebnjajnjhhaaDoorRefPairCopy
import Derived.Test.YtjhebnjajnjhhaaDoorAppend
import Derived.Test.YtjhebnjajnjhhaaDoorLong
import Derived.Deep.DeepCutAuto
import Derived.Deep.CutBlock
namespace Go.Proofs.YtjhebnjajnjhhaaDoor
open Go Go.RowKit Epo

theorem LineAt.old {w : World} {F : Nat → Prop} {g : Nat} {l : List Pr} (h : LineAt w F g l) : ∀ k, F k → k < w.heap.size := by obtain ⟨_, h⟩ := h; exact h.old
/-- Another one's blocks have turned. -/
theorem LineAt.frame {w w1 : World} {F G : Nat → Prop} {g : Nat} {l : List Pr} (h : LineAt w F g l) (f : Frame G w w1) (hd : ∀ k, F k → ¬ G k) : LineAt w1 F g l := by
  obtain ⟨v, h⟩ := h
  exact ⟨v, h.mine, fun k hk => Nat.lt_of_lt_of_le (h.old k hk) f.size, f.heap h.row (hd g h.mine), f.owns h.pairs (fun k hk => hd k (h.inP k hk)), h.inP⟩

theorem has_yes (S : List Nat) (A : Nat → Addr) {w : World} {F : Nat → Prop} {g : Nat} {e l : List Pr} {v : Value} (hS : Sents S w A) (h2 : 2 ∈ S) (h3 : 3 ∈ S) (h4 : 4 ∈ S) (h : LineAt w F g e) (hp : Rd w 2 v l.length (l.flatMap prV)) (en wh : Int) (hy : HasP e l en wh) :
    Calls Tryd.prog 45 #[.pointer (some ⟨g, 0, none⟩), v, .int .i64 en, .int .i64 wh] w (fun r w' => r = .returned (.bool true) ∧ Below w.heap.size w w') := by
  refine (has_calls S A hS h2 h3 h4 h hp en wh).mono ?_
  rintro r w' ⟨b, rfl, hb, bel⟩
  rw [hb.2 hy]
  exact ⟨rfl, bel⟩
theorem has_no (S : List Nat) (A : Nat → Addr) {w : World} {F : Nat → Prop} {g : Nat} {e l : List Pr} {v : Value} (hS : Sents S w A) (h2 : 2 ∈ S) (h3 : 3 ∈ S) (h4 : 4 ∈ S) (h : LineAt w F g e) (hp : Rd w 2 v l.length (l.flatMap prV)) (en wh : Int) (hy : ¬ HasP e l en wh) :
    Calls Tryd.prog 45 #[.pointer (some ⟨g, 0, none⟩), v, .int .i64 en, .int .i64 wh] w (fun r w' => r = .returned (.bool false) ∧ Below w.heap.size w w') := by
  refine (has_calls S A hS h2 h3 h4 h hp en wh).mono ?_
  rintro r w' ⟨b, rfl, hb, bel⟩
  cases b
  · exact ⟨rfl, bel⟩
  · exact absurd (hb.1 rfl) hy

theorem run_rest2 {P : Program} (t : TypeId) (ht : P.underlying t = some (.slice (P.elem t))) (sz : Nat) (hsz : (P.info? (P.elem t)).map (·.size) = some sz) (ad : Option Addr) (n c l : Nat) (k : IntKind) (hl : l ≤ n) :
    ∃ a' c', (∀ W, (Instr.sliceAt t (.slice ad n c) (some (.int k (l : Int))) none none).run P W = .ok (.slice a' (n - l) c') W) ∧
      ∀ w0 xs, Rd w0 sz (.slice ad n c) n xs → Rd w0 sz (.slice a' (n - l) c') (n - l) (xs.drop (l * sz)) := by
  obtain ⟨a', c', e, r⟩ := part_all ad n c sz l n hl (Nat.le_refl _)
  refine ⟨a', c', fun W => ?_, fun w0 xs h => ?_⟩
  · rw [run_cut_l t ht sz hsz ad n c l k hl W, e]
  · have := r w0 xs h
    rwa [List.take_of_length_le (by rw [List.length_drop, h.1, ← Nat.sub_mul]; exact Nat.le_refl _)] at this

theorem last_ep {l : List Pr} (hu : up l = true) {q : Pr} (hq : l.getLast? = some q) : ∀ p ∈ l, p.ep ≤ q.ep := by
  intro p hp
  obtain ⟨i, hi, rfl⟩ := List.getElem_of_mem hp
  have h0 : l.length - 1 < l.length := by omega
  rw [List.getLast?_eq_getElem?, List.getElem?_eq_getElem h0] at hq
  obtain rfl := Option.some.inj hq
  by_cases e : i = l.length - 1
  · subst e; exact Int.le_refl _
  · have := up_lt l hu i (l.length - 1) (by omega) h0
    omega

set_option maxRecDepth 100000 in
set_option maxHeartbeats 4000000 in
theorem epochSpans_walk (S : List Nat) (A : Nat → Addr) (l : List Pr) (v : Value) (zf zm zt zw : Int) (w : World) (hS : Sents S w A) (h2 : 2 ∈ S) (h3 : 3 ∈ S) (h4 : 4 ∈ S) (hp : Rd w 2 v l.length (l.flatMap prV)) :
    Calls Tryd.prog 10 #[v, .int .i64 zf, .int .i64 zm, .int .i64 zt, .int .i64 zw] w (fun e w' => e = .returned (.bool true) ∧ Below w.heap.size w w') := by
  obtain ⟨i0, hi, hz0, hz1, hz2⟩ := info_parts info_pair
  obtain ⟨a1, c1, rfl⟩ := hp.slice
  have m1 := hp.len_le
  have hfst := epoFirst_calls S A w hS h2 h3 h4
  go_enter Tryd.func10, Tryd.ntmps10
  go_wp2_with fail
  refine hfst.mono ?_
  rintro e w1 ⟨rfl, b1⟩
  have hn := new_calls S A (hS.below b1) h2 h3 h4 (hp.below b1)
  clear hfst
  go_wp2_with fail
  refine hn.mono ?_
  rintro e w2 ⟨hv, b2⟩
  have B2 := nxt b1 b2
  clear hn b2
  unfold senV at hv
  rcases hv with ⟨hv, F, g, rfl, hl, hF⟩ | ⟨hv, rfl⟩
  · have HV := Lib.hid hv
    clear hv
    by_cases t1 : 30 < l.length
    · go_wp2_with fail
      go_ret
      exact ⟨rfl, B2⟩
    · have t1' : decide ((30 : Int) < (l.length : Int)) = false := decide_eq_false (by omega)
      go_wp2_with fail
      refine (long_calls zf 549755813888 _ (by omega) (by omega)).mono ?_
      rintro e wx ⟨rfl, rfl⟩
      obtain ⟨f, hf, hf0, hf1⟩ : ∃ a, a = zf % 549755813888 ∧ 0 ≤ a ∧ a < 549755813888 := ⟨_, rfl, by omega, by omega⟩
      rw [← hf]
      clear hf
      go_wp2_with fail
      refine (long_calls zm 1048576 _ (by omega) (by omega)).mono ?_
      rintro e wx ⟨rfl, rfl⟩
      obtain ⟨dm, hdm, hdm0, hdm1⟩ : ∃ a, a = zm % 1048576 ∧ 0 ≤ a ∧ a < 1048576 := ⟨_, rfl, by omega, by omega⟩
      rw [← hdm]
      clear hdm
      go_wp2_with fail
      refine (long_calls zt 1048576 _ (by omega) (by omega)).mono ?_
      rintro e wx ⟨rfl, rfl⟩
      obtain ⟨dt, hdt, hdt0, hdt1⟩ : ∃ a, a = zt % 1048576 ∧ 0 ≤ a ∧ a < 1048576 := ⟨_, rfl, by omega, by omega⟩
      rw [← hdt]
      clear hdt
      go_wp2_with fail
      obtain ⟨m, hm⟩ : ∃ m, m = f + dm + 1 := ⟨_, rfl⟩
      rw [← hm]
      obtain ⟨t, ht⟩ : ∃ t, t = m + dt + 1 := ⟨_, rfl⟩
      rw [← ht]
      have hfm : f < m := by omega
      have hmt : m < t := by omega
      have ht1 : t ≤ 1099511627776 - 1 := by omega
      clear hm ht hdm0 hdm1 hdt0 hdt1
      refine (span_calls hl (by omega) f m).mono ?_
      rintro e w3 ⟨va, rfl, oa, b3⟩
      have B3 := nxt B2 b3
      have ra := Rd.of_owns oa
      obtain ⟨aa, ca, rfl⟩ := owns_slice oa
      have l3 := hl.below b3
      go_wp2_with fail
      refine (span_calls l3 (by omega) m t).mono ?_
      rintro e w4 ⟨vb, rfl, ob, b4⟩
      have B4 := nxt B3 b4
      have rb := Rd.of_owns ob
      obtain ⟨ab, cb, rfl⟩ := owns_slice ob
      have l4 := l3.below b4
      have ra4 := ra.below b4
      go_wp2_with fail
      refine (span_calls l4 (by omega) f t).mono ?_
      rintro e w5 ⟨vc, rfl, oc, b5⟩
      have B5 := nxt B4 b5
      have rc := Rd.of_owns oc
      obtain ⟨ac, cc, rfl⟩ := owns_slice oc
      have l5 := l4.below b5
      have ra5 := ra4.below b5
      have rb5 := rb.below b5
      clear hl l3 l4 ra ra4 rb oa ob oc
      obtain ⟨h6, h7, hup⟩ := (valid_iff l).1 HV.out
      have hmeet := span_meet f m t hfm hmt l hup
      have hlena := span_len f m l
      have hlenb := span_len m t l
      have hlenc := span_len f t l
      have hyes := fun w (hw : t ≤ w) (hne : span f t l ≠ []) => span_has HV.out f t w hf0 (by omega) hw hne
      have hnot := fun (hne : span f t l ≠ []) n (hn : ∀ p ∈ l, p.ep ≤ n) w => span_not f t hne n hn w
      generalize span f m l = la at *
      generalize span f t l = lc at *
      obtain ⟨lb', hcat, hmeet⟩ := hmeet
      have HY := Lib.hid hyes
      have HN := Lib.hid hnot
      have HCAT := Lib.hid hcat
      have HUP := Lib.hid hup
      have HR := Lib.hid h7
      clear hyes hnot hcat hup h7
      have mla := ra5.len_le
      have mlb := rb5.len_le
      rcases hmeet with ⟨hbe, hdiff⟩ | ⟨x, y, hx, hy, hxy⟩
      case' inl =>
        rw [hbe] at rb5 mlb ⊢
        clear hbe
        have HD := Lib.hid hdiff
        clear hdiff
        go_upto_region 13 with fail
        go_cut [87] (fun z wx => z = .bool false ∧ Below w5.heap.size w5 wx)
        case first =>
          rcases Nat.eq_zero_or_pos la.length with h0 | h0
          · have hd : decide (0 < la.length) = false := decide_eq_false (by omega)
            clear h0
            go_wp2_with fail
            go_quiet (fail)
            go_wp2_with fail
            go_meet
            exact ⟨rfl, below_drewN (Below.refl _ _) _⟩
          · rcases Nat.eq_zero_or_pos lb'.length with h1 | h1
            · have hd0 : decide (0 < la.length) = true := decide_eq_true (by omega)
              have hd : decide (0 < lb'.length) = false := decide_eq_false (by omega)
              clear h1
              go_wp2_with fail
              go_quiet (fail)
              go_wp2_with fail
              go_meet
              exact ⟨rfl, below_drewN (Below.refl _ _) _⟩
            · obtain ⟨k, hk⟩ : ∃ k, la.length = k + 1 := ⟨la.length - 1, by omega⟩
              obtain ⟨ba, oa, rfl, _, _, hxa⟩ := ra5.at h0
              obtain ⟨qa0, qa1⟩ := pr_cells hxa k (by omega)
              obtain ⟨bb, ob, rfl, _, _, hxb⟩ := rb5.at h1
              obtain ⟨qb0, qb1⟩ := pr_cells hxb 0 h1
              have hne := HD.out la[k] lb'[0] (by rw [List.getLast?_eq_getElem?, show la.length - 1 = k by omega, List.getElem?_eq_getElem (by omega)]) (by rw [List.head?_eq_getElem?, List.getElem?_eq_getElem h1])
              generalize la[k] = x at *
              generalize lb'[0] = y at *
              simp only [Nat.zero_mul, Nat.add_zero] at qb0 qb1
              have hs1 : IntKind.i64.wrap ((la.length : Int) - 1) = (k : Int) := by rw [IntKind.wrap_i64]; omega
              have hd0 : decide (0 < la.length) = true := decide_eq_true (by omega)
              have hd1 : decide (0 < lb'.length) = true := decide_eq_true (by omega)
              have hd : (x.ep == y.ep) = false := by rw [beq_eq_false_iff_ne]; exact hne
              have hkl : k < la.length := by omega
              clear hxa hxb hk
              go_wp2_with fail
              go_quiet (fail)
              go_wp2_with fail
              go_meet
              exact ⟨rfl, below_drewN (Below.refl _ _) _⟩
        obtain ⟨rfl, bc⟩ := hcut
        have rb := rb5.below bc
        clear HD
        go_wp2_with fail
      case' inr =>
        rw [hy] at rb5 mlb ⊢
        have h0 : 0 < la.length := List.length_pos_iff.2 (fun e => by rw [e] at hx; simp at hx)
        have q0 : 0 < (y :: lb').length := by simp
        have hy0 : (y :: lb')[0]'q0 = y := rfl
        have hdr : ((y :: lb').flatMap prV).drop (1 * 2) = lb'.flatMap prV := by simp [prV]
        have hM' : (y :: lb').length - 1 = lb'.length := by simp
        generalize hLB : y :: lb' = lb at *
        obtain ⟨a', c', es, er⟩ := run_rest2 43 sl_pair 2 sz_pair ab lb.length cb 1 .i64 q0
        have er6 : ∀ W, Below w5.heap.size w5 W → Rd W 2 (.slice a' (lb.length - 1) c') lb'.length (lb'.flatMap prV) := fun W hW => by
          have er5 := er W _ (rb5.below hW)
          rw [hdr, hM'] at er5
          rw [hM']
          exact er5
        rw [hM'] at es er6
        have es1 : ∀ W, (Instr.sliceAt 43 (.slice ab lb.length cb) (some (.int .i64 1)) none none).run Tryd.prog W = .ok (.slice a' lb'.length c') W := es
        have hd1 : decide (0 < lb.length) = true := decide_eq_true q0
        clear er es hM' hdr hLB
        go_upto_region 13 with fail
        go_cut [87] (fun z wx => z = .bool true ∧ Below w5.heap.size w5 wx)
        case first =>
          obtain ⟨k, hk⟩ : ∃ k, la.length = k + 1 := ⟨la.length - 1, by omega⟩
          obtain ⟨ba, oa, rfl, _, _, hxa⟩ := ra5.at h0
          obtain ⟨qa0, qa1⟩ := pr_cells hxa k (by omega)
          obtain ⟨bb, ob, rfl, _, _, hxb⟩ := rb5.at q0
          obtain ⟨qb0, qb1⟩ := pr_cells hxb 0 q0
          rw [hy0] at qb0 qb1
          simp only [Nat.zero_mul, Nat.add_zero] at qb0 qb1
          have hxe : la[k] = x := by
            rw [List.getLast?_eq_getElem?, show la.length - 1 = k by omega, List.getElem?_eq_getElem (by omega)] at hx
            exact Option.some.inj hx
          rw [hxe] at qa0 qa1
          have hs1 : IntKind.i64.wrap ((la.length : Int) - 1) = (k : Int) := by rw [IntKind.wrap_i64]; omega
          have hd0 : decide (0 < la.length) = true := decide_eq_true (by omega)
          have hd : (x.ep == y.ep) = true := by rw [beq_iff_eq]; exact hxy
          have hkl : k < la.length := by omega
          have HX := Lib.hid hx
          clear hxa hxb hk hxe hx hy hxy hy0
          go_wp2_with fail
          go_quiet (fail)
          go_wp2_with fail
          go_meet
          exact ⟨rfl, below_drewN (Below.refl _ _) _⟩
        obtain ⟨rfl, bc⟩ := hcut
        have rb := er6 _ bc
        clear hx hy hxy er6 h0 hd1 hy0
        go_wp2_with fail
      all_goals
        have BC := nxt B5 bc
        have ra' := ra5.below bc
        have rcc := rc.below bc
        have lC := l5.below bc
        have hsum : la.length + lb'.length ≤ 30 := by
          have := congrArg List.length HCAT.out
          rw [List.length_append] at this
          omega
        clear ra5 rb5 rc l5 bc B5
        refine (refPairs_calls _ la wc ra' (by omega)).mono ?_
        rintro e w6 ⟨v6, rfl, o6, b6⟩
        have rb6 := rb.below b6
        go_wp2_with (at_builtin; go_loud (refine wpList_append_rd rfl _ _ 43 rfl wc.heap.size 50 i0 (.agg #[.int .i64 0, .int .i64 0]) 2 16 Tryd.underlying43 hi hz0 hz1 hz2 rfl (by decide) _ _ _ rfl o6 _ lb'.length (lb'.flatMap prV) rfl rb6 ?c1 ?c2 ?c3 ?c4 ?_))
        case c1 =>
          intro u hu
          obtain ⟨p, _, hu⟩ := List.mem_flatMap.1 hu
          unfold prV at hu
          simp at hu
          rcases hu with rfl | rfl <;> rfl
        case c2 => unfold maxLen; omega
        case c3 => omega
        case c4 => exact b6.size
        intro v7 w7 o7 hb7
        have b7 := hb7 wc b6 (Nat.le_refl _)
        have r7 : Rd w7 2 v7 lc.length (lc.flatMap prV) := by
          have := Rd.of_owns o7
          rwa [← List.flatMap_append, ← List.length_append, HCAT.out] at this
        have rc7 := rcc.below b7
        have l7 := lC.below b7
        have B7 := nxt BC b7
        clear o7 hb7 b7 rb6 b6 o6 rcc lC ra' rb
        go_wp2_with fail
        refine (samePairs_calls v7 _ lc lc w7 r7 rc7).mono ?_
        rintro e w8 ⟨he, b8⟩
        rw [decide_eq_true rfl] at he
        subst he
        have rc8 := rc7.below b8
        have l8 := l7.below b8
        have B8 := nxt B7 b8
        clear r7 rc7 l7 b8 B7 BC HCAT hsum
        by_cases h0 : lc.length = 0
        · have hd : ((lc.length : Int) == 0) = true := by rw [h0]; rfl
          have HNIL := Lib.hid (List.eq_nil_of_length_eq_zero h0)
          clear h0
          go_wp2_with fail
          refine (has_no S A (hS.below B8) h2 h3 h4 l8 rc8 t t (fun ⟨_, ⟨q, hq, _⟩, _⟩ => by rw [HNIL.out] at hq; simp at hq)).mono ?_
          rintro e w9 ⟨rfl, b9⟩
          go_wp2_with fail
          go_ret
          exact ⟨rfl, nxt B8 b9⟩
        · have hd : ((lc.length : Int) == 0) = false := by rw [beq_eq_false_iff_ne]; omega
          have HNE := Lib.hid (fun e : lc = [] => h0 (by rw [e]; rfl))
          have hl0 : 0 < l.length := by omega
          go_wp2_with fail
          refine (long_calls zw 100 _ (by omega) (by omega)).mono ?_
          rintro e wx ⟨rfl, rfl⟩
          obtain ⟨z, hz, hz0', hz1'⟩ : ∃ a, a = zw % 100 ∧ 0 ≤ a ∧ a < 100 := ⟨_, rfl, by omega, by omega⟩
          rw [← hz]
          clear hz h0
          go_wp2_with fail
          refine (has_yes S A (hS.below B8) h2 h3 h4 l8 rc8 t (t + z) (HY.out (t + z) (by omega) HNE.out)).mono ?_
          rintro e w9 ⟨rfl, b9⟩
          have B9 := nxt B8 b9
          have l9 := l8.below b9
          have rc9 := rc8.below b9
          clear b9 B8 l8 rc8
          go_wp2_with fail
          refine (has_no S A (hS.below B9) h2 h3 h4 l9 rc9 t (t - 1) (fun ⟨_, _, h, _⟩ => by omega)).mono ?_
          rintro e w10 ⟨rfl, b10⟩
          have B10 := nxt B9 b10
          have l10 := l9.below b10
          have rc10 := rc9.below b10
          clear b10 B9 l9 rc9
          go_wp2_with fail
          refine (lclone_calls l10 (by omega)).mono ?_
          rintro e w11 h11
          unfold ClonePost at h11
          obtain ⟨⟨Fa, ga, rfl, la11, hFa⟩, b11⟩ := h11
          have B11 := nxt B10 b11
          have l11 := l10.below b11
          have rc11 := rc10.below b11
          go_wp2_with fail
          refine (cutEnd_calls la11 HUP.out (t - 1)).mono ?_
          rintro e w12 h12
          unfold CutPost at h12
          obtain ⟨rfl, Fx, lx12, hFx, f12⟩ := h12
          have hFaw : ∀ k, Fa k → w.heap.size ≤ k := fun k hk => Nat.le_trans B10.size (hFa k hk)
          have B12 : Below w.heap.size w w12 := f12.below B11 hFaw B11.size
          have c12 : Below w10.heap.size w10 w12 := f12.below b11 hFa b11.size
          have l12 := l10.below c12
          have rc12 := rc10.below c12
          have HX10 := Lib.hid (⟨fun k hk => (hFx k hk).elim (hFa k) (fun h => Nat.le_trans b11.size h), rc10, B10⟩ : (∀ k, Fx k → w10.heap.size ≤ k) ∧ Rd w10 2 (.slice ac lc.length cc) lc.length (lc.flatMap prV) ∧ Below w.heap.size w w10)
          clear la11 l11 rc11 l10 rc10 hFaw b11 B11 f12 hFx hFa
          have hmem : ∀ p ∈ cutE (t - 1) l, p ∈ l ∧ p.st < t - 1 := fun p hp => ⟨(List.mem_filter.1 hp).1, cutE_mem hp⟩
          have hlen := cutE_len (t - 1) l
          have HLE := Lib.hid (show cutE (t - 1) l = l.filter (fun (p : Pr) => decide (p.st < t - 1)) from rfl)
          generalize cutE (t - 1) l = le at *
          obtain ⟨kL, hkl, hs1, hmaxL, hL0, hL1⟩ : ∃ k, ∃ hk : k < l.length, IntKind.i64.wrap ((l.length : Int) - 1) = (k : Int) ∧ (∀ p ∈ l, p.ep ≤ (l[k]).ep) ∧ 0 ≤ (l[k]).ep ∧ (l[k]).ep ≤ 1073741824 := by
            have hk : l.length - 1 < l.length := by omega
            have hr := List.all_eq_true.1 HR.out _ (List.getElem_mem hk)
            unfold right at hr
            rw [decide_eq_true_eq] at hr
            refine ⟨l.length - 1, hk, ?_, last_ep HUP.out (by rw [List.getLast?_eq_getElem?, List.getElem?_eq_getElem hk]), hr.1, hr.2.1⟩
            rw [IntKind.wrap_i64]; omega
          obtain ⟨qL, hqL⟩ : ∃ q, q = l[kL] := ⟨_, rfl⟩
          rw [← hqL] at hmaxL hL0 hL1
          have HQL := Lib.hid hqL
          have HMX := Lib.hid hmaxL
          clear hqL hmaxL
          go_wp2_with fail
          refine (last_calls lx12).mono ?_
          rintro e w13 ⟨rfl, b13⟩
          have B13 := nxt B12 b13
          have l13 := l12.below b13
          have rc13 := rc12.below b13
          have lx13 := lx12.below b13
          have c13 := nxt c12 b13
          clear b13 l12 rc12 lx12 B12 c12
          have hn0 : (decide (le ≠ []) = false) ∨ (le.getLast?.getD ⟨0, 0⟩).ep ≤ qL.ep ∧ decide (le ≠ []) = true := by
            by_cases hle : le = []
            · exact .inl (by simp [hle])
            · refine .inr ⟨?_, by simp [hle]⟩
              rw [List.getLast?_eq_some_getLast hle, Option.getD_some]
              exact HMX.out _ (hmem _ (List.getLast_mem hle)).1
          obtain ⟨q, hq⟩ : ∃ q, q = le.getLast?.getD ⟨0, 0⟩ := ⟨_, rfl⟩
          obtain ⟨bq, hbq⟩ : ∃ b, b = decide (le ≠ []) := ⟨_, rfl⟩
          rw [← hq, ← hbq] at hn0 ⊢
          clear hq hbq
          go_upto_if 134 with fail
          go_cut [20] (fun z wx => ∃ n0 : Int, z = .int .i64 n0 ∧ n0 ≤ qL.ep ∧ Below w13.heap.size w13 wx)
          case first =>
            rcases hn0 with rfl | ⟨hn1, rfl⟩
            · go_wp2_with fail
              go_meet
              exact ⟨0, rfl, hL0, below_alloc _ _⟩
            · go_wp2_with fail
              go_meet
              exact ⟨q.ep, rfl, hn1, below_alloc _ _⟩
          obtain ⟨n0, rfl, hn1, bc⟩ := hcut
          clear hn0
          have BC := nxt B13 bc
          have lC := l13.below bc
          have rcC := rc13.below bc
          have lxC := lx13.below bc
          have cC := nxt c13 bc
          clear bc l13 rc13 lx13 B13 c13
          go_wp2_with fail
          refine (pairs_calls lC (by omega)).mono ?_
          rintro e w14 ⟨v14, rfl, o14, b14⟩
          have r14 := Rd.of_owns o14
          obtain ⟨a14, c14, rfl⟩ := owns_slice o14
          have B14 := nxt BC b14
          have rc14 := rcC.below b14
          have lx14 := lxC.below b14
          obtain ⟨bb, ob, rfl, _, _, hxb⟩ := r14.at hl0
          obtain ⟨qb0, qb1⟩ := pr_cells hxb kL hkl
          rw [← HQL.out] at qb0 qb1
          have c14 := nxt cC b14
          clear hxb r14 o14 b14 BC lC rcC lxC cC
          go_upto_region 28 with fail
          go_cut [20] (fun z wx => z = .int .i64 qL.ep ∧ wx = w14)
          case first =>
            by_cases hlt : n0 < qL.ep
            · go_wp2_with fail
              go_meet
              exact ⟨rfl, rfl⟩
            · obtain rfl : n0 = qL.ep := by omega
              go_wp2_with fail
              go_meet
              exact ⟨rfl, rfl⟩
          obtain ⟨rfl, rfl⟩ := hcut
          by_cases hbig : 1073741824 ≤ qL.ep
          · go_wp2_with fail
            go_ret
            exact ⟨rfl, B14⟩
          · have hbp := begin_push A lx14 ⟨qL.ep + 1, t - 1⟩ (by unfold right; rw [decide_eq_true_eq]; simp only; omega) (by omega) (fun x hx => by
              have hm := hmem x (List.mem_of_getLast? hx)
              have := HMX.out x hm.1
              exact ⟨by simp only; omega, hm.2⟩)
            go_wp2_with fail
            refine hbp.mono ?_
            rintro e w15 h15
            unfold BegPost at h15
            obtain ⟨he, F', lx15, hF', f15⟩ := h15
            rw [if_neg (by omega)] at he
            subst he
            have c15 := f15.below c14 HX10.out.1 c14.size
            have rc15 := HX10.out.2.1.below c15
            have B15 := nxt HX10.out.2.2 c15
            clear f15 hF' c14
            have hno : ¬ HasP (le ++ [⟨qL.ep + 1, t - 1⟩]) lc t t := by
              rw [HLE.out]
              exact HN.out HNE.out qL.ep HMX.out t
            go_wp2_with fail
            refine (has_no S A (hS.below B15) h2 h3 h4 lx15 rc15 t t hno).mono ?_
            rintro e w16 ⟨rfl, b16⟩
            go_wp2_with fail
            go_ret
            exact ⟨rfl, nxt B15 b16⟩
  · by_cases t1 : 30 < l.length
    · go_wp2_with fail
      go_ret
      exact ⟨rfl, B2⟩
    · have t1' : decide ((30 : Int) < (l.length : Int)) = false := decide_eq_false (by omega)
      go_wp2_with fail
      go_ret
      exact ⟨rfl, B2⟩
end Go.Proofs.YtjhebnjajnjhhaaDoor
