/- EpochPlays' asks: the lineage tells what the document tells. -/
import Derived.Test.YtdlcpcpcojpecaaDoorRefLine1
import Derived.Test.YtdlcpcpcojpecaaDoorRefLine3
import Derived.Test.YtdlcpcpcojpecaaDoorRefLine4
import Derived.Test.YtdlcpcpcojpecaaDoorSamePairs
import Derived.Test.YtdlcpcpcojpecaaDoorEpoLast
namespace Go.Proofs.YtdlcpcpcojpecaaDoor
open Go Go.RowKit Epo

theorem at_says {l : List Pr} {n x : Int} {b : Bool} (h : AtSays l n x b) : x = atX l n ∧ b = atB l n := by
  unfold AtSays at h
  unfold atX atB
  rcases atO_at l n with ⟨h1, h2⟩ | ⟨k, hk, h1, h2⟩
  · rw [h2]
    rcases h with ⟨_, rfl, rfl⟩ | ⟨k', hk', h3, _⟩
    · exact ⟨rfl, rfl⟩
    · omega
  · rw [h2]
    rcases h with ⟨h3, _⟩ | ⟨k', hk', h3, rfl, rfl⟩
    · omega
    · obtain rfl : k = k' := by omega
      exact ⟨rfl, rfl⟩
theorem line_at {w : World} {F : Nat → Prop} {g : Nat} {l : List Pr} (h : LineAt w F g l) (n : Int) :
    Calls Tryd.prog 32 #[.pointer (some ⟨g, 0, none⟩), .int .i64 n] w (fun e w' => e = .returned (.tuple #[.int .i64 (atX l n), .bool (atB l n)]) ∧ Below w.heap.size w w') := by
  refine (at_calls h n).mono ?_
  rintro e w' ⟨x, b, rfl, hs, hb⟩
  obtain ⟨rfl, rfl⟩ := at_says hs
  exact ⟨rfl, hb⟩

set_option maxRecDepth 100000 in
set_option maxHeartbeats 4000000 in
theorem asks_calls (S : List Nat) (A : Nat → Addr) {w : World} {F : Nat → Prop} {g : Nat} {l q : List Pr} {vx vq : Value} (hS : Sents S w A) (h2 : 2 ∈ S) (h3 : 3 ∈ S) (h4 : 4 ∈ S) (hv : valid l = 0) (h : LineAt w F g l) (hx : Rd w 2 vx l.length (l.flatMap prV)) (hq : Rd w 2 vq q.length (q.flatMap prV)) (o t n : Int) :
    Calls Tryd.prog 18 #[.pointer (some ⟨g, 0, none⟩), vx, .int .i64 o, .int .i64 t, .int .i64 n, vq] w (fun e w' => e = .returned (.bool true) ∧ Below w.heap.size w w') := by
  obtain ⟨hl, -, hu⟩ := (valid_iff l).1 hv
  obtain ⟨ax, cx, rfl⟩ := hx.slice
  obtain ⟨aq, cq, rfl⟩ := hq.slice
  have ml := hx.len_le
  have HS := Lib.hid hS
  have HU := Lib.hid hu
  clear hS hu hv
  go_enter Tryd.func18, Tryd.ntmps18
  go_wp2_with fail
  refine (line_at h o).mono ?_
  rintro e w1 ⟨rfl, b1⟩
  go_wp2_with fail
  refine (refAt_calls _ l o w1 (hx.below b1)).mono ?_
  rintro e w1' ⟨rfl, rfl⟩
  go_wp2_with fail
  refine (end_calls (h.below b1) n t).mono ?_
  rintro e w2 ⟨x1, x2, x3, rfl, HE, b2⟩
  have B2 := nxt b1 b2
  have HE := Lib.hid HE
  go_wp2_with fail
  refine (refEnd_calls _ l n t w2 (hx.below B2)).mono ?_
  rintro e w3 ⟨y1, y2, y3, rfl, HE', b3⟩
  have B3 := nxt B2 b3
  obtain ⟨rfl, rfl, rfl⟩ := HE.out.uniq HE'
  clear HE HE'
  go_wp2_with fail
  refine (last_calls (h.below B3)).mono ?_
  rintro e w4 h4'
  unfold LastPost at h4'
  obtain ⟨rfl, b4⟩ := h4'
  have B4 := nxt B3 b4
  clear b1 b2 b3 b4 B2 B3
  have hPP := fun (p : Pr) W => samePair_calls p p W
  by_cases hne : l = []
  · subst hne
    simp only [List.getLast?_nil, Option.getD_none, ne_eq, not_true_eq_false, decide_false]
    have hp1 := samePair_calls ⟨0, 0⟩ ⟨0, 0⟩ ((w4.alloc (.cells #[.int .i64 0, .int .i64 0] 46)).alloc (.cells #[.int .i64 0, .int .i64 0] 46))
    rw [decide_eq_true rfl] at hp1
    have b5 := below_alloc w4 (.cells #[.int .i64 0, .int .i64 0] 46)
    have b6 := below_alloc (w4.alloc (.cells #[.int .i64 0, .int .i64 0] 46)) (.cells #[.int .i64 0, .int .i64 0] 46)
    have B6 := nxt B4 (nxt b5 b6)
    clear b5 b6
    go_wp2_with fail
    refine hp1.mono ?_
    rintro e w7 ⟨rfl, b7⟩
    have B7 := nxt B6 b7
    clear hp1 hPP b7 B6 B4
    go_wp2_with fail
    refine (span_calls (h.below B7) (by first | omega | simp) o t).mono ?_
    rintro e w8 ⟨v8, rfl, r8, b8⟩
    have B8 := nxt B7 b8
    clear B7
    go_wp2_with fail
    refine (refSpan_calls _ _ o t w8 (hx.below B8) (by first | omega | simp) HU.out).mono ?_
    rintro e w9 ⟨v9, rfl, r9, b9⟩
    have B9 := nxt B8 b9
    have hsp := samePairs_calls v8 v9 _ _ w9 (Rd.of_owns (owns_below r8 b9)) (Rd.of_owns r9)
    rw [decide_eq_true rfl] at hsp
    clear B8 b8 b9
    go_wp2_with fail
    refine hsp.mono ?_
    rintro e w10 ⟨rfl, b10⟩
    have B10 := nxt B9 b10
    clear hsp r8 r9 B9 b10
    go_wp2_with fail
    refine (has_calls S A (HS.out.below B10) h2 h3 h4 (h.below B10) (hq.below B10) _ _).mono ?_
    rintro e w11 ⟨x11, rfl, i11, b11⟩
    have B11 := nxt B10 b11
    clear B10 b11
    go_wp2_with fail
    refine (refHas_calls HU.out (hx.below B11) (hq.below B11) _ _).mono ?_
    rintro e w12 ⟨x12, rfl, i12, b12⟩
    have B12 := nxt B11 b12
    obtain rfl : x12 = x11 := by rw [Bool.eq_iff_iff]; exact i12.trans i11.symm
    clear i11 i12 B11 b12
    go_wp2_with fail
    refine (has_calls S A (HS.out.below B12) h2 h3 h4 (h.below B12) (hx.below B12) _ _).mono ?_
    rintro e w13 ⟨x13, rfl, i13, b13⟩
    have B13 := nxt B12 b13
    clear B12 b13
    go_wp2_with fail
    refine (refHas_calls HU.out (hx.below B13) (hx.below B13) _ _).mono ?_
    rintro e w14 ⟨x14, rfl, i14, b14⟩
    have B14 := nxt B13 b14
    obtain rfl : x14 = x13 := by rw [Bool.eq_iff_iff]; exact i14.trans i13.symm
    clear i13 i14 B13 b14
    go_wp2_with fail
    go_ret
    exact ⟨rfl, B14⟩
  · obtain ⟨m, hm⟩ : ∃ m, l.length = m + 1 := ⟨l.length - 1, by have := List.length_pos_iff.2 hne; omega⟩
    have hml : m < l.length := by omega
    have hgl : l.getLast? = some l[m] := by rw [List.getLast?_eq_getElem?, hm, show m + 1 - 1 = m by omega, List.getElem?_eq_getElem hml]
    have hs1 : IntKind.i64.wrap ((l.length : Int) - 1) = (m : Int) := by rw [IntKind.wrap_i64]; omega
    obtain ⟨b, of, rfl, _, _, hx1⟩ := (hx.below B4).at (by omega)
    obtain ⟨q0, q1⟩ := pr_cells hx1 m hml
    rw [hgl, decide_eq_true hne]
    simp only [Option.getD_some]
    generalize l[m] = y at *
    have hp1 := samePair_calls y y ((w4.alloc (.cells #[.int .i64 y.ep, .int .i64 y.st] 46)).alloc (.cells #[.int .i64 y.ep, .int .i64 y.st] 46))
    rw [decide_eq_true rfl] at hp1
    have b5 := below_alloc w4 (.cells #[.int .i64 y.ep, .int .i64 y.st] 46)
    have b6 := below_alloc (w4.alloc (.cells #[.int .i64 y.ep, .int .i64 y.st] 46)) (.cells #[.int .i64 y.ep, .int .i64 y.st] 46)
    have B6 := nxt B4 (nxt b5 b6)
    have hpos : (0 : Int) < (l.length : Int) := by omega
    have hbl := World.block_lt_of_cell? _ _ q0
    simp only at hbl
    clear b5 b6 hx1 hgl hne hm
    go_wp2_with fail
    refine hp1.mono ?_
    rintro e w7 ⟨rfl, b7⟩
    have B7 := nxt B6 b7
    clear hp1 hPP b7 B6 B4
    go_wp2_with fail
    refine (span_calls (h.below B7) (by first | omega | simp) o t).mono ?_
    rintro e w8 ⟨v8, rfl, r8, b8⟩
    have B8 := nxt B7 b8
    clear B7
    go_wp2_with fail
    refine (refSpan_calls _ _ o t w8 (hx.below B8) (by first | omega | simp) HU.out).mono ?_
    rintro e w9 ⟨v9, rfl, r9, b9⟩
    have B9 := nxt B8 b9
    have hsp := samePairs_calls v8 v9 _ _ w9 (Rd.of_owns (owns_below r8 b9)) (Rd.of_owns r9)
    rw [decide_eq_true rfl] at hsp
    clear B8 b8 b9
    go_wp2_with fail
    refine hsp.mono ?_
    rintro e w10 ⟨rfl, b10⟩
    have B10 := nxt B9 b10
    clear hsp r8 r9 B9 b10
    go_wp2_with fail
    refine (has_calls S A (HS.out.below B10) h2 h3 h4 (h.below B10) (hq.below B10) _ _).mono ?_
    rintro e w11 ⟨x11, rfl, i11, b11⟩
    have B11 := nxt B10 b11
    clear B10 b11
    go_wp2_with fail
    refine (refHas_calls HU.out (hx.below B11) (hq.below B11) _ _).mono ?_
    rintro e w12 ⟨x12, rfl, i12, b12⟩
    have B12 := nxt B11 b12
    obtain rfl : x12 = x11 := by rw [Bool.eq_iff_iff]; exact i12.trans i11.symm
    clear i11 i12 B11 b12
    go_wp2_with fail
    refine (has_calls S A (HS.out.below B12) h2 h3 h4 (h.below B12) (hx.below B12) _ _).mono ?_
    rintro e w13 ⟨x13, rfl, i13, b13⟩
    have B13 := nxt B12 b13
    clear B12 b13
    go_wp2_with fail
    refine (refHas_calls HU.out (hx.below B13) (hx.below B13) _ _).mono ?_
    rintro e w14 ⟨x14, rfl, i14, b14⟩
    have B14 := nxt B13 b14
    obtain rfl : x14 = x13 := by rw [Bool.eq_iff_iff]; exact i14.trans i13.symm
    clear i13 i14 B13 b14
    go_wp2_with fail
    go_ret
    exact ⟨rfl, B14⟩
end Go.Proofs.YtdlcpcpcojpecaaDoor
