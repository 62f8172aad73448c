/- Line.Begin: an epoch begins. -/
import Derived.Test.YtdlcpcpcojpecaaDoorEpoLast
namespace Go.Proofs.YtdlcpcpcojpecaaDoor
open Go Go.RowKit Epo

theorem LineV.not_row {w : World} {F : Nat → Prop} {g : Nat} {l : List Pr} {v : Value} (h : LineV w F g l v) : v.ownBlock ≠ some g := by
  intro e
  rcases h.pairs.2 with ⟨rfl, _⟩ | ⟨k, cap, cur, rfl, _, hk, _⟩
  · simp [Value.ownBlock] at e
  · simp only [Value.ownBlock, Option.some.injEq] at e
    exact row_ne h.row hk (by decide) e

/-- A row more: behind an append. -/
theorem LineV.more {w w1 : World} {F : Nat → Prop} {g : Nat} {l : List Pr} {v v' : Value} (h : LineV w F g l v) (l' : List Pr) (ho : w1.ownsRow 0 46 2 v' l'.length (l'.flatMap prV)) (hg : w.grownBy w1 v.ownBlock) :
    LineV (w1.setCell ⟨g, 0, none⟩ v') (fun k => F k ∨ v'.ownBlock = some k) g l' v' ∧ Frame F w (w1.setCell ⟨g, 0, none⟩ v') ∧ w1.heap[g]? = some (.cells #[v] 52 (0, 0)) := by
  have f1 : Frame F w w1 := Frame.of_grown hg h.inP
  have t := Touch.setCell (g := g) w1 0 v'
  have hrow1 : w1.heap[g]? = some (.cells #[v] 52 (0, 0)) := by
    rw [hg.block g (Array.getElem?_eq_some_iff.1 h.row).1 (fun e => h.not_row e.symm)]; exact h.row
  have hsz : (w1.setCell ⟨g, 0, none⟩ v').heap.size = w1.heap.size := by simp [World.setCell]
  refine ⟨⟨.inl h.mine, ?_, heap_setCell_same _ g 0 _ _ _ hrow1, t.owns ho hrow1 (by decide), fun k hk => .inr hk⟩, ?_, hrow1⟩
  · rintro k (hk | hk)
    · rw [hsz]; exact Nat.lt_of_lt_of_le (h.old k hk) hg.size
    · rw [hsz]; exact owns_lt ho k hk
  · exact f1.trans (Frame.of_touch (F := F) t h.mine) (fun _ e => .inl e)

/-- What an epoch's begin leaves: where no number is wrong, and places never fall. -/
def beginOf (l : List Pr) (p : Pr) : Nat × List Pr := match l.getLast? with
  | none => (0, l ++ [p])
  | some q => if p.ep < q.ep then (13, l) else if p.ep = q.ep then (0, l) else if p.st = q.st then (0, l.dropLast ++ [p]) else (0, l ++ [p])

def BegPost (A : Nat → Addr) (F : Nat → Prop) (g : Nat) (c : Nat) (l' : List Pr) (w : World) (e : Ending) (w' : World) : Prop :=
  e = .returned (if c = 13 then senV A 13 else .nilIface) ∧ ∃ F', LineAt w' F' g l' ∧ (∀ k, F' k → F k ∨ w.heap.size ≤ k) ∧ Frame F w w'

set_option maxRecDepth 100000 in
set_option maxHeartbeats 4000000 in
theorem begin_push (A : Nat → Addr) {w : World} {F : Nat → Prop} {g : Nat} {l : List Pr} (h : LineAt w F g l) (p : Pr) (hr : Epo.right p = true) (hl : l.length < 256) (hlast : ∀ q, l.getLast? = some q → q.ep < p.ep ∧ q.st < p.st) :
    Calls Tryd.prog 12 #[.pointer (some ⟨g, 0, none⟩), .int .i64 p.ep, .int .i64 p.st] w (BegPost A F g 0 (l ++ [p]) w) := by
  obtain ⟨i0, hi, hz0, hz1, hz2⟩ := info_parts info_pair
  have b1 := below_alloc w (.cells #[.int .i64 p.ep, .int .i64 p.st] 46)
  have rowp := heap_alloc_new w (.cells #[.int .i64 p.ep, .int .i64 p.st] 46)
  have hrc := prRight_calls p (w.alloc (.cells #[.int .i64 p.ep, .int .i64 p.st] 46))
  rw [hr] at hrc
  have hgo : g < w.heap.size := by obtain ⟨_, h⟩ := h; exact h.old g h.mine
  have hold : ∀ k, F k → k < w.heap.size := by obtain ⟨_, h⟩ := h; exact h.old
  have H := Lib.hid h
  clear hr
  obtain ⟨n, hn⟩ : ∃ n, n = l.length := ⟨_, rfl⟩
  have HN := Lib.hid hn
  rw [← hn] at hl
  clear hn
  cases hgl : l.getLast? with
  | none =>
    have hnil : l = [] := List.getLast?_eq_none_iff.1 hgl
    have hlc := fun W (hW : Below w.heap.size w W) => last_calls (h.below hW)
    unfold LastPost at hlc
    rw [hgl] at hlc
    subst hnil
    obtain rfl : n = 0 := HN.out
    clear hgl hlast h
    simp only [Option.getD_none, ne_eq, not_true_eq_false, decide_false] at hlc
    go_enter Tryd.func12, Tryd.ntmps12
    go_wp2_with fail
    refine hrc.mono ?_
    rintro e w2 ⟨rfl, b2⟩
    have rowp2 := heap_below b2 rowp
    go_wp2_with fail
    refine (hlc _ (nxt b1 b2)).mono ?_
    rintro e w3 ⟨rfl, b3⟩
    have rowp3 := heap_below b3 rowp2
    have B3 := nxt (nxt b1 b2) b3
    obtain ⟨v, h3⟩ := (H.out.below B3)
    obtain ⟨am, cm, rfl⟩ := owns_slice h3.pairs
    have b4 := below_alloc w3 (.cells #[.int .i64 0, .int .i64 0] 46)
    have hL := h3.below b4
    have rowW := heap_below b4 rowp3
    have B4 := nxt B3 b4
    have c3 : (w3.alloc (.cells #[.int .i64 0, .int .i64 0] 46)).cell? ⟨g, 0, none⟩ = some (.slice am 0 cm) := cell_of_row _ g 0 _ _ _ hL.row
    clear h3 rowp3 B3 b4
    clear hrc hlc rowp rowp2 b1 b2 b3
    go_upto_region 16 with fail
    generalize w3.alloc (.cells #[.int .i64 0, .int .i64 0] 46) = W at *
    have m0 : W.cell? ⟨w.heap.size, 0, none⟩ = some (.int .i64 p.ep) := cell_of_row W _ 0 _ _ _ rowW
    have m1 : W.cell? ⟨w.heap.size, 1, none⟩ = some (.int .i64 p.st) := cell_of_row W _ 1 _ _ _ rowW
    have om7 : W.drew.ownsRow 0 46 2 (.slice am 0 cm) 0 (([] : List Pr).flatMap prV) := hL.pairs
    have e8 : Below W.heap.size W W.drew := (Below.refl _ _).drew
    have hb9 := below_alloc W.drew (.cells #[.int .i64 p.ep, .int .i64 p.st] 46)
    have h8 := (hL.below e8).below hb9
    have c81 : (W.alloc (.cells #[.int .i64 p.ep, .int .i64 p.st] 46)).cell? ⟨g, 0, none⟩ = some (.slice am 0 cm) := by
      rw [(below_alloc W _).cell (World.block_lt_of_cell? _ _ c3)]; exact c3
    go_region_law (refine step_append_where rfl (.tmp 80) (.tmp 82) 22 rfl 46 i0 _ 2 16 Tryd.underlying22 hi hz0 hz1 hz2 rfl (by decide) _ 0 (([] : List Pr).flatMap prV) rfl (om7.alloc _) ⟨W.heap.size, 0, none⟩ 1 1 [.int .i64 p.ep, .int .i64 p.st] rfl (by rfl) (cells_new W.drew #[.int .i64 p.ep, .int .i64 p.st] 46) (by simp [Value.oneCell']) (by unfold maxLen; omega) (by omega) ?_; intro vm' w9 o9 g9 wh9; (obtain ⟨av9, cv9, rfl⟩ := owns_slice o9); have hm10 := h8.more ([] ++ [p]) (by rw [List.length_append, List.flatMap_append]; exact o9) g9; (obtain ⟨h10, f10, row9⟩ := hm10); have c91 : w9.cell? ⟨g, 0, none⟩ = some (.slice am 0 cm) := cell_of_row w9 g 0 _ _ _ row9; have z91 := frozen_of_row w9 g 0 _ _ row9)
    all_goals (
      have H10 := Lib.hid h10
      have HF10 := Lib.hid f10
      clear h10 f10 row9 o9 g9
      go_wp2_with fail
      go_ret
      unfold BegPost
      refine ⟨rfl, _, ⟨_, H10.out⟩, ?_, ?_⟩
      · rintro k (hk | hk)
        · exact .inl hk
        · rcases wh9 k hk with h11 | h11
          · exact .inl (hL.inP k h11)
          · exact .inr (Nat.le_trans (Nat.le_trans (Nat.le_trans B4.size e8.size) hb9.size) h11)
      · exact Frame.after_below (nxt B4 (nxt e8 hb9)) HF10.out)
  | some q =>
    obtain ⟨hq1, hq2⟩ := hlast q hgl
    have hlc := fun W (hW : Below w.heap.size w W) => last_calls (h.below hW)
    unfold LastPost at hlc
    have hne : l ≠ [] := by rintro rfl; simp at hgl
    rw [hgl, decide_eq_true hne] at hlc
    have he1 : (p.ep == q.ep) = false := by rw [beq_eq_false_iff_ne]; omega
    have he2 : (p.st == q.st) = false := by rw [beq_eq_false_iff_ne]; omega
    clear hgl hlast h
    simp only [Option.getD_some] at hlc
    go_enter Tryd.func12, Tryd.ntmps12
    go_wp2_with fail
    refine hrc.mono ?_
    rintro e w2 ⟨rfl, b2⟩
    have rowp2 := heap_below b2 rowp
    go_wp2_with fail
    refine (hlc _ (nxt b1 b2)).mono ?_
    rintro e w3 ⟨rfl, b3⟩
    have rowp3 := heap_below b3 rowp2
    have B3 := nxt (nxt b1 b2) b3
    obtain ⟨v, h3⟩ := (H.out.below B3)
    obtain ⟨am, cm, rfl⟩ := owns_slice h3.pairs
    rw [← HN.out] at h3
    have b4 := below_alloc w3 (.cells #[.int .i64 q.ep, .int .i64 q.st] 46)
    have hL := h3.below b4
    have rowW := heap_below b4 rowp3
    have B4 := nxt B3 b4
    have c3 : (w3.alloc (.cells #[.int .i64 q.ep, .int .i64 q.st] 46)).cell? ⟨g, 0, none⟩ = some (.slice am n cm) := cell_of_row _ g 0 _ _ _ hL.row
    clear h3 rowp3 B3 b4
    clear hrc hlc rowp rowp2 b1 b2 b3
    go_upto_region 16 with fail
    generalize w3.alloc (.cells #[.int .i64 q.ep, .int .i64 q.st] 46) = W at *
    have m0 : W.cell? ⟨w.heap.size, 0, none⟩ = some (.int .i64 p.ep) := cell_of_row W _ 0 _ _ _ rowW
    have m1 : W.cell? ⟨w.heap.size, 1, none⟩ = some (.int .i64 p.st) := cell_of_row W _ 1 _ _ _ rowW
    have om7 : W.drew.ownsRow 0 46 2 (.slice am n cm) n (l.flatMap prV) := by have := hL.pairs; rwa [← HN.out] at this
    have e8 : Below W.heap.size W W.drew := (Below.refl _ _).drew
    have hb9 := below_alloc W.drew (.cells #[.int .i64 p.ep, .int .i64 p.st] 46)
    have h8 := (hL.below e8).below hb9
    have c81 : (W.alloc (.cells #[.int .i64 p.ep, .int .i64 p.st] 46)).cell? ⟨g, 0, none⟩ = some (.slice am n cm) := by
      rw [(below_alloc W _).cell (World.block_lt_of_cell? _ _ c3)]; exact c3
    go_region_law (refine step_append_where rfl (.tmp 80) (.tmp 82) 22 rfl 46 i0 _ 2 16 Tryd.underlying22 hi hz0 hz1 hz2 rfl (by decide) _ n (l.flatMap prV) rfl (om7.alloc _) ⟨W.heap.size, 0, none⟩ 1 1 [.int .i64 p.ep, .int .i64 p.st] rfl (by rfl) (cells_new W.drew #[.int .i64 p.ep, .int .i64 p.st] 46) (by simp [Value.oneCell']) (by unfold maxLen; omega) (by omega) ?_; intro vm' w9 o9 g9 wh9; (obtain ⟨av9, cv9, rfl⟩ := owns_slice o9); have hm10 := h8.more (l ++ [p]) (by rw [List.length_append, ← HN.out, List.flatMap_append]; exact o9) g9; (obtain ⟨h10, f10, row9⟩ := hm10); have c91 : w9.cell? ⟨g, 0, none⟩ = some (.slice am n cm) := cell_of_row w9 g 0 _ _ _ row9; have z91 := frozen_of_row w9 g 0 _ _ row9)
    all_goals (
      have H10 := Lib.hid h10
      have HF10 := Lib.hid f10
      clear h10 f10 row9 o9 g9
      go_wp2_with fail
      go_ret
      unfold BegPost
      refine ⟨rfl, _, ⟨_, H10.out⟩, ?_, ?_⟩
      · rintro k (hk | hk)
        · exact .inl hk
        · rcases wh9 k hk with h11 | h11
          · exact .inl (hL.inP k h11)
          · exact .inr (Nat.le_trans (Nat.le_trans (Nat.le_trans B4.size e8.size) hb9.size) h11)
      · exact Frame.after_below (nxt B4 (nxt e8 hb9)) HF10.out)
end Go.Proofs.YtdlcpcpcojpecaaDoor
