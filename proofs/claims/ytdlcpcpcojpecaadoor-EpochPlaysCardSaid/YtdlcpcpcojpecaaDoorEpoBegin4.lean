/- Line.Begin where the last one has nothing of its own: it gives way. -/
import Derived.Test.YtdlcpcpcojpecaaDoorEpoBegin2
namespace Go.Proofs.YtdlcpcpcojpecaaDoor
open Go Go.RowKit Epo

set_option maxRecDepth 100000 in
set_option maxHeartbeats 1000000 in
theorem begin_put (A : Nat → Addr) {w : World} {F : Nat → Prop} {g : Nat} {l : List Pr} (h : LineAt w F g l) (ep : Int) (q : Pr) (hr : Epo.right ⟨ep, q.st⟩ = true) (hl : l.length < 256) (hgl : l.getLast? = some q) (hq1 : q.ep < ep) :
    Calls Tryd.prog 12 #[.pointer (some ⟨g, 0, none⟩), .int .i64 ep, .int .i64 q.st] w (BegPost A F g 0 (l.dropLast ++ [⟨ep, q.st⟩]) w) := by
  have b1 := below_alloc w (.cells #[.int .i64 ep, .int .i64 q.st] 46)
  have rowp := heap_alloc_new w (.cells #[.int .i64 ep, .int .i64 q.st] 46)
  have hrc := prRight_calls ⟨ep, q.st⟩ (w.alloc (.cells #[.int .i64 ep, .int .i64 q.st] 46))
  rw [hr] at hrc
  have hold : ∀ k, F k → k < w.heap.size := by obtain ⟨_, h⟩ := h; exact h.old
  have H := Lib.hid h
  have hlc := fun W (hW : Below w.heap.size w W) => last_calls (h.below hW)
  unfold LastPost at hlc
  have hne : l ≠ [] := by rintro rfl; simp at hgl
  have hpos : 0 < l.length := List.length_pos_iff.2 hne
  rw [hgl, decide_eq_true hne] at hlc
  simp only [Option.getD_some] at hlc
  have he1 : (ep == q.ep) = false := by rw [beq_eq_false_iff_ne]; omega
  obtain ⟨k, hk⟩ : ∃ k, l.length = k + 1 := ⟨l.length - 1, by omega⟩
  have HK := Lib.hid hk
  have hfl := Lib.hid (flat_last l q ⟨ep, q.st⟩ k hgl hk)
  rw [hk] at hl
  have hkk : (k : Int) < (k : Int) + 1 := by omega
  have hs1 : IntKind.i64.wrap ((k : Int) + 1 - 1) = (k : Int) := by rw [IntKind.wrap_i64]; omega
  have hs2 : IntKind.i64.wrap (k : Int) = (k : Int) := by rw [IntKind.wrap_i64]; omega
  clear hr hgl h hk hpos
  go_enter Tryd.func12, Tryd.ntmps12
  go_wp2_with fail
  refine hrc.mono ?_
  rintro e w2 ⟨rfl, b2⟩
  have rowp2 := heap_below b2 rowp
  go_wp2_with fail
  refine (hlc _ (nxt b1 b2)).mono ?_
  rintro e w3 ⟨rfl, b3⟩
  have rowp3 := heap_below b3 rowp2
  have B3 := nxt (nxt b1 b2) b3
  obtain ⟨v, h3⟩ := (H.out.below B3)
  obtain ⟨am, cm, rfl⟩ := owns_slice h3.pairs
  rw [HK.out] at h3
  have b4 := below_alloc w3 (.cells #[.int .i64 q.ep, .int .i64 q.st] 46)
  have hL := h3.below b4
  have rowW := heap_below b4 rowp3
  have B4 := nxt B3 b4
  have c3 : (w3.alloc (.cells #[.int .i64 q.ep, .int .i64 q.st] 46)).cell? ⟨g, 0, none⟩ = some (.slice am (k + 1) cm) := cell_of_row _ g 0 _ _ _ hL.row
  clear h3 rowp3 B3 b4 hrc hlc rowp rowp2 b1 b2 b3
  go_upto_region 14 with fail
  generalize w3.alloc (.cells #[.int .i64 q.ep, .int .i64 q.st] 46) = W at *
  have m0 : W.cell? ⟨w.heap.size, 0, none⟩ = some (.int .i64 ep) := cell_of_row W _ 0 _ _ _ rowW
  have m1 : W.cell? ⟨w.heap.size, 1, none⟩ = some (.int .i64 q.st) := cell_of_row W _ 1 _ _ _ rowW
  have ho : W.ownsRow 0 46 2 (.slice am (k + 1) cm) (k + 1) (l.flatMap prV) := by have := hL.pairs; rwa [HK.out] at this
  obtain ⟨b, rfl, _⟩ := owns_at ho (by omega)
  obtain ⟨b', o', he, hcc, _, hx⟩ := (Rd.of_owns ho).at (by omega)
  simp only [Option.some.injEq, Addr.mk.injEq] at he
  obtain ⟨rfl, rfl, _⟩ := he
  obtain ⟨q0, q1⟩ := pr_cells hx k (by rw [HK.out]; omega)
  simp only [Nat.zero_add] at q0 q1
  have z0 := World.ownsRow.frozenAt ho (k * 2)
  have z1 := World.ownsRow.frozenAt ho (k * 2 + 1)
  have s1 := World.ownsRow.stored ho (k * 2) (.int .i64 ep)
  have s2 := World.ownsRow.stored s1.1 (k * 2 + 1) (.int .i64 q.st)
  have hs1g := s1.2
  have hs2g := s2.2
  have hs2o := s2.1
  clear s1 s2 hx
  have S1 := Lib.hid hs1g
  have S2 := Lib.hid hs2g
  have SO := Lib.hid hs2o
  clear hs1g hs2g hs2o
  go_still_tail 12, (by kernel_rfl)
  change wpList _ _ _ _ _ W.drew
  go_wp2_with fail
  go_ret
  have hs1g := S1.out
  have hs2g := S2.out
  have hs2o := SO.out
  have hgb : b ≠ g := fun e => hL.not_row (by rw [e]; rfl)
  have hbF : ∀ i, some b = some i → F i := fun i e => hL.inP i e
  have hsz1 : ((W.setCell ⟨b, k * 2, none⟩ (.int .i64 ep)).setCell ⟨b, k * 2 + 1, none⟩ (.int .i64 q.st)).heap.size = W.heap.size := by simp [World.setCell]
  have hsz0 : (W.setCell ⟨b, k * 2, none⟩ (.int .i64 ep)).heap.size = W.heap.size := by simp [World.setCell]
  have hgl : g < W.heap.size := hL.old g hL.mine
  have hrow : ((W.setCell ⟨b, k * 2, none⟩ (.int .i64 ep)).setCell ⟨b, k * 2 + 1, none⟩ (.int .i64 q.st)).heap[g]? = some (.cells #[.slice (some ⟨b, 0, none⟩) (k + 1) cm] 52 (0, 0)) := by
    rw [hs2g.block g (by rw [hsz0]; exact hgl) (fun e => hgb (Option.some.inj e.symm)), hs1g.block g hgl (fun e => hgb (Option.some.inj e.symm))]
    exact hL.row
  have hlen : (l.dropLast ++ [⟨ep, q.st⟩] : List Pr).length = k + 1 := by
    have := HK.out
    simp; omega
  have f1 : Frame F W ((W.setCell ⟨b, k * 2, none⟩ (.int .i64 ep)).setCell ⟨b, k * 2 + 1, none⟩ (.int .i64 q.st)) := (Frame.of_grown hs1g hbF).trans (Frame.of_grown hs2g hbF) (fun _ e => .inl e)
  rw [hfl.out] at hs2o
  unfold BegPost
  refine ⟨rfl, F, ⟨_, hL.mine, fun i hi => ?_, hrow, by rw [hlen]; exact hs2o, hL.inP⟩, fun _ hi => .inl hi, (Frame.after_below B4 f1).then_below (Below.refl _ _).drew⟩
  show i < ((W.setCell ⟨b, k * 2, none⟩ (.int .i64 ep)).setCell ⟨b, k * 2 + 1, none⟩ (.int .i64 q.st)).heap.size
  rw [hsz1]
  exact hL.old i hi
end Go.Proofs.YtdlcpcpcojpecaaDoor
