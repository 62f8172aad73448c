/- slices.DeleteFunc at CutEnd's closure, where just the last ones go. -/
import Derived.Test.YtdlcpcpcojpecaaDoorEpoCut
import Derived.Test.YtdlcpcpcojpecaaDoorClear
import Derived.Test.YtdlcpcpcojpecaaDoorCutsMath
namespace Go.Proofs.YtdlcpcpcojpecaaDoor
open Go Go.RowKit Epo

theorem cutE_all {a : Int} {l : List Pr} (h : ∀ m ∈ l, m.st < a) : cutE a l = l := by
  unfold cutE; exact List.filter_eq_self.2 fun m hm => decide_eq_true (h m hm)
theorem cutE_take {a : Int} {l : List Pr} (k : Nat) (h1 : ∀ m ∈ l.take k, m.st < a) (h2 : ∀ m ∈ l.drop k, a ≤ m.st) : cutE a l = l.take k := by
  unfold cutE
  conv => lhs; rw [← List.take_append_drop k l]
  rw [List.filter_append, List.filter_eq_self.2 fun m hm => decide_eq_true (h1 m hm), List.filter_eq_nil_iff.2 fun m hm => by have := h2 m hm; simp; omega, List.append_nil]

theorem zero_pair : ∀ w, (zeroValue 46).run Tryd.prog w = .ok (.agg #[.int .i64 0, .int .i64 0]) w := by intro w; kernel_rfl
theorem sl_pair : Tryd.prog.underlying 22 = some (.slice (Tryd.prog.elem 22)) := by kernel_rfl
theorem sz_pair : (Tryd.prog.info? (Tryd.prog.elem 22)).map (·.size) = some 2 := by kernel_rfl

/-- Where a row that lies in block k is turned. -/
def InRow (v : Value) (k : Nat) : Prop := v.ownBlock = some k

def DelPost (v : Value) (l' : List Pr) (w : World) (e : Ending) (w' : World) : Prop :=
  ∃ v', e = .returned v' ∧ w'.ownsRow 0 46 2 v' l'.length (l'.flatMap prV) ∧ (∀ k, v'.ownBlock = some k → v.ownBlock = some k) ∧ Frame (InRow v) w w'

theorem flat_takeP (l : List Pr) (k : Nat) : (l.flatMap prV).take (k * 2) = (l.take k).flatMap prV := by
  induction l generalizing k with
  | nil => simp
  | cons a l ih =>
    cases k with
    | zero => simp
    | succ k =>
      rw [List.flatMap_cons, List.take_succ_cons, List.flatMap_cons, ← ih k, show (k + 1) * 2 = k * 2 + 2 by omega]
      simp [prV]

set_option maxRecDepth 100000 in
set_option maxHeartbeats 2000000 in
theorem delFunc_calls {w : World} {v : Value} {l : List Pr} (a : Int) (c : Nat) (hc : w.cell? ⟨c, 0, none⟩ = some (.int .i64 a)) (h : w.ownsRow 0 46 2 v l.length (l.flatMap prV))
    (hs : ∀ k (hk : k < l.length), a ≤ l[k].st → ∀ j (hj : j < l.length), k ≤ j → a ≤ l[j].st) :
    Calls Tryd.prog 29 #[v, .func (.func 30) #[] #[.pointer (some ⟨c, 0, none⟩)]] w (DelPost v (cutE a l) w) := by
  have hci := cutIdx_calls a c hc (Rd.of_owns h)
  unfold CutIdxPost at hci
  have m1 := (Rd.of_owns h).len_le
  obtain ⟨am, cm, rfl⟩ := owns_slice h
  go_enter Tryd.func29, Tryd.ntmps29
  go_wp2_with fail
  refine hci.mono ?_
  rintro e w2 ⟨r, rfl, hr, b2⟩
  clear hci
  rcases hr with ⟨rfl, hall⟩ | ⟨k, hk, rfl, hka, hlt⟩
  · have HC := Lib.hid (cutE_all hall)
    go_wp2_with fail
    go_ret
    unfold DelPost
    rw [HC.out]
    exact ⟨_, rfl, owns_below h b2, fun _ hk => hk, Frame.of_below b2⟩
  · have h2 : ∀ m ∈ l.drop k, a ≤ m.st := by
      intro m hm
      obtain ⟨j, hj, rfl⟩ := List.getElem_of_mem hm
      rw [List.getElem_drop]
      rw [List.length_drop] at hj
      exact hs k hk hka (k + j) (by omega) (by omega)
    have HC := Lib.hid (cutE_take k hlt h2)
    have HS := Lib.hid (hs k hk hka)
    have hne : ((k : Int) == -1) = false := by rw [beq_eq_false_iff_ne]; omega
    clear hlt h2 hs hka
    obtain ⟨b, rfl, _⟩ := owns_at h (by omega)
    have hcap := (Rd.of_owns h).cap
    have H := Lib.hid h
    clear h
    go_wp2_with fail
    go_loopw [5, 6, 7] (fun kv jv _ wr => ∃ j : Nat, kv = .int .i64 k ∧ k < j ∧ j ≤ l.length ∧ jv = .int .i64 j ∧ Below w.heap.size w wr) (fun _ jv _ _ => l.length - (intOf jv).toNat)
    case atStart => exact ⟨k + 1, rfl, by omega, by omega, by go_num, b2⟩
    case round =>
      obtain ⟨j, rfl, hj1, hj2, rfl, hb⟩ := hrel
      by_cases hlt : j < l.length
      · obtain ⟨b', o', he, _, _, hx1⟩ := ((Rd.of_owns H.out).below hb).at (by omega) (by omega)
        simp only [Option.some.injEq, Addr.mk.injEq] at he
        obtain ⟨rfl, rfl, _⟩ := he
        obtain ⟨q0, q1⟩ := pr_cells hx1 j hlt
        simp only [Nat.zero_add] at q0 q1
        have hb2 := nxt hb (below_alloc wr (.cells #[.int .i64 l[j].ep, .int .i64 l[j].st] 46))
        have hcl := cutEnd1_calls l[j] a c (wr.alloc (.cells #[.int .i64 l[j].ep, .int .i64 l[j].st] 46)) (by rw [hb2.cell (World.block_lt_of_cell? _ _ hc)]; exact hc)
        rw [decide_eq_true (HS.out j hlt (by omega))] at hcl
        clear hx1
        generalize l[j] = m at *
        go_wp2_with fail
        refine hcl.mono ?_
        rintro e w3 ⟨rfl, b3⟩
        clear hcl
        go_wp2_with fail
        exact ⟨⟨j + 1, rfl, by omega, by omega, by go_num, nxt hb2 b3⟩, by simp [intOf]; omega⟩
      · obtain rfl : j = l.length := by omega
        have ho := owns_below H.out hb
        have hcut1 : ∀ W, (Instr.sliceAt 22 (.slice (some ⟨b, 0, none⟩) l.length cm) (some (.int .i64 (k : Int))) none none).run Tryd.prog W = .ok (.slice (some ⟨b, k * 2, none⟩) (l.length - k) (cm - k)) W := fun W => by
          rw [run_cut_l 22 sl_pair 2 sz_pair (some ⟨b, 0, none⟩) l.length cm k .i64 (by omega) W]
          unfold sliced
          rw [if_neg (by omega), Option.map_some, add_none, Nat.zero_add]
        have hcut2 : ∀ W, (Instr.sliceAt 22 (.slice (some ⟨b, 0, none⟩) l.length cm) none (some (.int .i64 (k : Int))) none).run Tryd.prog W = .ok (.slice (some ⟨b, 0, none⟩) k cm) W := fun W => by
          rw [run_cut_h 22 sl_pair 2 sz_pair (some ⟨b, 0, none⟩) l.length cm k .i64 (by omega) W]
          unfold sliced
          by_cases hz : cm = 0
          · omega
          · rw [if_neg hz, Option.map_some, Nat.zero_mul, add_none, Nat.sub_zero, Nat.sub_zero]
        have hcells : ∀ i, i < (l.length - k) * 2 → (wr.cell? ⟨b, k * 2 + i, none⟩).isSome = true := fun i hi => by
          have hlen := ho.1
          rw [World.ownsRow.cellAt ho (k * 2 + i) (by omega), List.getElem?_eq_getElem (by omega)]
          rfl
        have hfz : ∀ i, i < (l.length - k) * 2 → wr.frozen? ⟨b, k * 2 + i, none⟩ = false := fun i _ => World.ownsRow.frozenAt ho _
        have hclr : ∀ ty, (Builtin.clear_ #[22] ty #[.slice (some ⟨b, k * 2, none⟩) (l.length - k) (cm - k)]).run Tryd.prog wr = .ok (.tuple #[]) (wr.setCells b (k * 2) (Builtin.zeroCells (Value.agg #[.int .i64 0, .int .i64 0]).cells (l.length - k)).toList) := fun ty =>
          run_clear_rows wr 22 46 ty (.agg #[.int .i64 0, .int .i64 0]) Tryd.underlying22 zero_pair (by intro u hu; simp [Value.cells] at hu; rcases hu with rfl | rfl <;> rfl) b (k * 2) (l.length - k) (cm - k) (by omega) hcells hfz
        obtain ⟨o1, g1, s1⟩ := owns_cleared ho k (by omega) (Builtin.zeroCells (Value.agg #[.int .i64 0, .int .i64 0]).cells (l.length - k)).toList
        generalize hwz : wr.setCells b (k * 2) (Builtin.zeroCells (Value.agg #[.int .i64 0, .int .i64 0]).cells (l.length - k)).toList = wz at *
        rw [flat_takeP] at o1
        clear hcells hfz ho s1 hwz
        have O1 := Lib.hid o1
        have G1 := Lib.hid g1
        clear o1 g1
        go_wp2_with fail
        go_ret
        unfold DelPost
        have hcl : (cutE a l).length = k := by rw [HC.out, List.length_take]; omega
        rw [hcl]
        refine ⟨_, rfl, by rw [HC.out]; exact O1.out, fun _ hk => hk, ?_⟩
        exact Frame.after_below hb (Frame.of_grown G1.out (fun k hk => hk))
end Go.Proofs.YtdlcpcpcojpecaaDoor
