/- slices.DeleteFunc at Index.Cut's closure, where just the last ones go. -/
import Derived.Test.YtjhebnjajnjhhaaDoorIdxCut
import Derived.Test.YtjhebnjajnjhhaaDoorClear
namespace Go.Proofs.YtjhebnjajnjhhaaDoor
open Go Go.RowKit Idx

/-- The marks that lie ahead of a place. -/
def cutI (a : Int) (l : List Mk) : List Mk := l.filter fun p => decide (p.pos < a)
theorem cutI_all {a : Int} {l : List Mk} (h : ∀ m ∈ l, m.pos < a) : cutI a l = l := by
  unfold cutI; exact List.filter_eq_self.2 fun m hm => decide_eq_true (h m hm)
theorem cutI_take {a : Int} {l : List Mk} (k : Nat) (h1 : ∀ m ∈ l.take k, m.pos < a) (h2 : ∀ m ∈ l.drop k, a ≤ m.pos) : cutI a l = l.take k := by
  unfold cutI
  conv => lhs; rw [← List.take_append_drop k l]
  rw [List.filter_append, List.filter_eq_self.2 fun m hm => decide_eq_true (h1 m hm), List.filter_eq_nil_iff.2 fun m hm => by have := h2 m hm; simp; omega, List.append_nil]

theorem zero_mark : ∀ w, (zeroValue 34).run Tryd.prog w = .ok (.agg #[.int .i64 0, .int .i64 0, .int .i64 0]) w := by intro w; kernel_rfl
theorem sz_mark : (Tryd.prog.info? (Tryd.prog.elem 31)).map (·.size) = some 3 := by kernel_rfl

/-- Where a row that lies in block k is turned. -/
def InRow (v : Value) (k : Nat) : Prop := v.ownBlock = some k

def IDelPost (v : Value) (l' : List Mk) (w : World) (e : Ending) (w' : World) : Prop :=
  ∃ v', e = .returned v' ∧ w'.ownsRow 0 34 3 v' l'.length (l'.flatMap mkV) ∧ (∀ k, v'.ownBlock = some k → v.ownBlock = some k) ∧ Frame (InRow v) w w'

theorem flat_takeM (l : List Mk) (k : Nat) : (l.flatMap mkV).take (k * 3) = (l.take k).flatMap mkV := by
  induction l generalizing k with
  | nil => simp
  | cons a l ih =>
    cases k with
    | zero => simp
    | succ k =>
      rw [List.flatMap_cons, List.take_succ_cons, List.flatMap_cons, ← ih k, show (k + 1) * 3 = k * 3 + 3 by omega]
      simp [mkV]

set_option maxRecDepth 100000 in
set_option maxHeartbeats 2000000 in
theorem idelFunc_calls {w : World} {v : Value} {l : List Mk} (a : Int) (c : Nat) (hc : w.cell? ⟨c, 0, none⟩ = some (.int .i64 a)) (h : w.ownsRow 0 34 3 v l.length (l.flatMap mkV))
    (hs : ∀ k (hk : k < l.length), a ≤ l[k].pos → ∀ j (hj : j < l.length), k ≤ j → a ≤ l[j].pos) :
    Calls Tryd.prog 64 #[v, .func (.func 63) #[] #[.pointer (some ⟨c, 0, none⟩)]] w (IDelPost v (cutI a l) w) := by
  have hci := icutIdx_calls a c hc (Rd.of_owns h)
  unfold ICutIdxPost at hci
  have m1 := (Rd.of_owns h).len_le
  obtain ⟨am, cm, rfl⟩ := owns_slice h
  go_enter Tryd.func64, Tryd.ntmps64
  go_wp2_with fail
  refine hci.mono ?_
  rintro e w2 ⟨r, rfl, hr, b2⟩
  clear hci
  rcases hr with ⟨rfl, hall⟩ | ⟨k, hk, rfl, hka, hlt⟩
  · have HC := Lib.hid (cutI_all hall)
    go_wp2_with fail
    go_ret
    unfold IDelPost
    rw [HC.out]
    exact ⟨_, rfl, owns_below h b2, fun _ hk => hk, Frame.of_below b2⟩
  · have h2 : ∀ m ∈ l.drop k, a ≤ m.pos := by
      intro m hm
      obtain ⟨j, hj, rfl⟩ := List.getElem_of_mem hm
      rw [List.getElem_drop]
      rw [List.length_drop] at hj
      exact hs k hk hka (k + j) (by omega) (by omega)
    have HC := Lib.hid (cutI_take k hlt h2)
    have HS := Lib.hid (hs k hk hka)
    have hne : ((k : Int) == -1) = false := by rw [beq_eq_false_iff_ne]; omega
    clear hlt h2 hs hka
    obtain ⟨b, rfl, _⟩ := owns_at h (by omega)
    have hcap := (Rd.of_owns h).cap
    have H := Lib.hid h
    clear h
    go_wp2_with fail
    go_loopw [5, 6, 7] (fun kv jv _ wr => ∃ j : Nat, kv = .int .i64 k ∧ k < j ∧ j ≤ l.length ∧ jv = .int .i64 j ∧ Below w.heap.size w wr) (fun _ jv _ _ => l.length - (intOf jv).toNat)
    case atStart => exact ⟨k + 1, rfl, by omega, by omega, by go_num, b2⟩
    case round =>
      obtain ⟨j, rfl, hj1, hj2, rfl, hb⟩ := hrel
      by_cases hlt : j < l.length
      · obtain ⟨b', o', he, _, _, hx1⟩ := ((Rd.of_owns H.out).below hb).at (by omega) (by omega)
        simp only [Option.some.injEq, Addr.mk.injEq] at he
        obtain ⟨rfl, rfl, _⟩ := he
        obtain ⟨q0, q1, q2⟩ := mk_cells hx1 j hlt
        simp only [Nat.zero_add] at q0 q1 q2
        have hb2 := nxt hb (below_alloc wr (.cells #[.int .i64 l[j].off, .int .i64 l[j].time, .int .i64 l[j].pos] 34))
        have hcl := icut1_calls l[j] a c (wr.alloc (.cells #[.int .i64 l[j].off, .int .i64 l[j].time, .int .i64 l[j].pos] 34)) (by rw [hb2.cell (World.block_lt_of_cell? _ _ hc)]; exact hc)
        rw [decide_eq_true (HS.out j hlt (by omega))] at hcl
        clear hx1
        generalize l[j] = m at *
        go_wp2_with fail
        refine hcl.mono ?_
        rintro e w3 ⟨rfl, b3⟩
        clear hcl
        go_wp2_with fail
        exact ⟨⟨j + 1, rfl, by omega, by omega, by go_num, nxt hb2 b3⟩, by simp [intOf]; omega⟩
      · obtain rfl : j = l.length := by omega
        have ho := owns_below H.out hb
        have hcut1 : ∀ W, (Instr.sliceAt 31 (.slice (some ⟨b, 0, none⟩) l.length cm) (some (.int .i64 (k : Int))) none none).run Tryd.prog W = .ok (.slice (some ⟨b, k * 3, none⟩) (l.length - k) (cm - k)) W := fun W => by
          rw [run_cut_l 31 sl_mark 3 sz_mark (some ⟨b, 0, none⟩) l.length cm k .i64 (by omega) W]
          unfold sliced
          rw [if_neg (by omega), Option.map_some, add_none, Nat.zero_add]
        have hcut2 : ∀ W, (Instr.sliceAt 31 (.slice (some ⟨b, 0, none⟩) l.length cm) none (some (.int .i64 (k : Int))) none).run Tryd.prog W = .ok (.slice (some ⟨b, 0, none⟩) k cm) W := fun W => by
          rw [run_cut_h 31 sl_mark 3 sz_mark (some ⟨b, 0, none⟩) l.length cm k .i64 (by omega) W]
          unfold sliced
          by_cases hz : cm = 0
          · omega
          · rw [if_neg hz, Option.map_some, Nat.zero_mul, add_none, Nat.sub_zero, Nat.sub_zero]
        have hcells : ∀ i, i < (l.length - k) * 3 → (wr.cell? ⟨b, k * 3 + i, none⟩).isSome = true := fun i hi => by
          have hlen := ho.1
          rw [World.ownsRow.cellAt ho (k * 3 + i) (by omega), List.getElem?_eq_getElem (by omega)]
          rfl
        have hfz : ∀ i, i < (l.length - k) * 3 → wr.frozen? ⟨b, k * 3 + i, none⟩ = false := fun i _ => World.ownsRow.frozenAt ho _
        have hclr : ∀ ty, (Builtin.clear_ #[31] ty #[.slice (some ⟨b, k * 3, none⟩) (l.length - k) (cm - k)]).run Tryd.prog wr = .ok (.tuple #[]) (wr.setCells b (k * 3) (Builtin.zeroCells (Value.agg #[.int .i64 0, .int .i64 0, .int .i64 0]).cells (l.length - k)).toList) := fun ty =>
          run_clear_rows wr 31 34 ty (.agg #[.int .i64 0, .int .i64 0, .int .i64 0]) Tryd.underlying31 zero_mark (by intro u hu; simp [Value.cells] at hu; rcases hu with rfl | rfl | rfl <;> rfl) b (k * 3) (l.length - k) (cm - k) (by omega) hcells hfz
        obtain ⟨o1, g1, s1⟩ := owns_cleared ho k (by omega) (Builtin.zeroCells (Value.agg #[.int .i64 0, .int .i64 0, .int .i64 0]).cells (l.length - k)).toList
        generalize hwz : wr.setCells b (k * 3) (Builtin.zeroCells (Value.agg #[.int .i64 0, .int .i64 0, .int .i64 0]).cells (l.length - k)).toList = wz at *
        rw [flat_takeM] at o1
        clear hcells hfz ho s1 hwz
        have O1 := Lib.hid o1
        have G1 := Lib.hid g1
        clear o1 g1
        go_wp2_with fail
        go_ret
        unfold IDelPost
        have hcl : (cutI a l).length = k := by rw [HC.out, List.length_take]; omega
        rw [hcl]
        refine ⟨_, rfl, by rw [HC.out]; exact O1.out, fun _ hk => hk, ?_⟩
        exact Frame.after_below hb (Frame.of_grown G1.out (fun k hk => hk))
end Go.Proofs.YtjhebnjajnjhhaaDoor
