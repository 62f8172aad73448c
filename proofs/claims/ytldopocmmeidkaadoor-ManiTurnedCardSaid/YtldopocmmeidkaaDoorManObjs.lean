/- mani.objects: it answers, whatever the objects are. -/
import Derived.Test.YtldopocmmeidkaaDoorNameValid
import Derived.Test.YtldopocmmeidkaaDoorSent
import Derived.Deep.CutBlock
import Derived.Deep.DeepCutAuto
namespace Go.Proofs.YtldopocmmeidkaaDoor
open Go Go.RowKit Man

theorem objs1_calls (o : ObjD) (s : ByteArray) (c : Nat) (w : World) (hc : w.cell? ⟨c, 0, none⟩ = some (.string s)) :
    Calls Tryd.prog 85 #[.agg #[.string o.name, .int .i64 o.len, .int .u32 (o.sum : Int)], .pointer (some ⟨c, 0, none⟩)] w (BoolW w) := by
  have b1 := below_alloc w (.cells #[.string o.name, .int .i64 o.len, .int .u32 (o.sum : Int)] 46)
  have c1 : (w.alloc (.cells #[.string o.name, .int .i64 o.len, .int .u32 (o.sum : Int)] 46)).cell? ⟨c, 0, none⟩ = some (.string s) := by rw [b1.cell (World.block_lt_of_cell? _ _ hc)]; exact hc
  go_enter Tryd.func85, Tryd.ntmps85
  go_wp2_with fail
  go_ret
  exact ⟨_, rfl, b1⟩

def BoolW_ : Unit := ()
def IdxW (w : World) (e : Ending) (w' : World) : Prop := ∃ r : Int, e = .returned (.int .i64 r) ∧ Below w.heap.size w w'

set_option maxRecDepth 100000 in
set_option maxHeartbeats 1000000 in
theorem objsIdx_calls {w : World} {v : Value} {l : List ObjD} (s : ByteArray) (c : Nat) (hc : w.cell? ⟨c, 0, none⟩ = some (.string s)) (h : Rd w 3 v l.length (l.flatMap obV)) :
    Calls Tryd.prog 98 #[v, .func (.func 85) #[] #[.pointer (some ⟨c, 0, none⟩)]] w (IdxW w) := by
  obtain ⟨am, cm, rfl⟩ := h.slice
  have m1 := h.len_le
  go_enter Tryd.func98, Tryd.ntmps98
  go_wp2_with fail
  go_loopw [5, 8] (fun _ iv wr => ∃ i : Nat, i ≤ l.length ∧ iv = .int .i64 i ∧ Below w.heap.size w wr) (fun _ iv _ => l.length - (intOf iv).toNat)
  case atStart => exact ⟨0, Nat.zero_le _, rfl, Below.refl _ _⟩
  case round =>
    obtain ⟨i, hi, rfl, hb⟩ := hrel
    by_cases hlt : i < l.length
    · obtain ⟨b, o, rfl, hx⟩ := objs_at (h.below hb) i hlt
      obtain ⟨q0, q1, q2⟩ := hx i hlt
      have hcl := objs1_calls l[i] s c wr (by rw [hb.cell (World.block_lt_of_cell? _ _ hc)]; exact hc)
      obtain ⟨m, hm⟩ : ∃ m, m = l[i] := ⟨_, rfl⟩
      rw [← hm] at hcl q0 q1 q2
      clear hx hm
      go_wp2_with (go_at_call 85; refine hcl.mono ?_; rintro e w2 ⟨t, rfl, b2⟩)
      all_goals first
        | exact ⟨⟨i + 1, by omega, by go_num, nxt hb (by assumption)⟩, by simp [intOf]; omega⟩
        | (go_ret; exact ⟨_, rfl, nxt hb (by assumption)⟩)
    · go_wp2_with fail
      go_ret
      exact ⟨_, rfl, hb⟩

set_option maxRecDepth 100000 in
set_option maxHeartbeats 1000000 in
theorem objsHas_calls {w : World} {v : Value} {l : List ObjD} (s : ByteArray) (c : Nat) (hc : w.cell? ⟨c, 0, none⟩ = some (.string s)) (h : Rd w 3 v l.length (l.flatMap obV)) :
    Calls Tryd.prog 84 #[v, .func (.func 85) #[] #[.pointer (some ⟨c, 0, none⟩)]] w (BoolW w) := by
  have hcl := objsIdx_calls s c hc h
  unfold IdxW at hcl
  go_enter Tryd.func84, Tryd.ntmps84
  go_wp2_with fail
  refine hcl.mono ?_
  rintro e w2 ⟨r, rfl, b2⟩
  go_wp2_with fail
  go_ret
  exact ⟨_, rfl, b2⟩

theorem sl_obj : Tryd.prog.underlying 23 = some (.slice (Tryd.prog.elem 23)) := by kernel_rfl
theorem sz_obj : (Tryd.prog.info? (Tryd.prog.elem 23)).map (·.size) = some 3 := by kernel_rfl
theorem flat_take_n' {α : Type} (f : α → List Value) (C : Nat) : ∀ (l : List α), (∀ x ∈ l, (f x).length = C) → ∀ m, (l.flatMap f).take (m * C) = (l.take m).flatMap f := by
  intro l
  induction l with
  | nil => intro _ m; simp
  | cons x l ih =>
    intro h m
    cases m with
    | zero => simp
    | succ m =>
      have h1 := h x List.mem_cons_self
      rw [List.flatMap_cons, List.take_succ_cons, List.flatMap_cons, List.take_append, h1, List.take_of_length_le (by rw [h1, Nat.succ_mul]; omega), show (m + 1) * C - C = m * C by rw [Nat.succ_mul]; omega, ih (fun y hy => h y (List.mem_cons_of_mem _ hy)) m]
theorem objs_take {w : World} {a : Option Addr} {c : Nat} {l : List ObjD} (h : Rd w 3 (.slice a l.length c) l.length (l.flatMap obV)) (m : Nat) (hm : m ≤ l.length) :
    ∃ a' c', sliced a 0 m c 3 = .slice a' m c' ∧ l.length ≤ c ∧ ∀ W, Below w.heap.size w W → Rd W 3 (.slice a' m c') (l.take m).length ((l.take m).flatMap obV) := by
  obtain ⟨a', c', e, hr⟩ := part_all a l.length c 3 0 m (Nat.zero_le _) hm
  refine ⟨a', c', e, h.cap, fun W hW => ?_⟩
  have := hr W _ (h.below hW)
  rw [Nat.zero_mul, List.drop_zero, Nat.sub_zero, flat_take_n' obV 3 l (obV_len l)] at this
  rw [List.length_take, Nat.min_eq_left hm]
  exact this

/-- It answers nil, or an error. -/
def NilErr (w : World) (e : Ending) (w' : World) : Prop := (e = .returned .nilIface ∨ ∃ t u, e = .returned (.iface t u)) ∧ Below w.heap.size w w'

set_option maxRecDepth 100000 in
set_option maxHeartbeats 2000000 in
theorem objects_calls (S : List Nat) (A : Nat → Addr) {w : World} {v : Value} {l : List ObjD} (hS : Sents S w A) (h2 : 2 ∈ S) (h3 : 3 ∈ S) (h4 : 4 ∈ S) (h5 : 5 ∈ S) (h : Rd w 3 v l.length (l.flatMap obV)) (hn : ∀ o ∈ l, o.name.size ≤ 100) :
    Calls Tryd.prog 48 #[v] w (NilErr w) := by
  obtain ⟨am, cm, rfl⟩ := h.slice
  have m1 := h.len_le
  have HN := Lib.hid hn
  clear hn
  have g2 : ∀ w', Below w.heap.size w w' → w'.cell? ⟨2, 0, none⟩ = some (.iface 180 (.pointer (some (A 2)))) := fun w' b => (hS.below b).cell 2 h2
  have g3 : ∀ w', Below w.heap.size w w' → w'.cell? ⟨4, 0, none⟩ = some (.iface 180 (.pointer (some (A 3)))) := fun w' b => (hS.below b).cell 3 h3
  have g4 : ∀ w', Below w.heap.size w w' → w'.cell? ⟨0, 0, none⟩ = some (.iface 180 (.pointer (some (A 4)))) := fun w' b => (hS.below b).cell 4 h4
  have g5 : ∀ w', Below w.heap.size w w' → w'.cell? ⟨6, 0, none⟩ = some (.iface 180 (.pointer (some (A 5)))) := fun w' b => (hS.below b).cell 5 h5
  by_cases t1 : l.length < 1
  · have k3 := g3 w (Below.refl _ _)
    go_enter Tryd.func48, Tryd.ntmps48
    go_wp2_with fail
    go_ret
    exact ⟨.inr ⟨_, _, rfl⟩, Below.refl _ _⟩
  · have t1' : decide ((l.length : Int) < 1) = false := decide_eq_false (by omega)
    by_cases t2 : 8 < l.length
    · have k3 := g3 w (Below.refl _ _)
      clear t1
      go_enter Tryd.func48, Tryd.ntmps48
      go_wp2_with fail
      go_ret
      exact ⟨.inr ⟨_, _, rfl⟩, Below.refl _ _⟩
    · have t2' : decide (8 < (l.length : Int)) = false := decide_eq_false (by omega)
      go_enter Tryd.func48, Tryd.ntmps48
      go_wp2_with fail
      go_loopw [3, 4, 18] (fun _ _ iv wr => ∃ i : Nat, i ≤ l.length ∧ iv = .int .i64 i ∧ Below w.heap.size w wr) (fun _ _ iv _ => l.length - (intOf iv).toNat)
      case atStart => exact ⟨0, Nat.zero_le _, rfl, Below.refl _ _⟩
      case round =>
        obtain ⟨i, hi, rfl, hb⟩ := hrel
        by_cases hlt : i < l.length
        · obtain ⟨b, o, rfl, hx⟩ := objs_at (h.below hb) i hlt
          obtain ⟨q0, q1, q2⟩ := hx i hlt
          have hnm := HN.out l[i] (List.getElem_mem hlt)
          obtain ⟨m, hm⟩ : ∃ m, m = l[i] := ⟨_, rfl⟩
          rw [← hm] at q0 q1 q2 hnm
          clear hx hm
          go_upto_region 6 with fail
          have ba := below_alloc wr (.cells #[.string m.name, .int .i64 m.len, .int .u32 (m.sum : Int)] 46)
          have rowa := heap_alloc_new wr (.cells #[.string m.name, .int .i64 m.len, .int .u32 (m.sum : Int)] 46)
          obtain ⟨wa, hwa⟩ : ∃ wa, wa = wr.alloc (.cells #[.string m.name, .int .i64 m.len, .int .u32 (m.sum : Int)] 46) := ⟨_, rfl⟩
          obtain ⟨g, hg⟩ : ∃ g, g = wr.heap.size := ⟨_, rfl⟩
          rw [← hwa] at ba rowa ⊢
          rw [← hg] at rowa ⊢
          clear hwa hg q0 q1 q2
          have p0 : wa.cell? ⟨g, 0, none⟩ = some (.string m.name) := cell_of_row _ _ 0 _ _ _ rowa
          have p1 : wa.cell? ⟨g, 1, none⟩ = some (.int .i64 m.len) := cell_of_row _ _ 1 _ _ _ rowa
          have B1 := nxt hb ba
          have k5 := g5 wa B1
          have k4 := g4 wa B1
          have hv := nameValid_calls m.name wa (by omega)
          clear rowa
          go_wp2_with fail
          refine hv.mono ?_
          rintro e w2 ⟨t, rfl, rfl⟩
          clear hv
          cases t
          · go_wp2_with fail
            go_ret
            exact ⟨.inr ⟨_, _, rfl⟩, bAlloc B1 _⟩
          · by_cases e1 : m.len < 0
            · go_wp2_with fail
              go_ret
              exact ⟨.inr ⟨_, _, rfl⟩, bAlloc B1 _⟩
            · by_cases e2 : 1073741824 < m.len
              · have e1' : decide (m.len < 0) = false := decide_eq_false (by omega)
                go_wp2_with fail
                go_ret
                exact ⟨.inr ⟨_, _, rfl⟩, bAlloc B1 _⟩
              · have e1' : decide (m.len < 0) = false := decide_eq_false (by omega)
                have e2' : decide (1073741824 < m.len) = false := decide_eq_false (by omega)
                go_wp2_with fail
                exact ⟨⟨i + 1, by omega, by go_num, B1⟩, by simp [intOf]; omega⟩
        · go_wp2_with fail
          go_loopw [5, 6, 48] (fun _ _ iv wr => ∃ i : Nat, i ≤ l.length ∧ iv = .int .i64 i ∧ Below w.heap.size w wr) (fun _ _ iv _ => l.length - (intOf iv).toNat)
          case atStart => exact ⟨0, Nat.zero_le _, rfl, hb⟩
          case round =>
            clear hb hlt
            obtain ⟨i, hi, rfl, hb⟩ := hrel
            by_cases hlt : i < l.length
            · have hR := h.below hb
              obtain ⟨a', c', e', hcap, hT⟩ := objs_take hR i (by omega)
              have hcut : ∀ W, (Instr.sliceAt 23 (.slice am l.length cm) none (some (.int .i64 (i : Int))) none).run Tryd.prog W = .ok (.slice a' i c') W := fun W => by
                rw [run_cut_h 23 sl_obj 3 sz_obj am l.length cm i .i64 (by omega) W, e']
              obtain ⟨b, o, rfl, hx⟩ := objs_at (h.below hb) i hlt
              obtain ⟨q0, q1, q2⟩ := hx i hlt
              obtain ⟨m, hm⟩ : ∃ m, m = l[i] := ⟨_, rfl⟩
              rw [← hm] at q0 q1 q2
              clear hx hm hcap e'
              go_upto_region 14 with fail
              have ba := below_alloc wr (.cells #[.string m.name, .int .i64 m.len, .int .u32 (m.sum : Int)] 46)
              have rowa := heap_alloc_new wr (.cells #[.string m.name, .int .i64 m.len, .int .u32 (m.sum : Int)] 46)
              obtain ⟨wa, hwa⟩ : ∃ wa, wa = wr.alloc (.cells #[.string m.name, .int .i64 m.len, .int .u32 (m.sum : Int)] 46) := ⟨_, rfl⟩
              obtain ⟨g, hg⟩ : ∃ g, g = wr.heap.size := ⟨_, rfl⟩
              rw [← hwa] at ba rowa ⊢
              rw [← hg] at rowa ⊢
              clear hwa hg q0 q1 q2
              have p0 : wa.cell? ⟨g, 0, none⟩ = some (.string m.name) := cell_of_row _ _ 0 _ _ _ rowa
              have B1 := nxt hb ba
              have hc := objsHas_calls m.name g p0 (hT wa ba)
              rw [show (l.take i).length = i by rw [List.length_take]; omega] at hT
              clear hT rowa
              go_wp2_with (first | exact hcut _ | fail)
              with_reducible refine hc.mono ?_
              rintro e w2 ⟨t, rfl, b2⟩
              have B2 := nxt B1 b2
              have k2 := g2 w2 B2
              clear hc
              cases t
              · go_wp2_with fail
                exact ⟨⟨i + 1, by omega, by go_num, B2⟩, by simp [intOf]; omega⟩
              · go_wp2_with fail
                go_ret
                exact ⟨.inr ⟨_, _, rfl⟩, B2⟩
            · go_wp2_with fail
              go_ret
              exact ⟨.inl rfl, hb⟩
end Go.Proofs.YtldopocmmeidkaaDoor
