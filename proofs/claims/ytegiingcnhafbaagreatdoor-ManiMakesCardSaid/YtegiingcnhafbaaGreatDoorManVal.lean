/- name.Valid: it answers, whatever the text is. Merged of: NameValid, NameOk, ManObjs, ManOk, ManObjsOk, ManValid, ManValidOk. -/
import Derived.Test.YtegiingcnhafbaaGreatDoorMan
import Derived.Test.YtegiingcnhafbaaGreatDoorNameVal
import Derived.Deep.CutBlock
import Derived.Deep.DeepCutAuto
import Derived.Test.YtegiingcnhafbaaGreatDoorSent
import Derived.Test.YtegiingcnhafbaaGreatDoorReader
import Derived.Test.YtegiingcnhafbaaGreatDoorEpoNew

/-! name.Valid: it answers, whatever the text is. -/
namespace Go.Proofs.YtegiingcnhafbaaGreatDoor
open Go Go.RowKit Man

/-- It answers, and the world is as it was. -/
def SomeB (w : World) (e : Ending) (w' : World) : Prop := ∃ t : Bool, e = .returned (.bool t) ∧ w' = w

/-- It answers, and what was there is as it was. -/
def BoolW (w : World) (e : Ending) (w' : World) : Prop := ∃ t : Bool, e = .returned (.bool t) ∧ Below w.heap.size w w'

set_option maxRecDepth 100000 in
set_option maxHeartbeats 1000000 in
theorem nameSmall_calls (c : Nat) (w : World) : Calls Tryz.prog 77 #[.int .u8 (c : Int)] w (SomeB w) := by
  by_cases h1 : 97 ≤ c
  · by_cases h2 : c ≤ 122
    · go_enter Tryz.func77, Tryz.ntmps77
      go_wp2_with fail
      go_ret
      exact ⟨_, rfl, rfl⟩
    · go_enter Tryz.func77, Tryz.ntmps77
      go_wp2_with fail
      go_ret
      exact ⟨_, rfl, rfl⟩
  · have h1' : decide ((97 : Int) ≤ (c : Int)) = false := decide_eq_false (by omega)
    go_enter Tryz.func77, Tryz.ntmps77
    go_wp2_with fail
    go_ret
    exact ⟨_, rfl, rfl⟩

set_option maxRecDepth 100000 in
set_option maxHeartbeats 1000000 in
theorem nameValid_calls (s : ByteArray) (w : World) (hm : s.size ≤ 1000000) : Calls Tryz.prog 70 #[.string s] w (SomeB w) := by
  by_cases t1 : s.size < 1
  · go_enter Tryz.func70, Tryz.ntmps70
    go_wp2_with fail
    go_ret
    exact ⟨_, rfl, rfl⟩
  · by_cases t2 : 64 < s.size
    · have t1' : decide ((s.size : Int) < 1) = false := decide_eq_false (by omega)
      clear t1
      go_enter Tryz.func70, Tryz.ntmps70
      go_wp2_with fail
      go_ret
      exact ⟨_, rfl, rfl⟩
    · have t1' : decide ((s.size : Int) < 1) = false := decide_eq_false (by omega)
      have t2' : decide (64 < (s.size : Int)) = false := decide_eq_false (by omega)
      go_enter Tryz.func70, Tryz.ntmps70
      go_wp2_with fail
      go_loopw [3, 4, 15] (fun _ _ iv wr => ∃ i : Nat, i ≤ s.size ∧ iv = .int .i64 i ∧ wr = w) (fun _ _ iv _ => s.size - (intOf iv).toNat)
      case atStart => exact ⟨0, Nat.zero_le _, rfl, rfl⟩
      case round =>
        obtain ⟨i, hi, rfl, rfl⟩ := hrel
        by_cases hlt : i < s.size
        · go_upto_region 7 with fail
          obtain ⟨c, hc⟩ : ∃ c, c = s[i].toNat := ⟨_, rfl⟩
          rw [← hc]
          clear hc
          have hsm := nameSmall_calls c wr
          go_cut [43] (fun v w' => ∃ t : Bool, v = .bool t ∧ w' = wr)
          case first =>
            go_wp2_with fail
            refine hsm.mono ?_
            rintro e w2 ⟨t, rfl, rfl⟩
            cases t
            · by_cases q1 : c < 48
              · by_cases q2 : c = 46
                · subst q2
                  go_wp2_with fail
                  go_meet
                  exact ⟨_, rfl, rfl⟩
                · by_cases q3 : c = 45
                  · subst q3
                    go_wp2_with fail
                    go_meet
                    exact ⟨_, rfl, rfl⟩
                  · have q4 : ¬ c = 95 := by omega
                    go_wp2_with fail
                    go_meet
                    exact ⟨_, rfl, rfl⟩
              · have f1 : decide ((c : Int) < 48) = false := decide_eq_false (by omega)
                by_cases q5 : 57 < c
                · by_cases q4 : c = 95
                  · subst q4
                    go_wp2_with fail
                    go_meet
                    exact ⟨_, rfl, rfl⟩
                  · have q2 : ¬ c = 46 := by omega
                    have q3 : ¬ c = 45 := by omega
                    go_wp2_with fail
                    go_meet
                    exact ⟨_, rfl, rfl⟩
                · have f5 : decide (57 < (c : Int)) = false := decide_eq_false (by omega)
                  go_wp2_with fail
                  go_meet
                  exact ⟨_, rfl, rfl⟩
            · go_wp2_with fail
              go_meet
              exact ⟨_, rfl, rfl⟩
          case rest =>
            obtain ⟨t, rfl, rfl⟩ := hcut
            cases t
            · go_wp2_with fail
              exact ⟨⟨i + 1, by omega, by go_num, trivial⟩, by simp [intOf]; omega⟩
            · go_wp2_with fail
              go_ret
              exact ⟨_, rfl, rfl⟩
        · go_wp2_with fail
          go_ret
          exact ⟨_, rfl, rfl⟩
end Go.Proofs.YtegiingcnhafbaaGreatDoor

/-! mani.objects: it answers, whatever the objects are. -/
namespace Go.Proofs.YtegiingcnhafbaaGreatDoor
open Go Go.RowKit Man

theorem objs1_calls (o : ObjD) (s : ByteArray) (c : Nat) (w : World) (hc : w.cell? ⟨c, 0, none⟩ = some (.string s)) :
    Calls Tryz.prog 72 #[.agg #[.string o.name, .int .i64 o.len, .int .u32 (o.sum : Int)], .pointer (some ⟨c, 0, none⟩)] w (BoolW w) := by
  have b1 := below_alloc w (.cells #[.string o.name, .int .i64 o.len, .int .u32 (o.sum : Int)] 44)
  have c1 : (w.alloc (.cells #[.string o.name, .int .i64 o.len, .int .u32 (o.sum : Int)] 44)).cell? ⟨c, 0, none⟩ = some (.string s) := by rw [b1.cell (World.block_lt_of_cell? _ _ hc)]; exact hc
  go_enter Tryz.func72, Tryz.ntmps72
  go_wp2_with fail
  go_ret
  exact ⟨_, rfl, b1⟩

def BoolW_ : Unit := ()
def IdxW (w : World) (e : Ending) (w' : World) : Prop := ∃ r : Int, e = .returned (.int .i64 r) ∧ Below w.heap.size w w'

set_option maxRecDepth 100000 in
set_option maxHeartbeats 1000000 in
theorem objsIdx_calls {w : World} {v : Value} {l : List ObjD} (s : ByteArray) (c : Nat) (hc : w.cell? ⟨c, 0, none⟩ = some (.string s)) (h : Rd w 3 v l.length (l.flatMap obV)) :
    Calls Tryz.prog 81 #[v, .func (.func 72) #[] #[.pointer (some ⟨c, 0, none⟩)]] w (IdxW w) := by
  obtain ⟨am, cm, rfl⟩ := h.slice
  have m1 := h.len_le
  go_enter Tryz.func81, Tryz.ntmps81
  go_wp2_with fail
  go_loopw [5, 8] (fun _ iv wr => ∃ i : Nat, i ≤ l.length ∧ iv = .int .i64 i ∧ Below w.heap.size w wr) (fun _ iv _ => l.length - (intOf iv).toNat)
  case atStart => exact ⟨0, Nat.zero_le _, rfl, Below.refl _ _⟩
  case round =>
    obtain ⟨i, hi, rfl, hb⟩ := hrel
    by_cases hlt : i < l.length
    · obtain ⟨b, o, rfl, hx⟩ := objs_at (h.below hb) i hlt
      obtain ⟨q0, q1, q2⟩ := hx i hlt
      have hcl := objs1_calls l[i] s c wr (by rw [hb.cell (World.block_lt_of_cell? _ _ hc)]; exact hc)
      obtain ⟨m, hm⟩ : ∃ m, m = l[i] := ⟨_, rfl⟩
      rw [← hm] at hcl q0 q1 q2
      clear hx hm
      go_wp2_with (go_at_call 72; refine hcl.mono ?_; rintro e w2 ⟨t, rfl, b2⟩)
      all_goals first
        | exact ⟨⟨i + 1, by omega, by go_num, nxt hb (by assumption)⟩, by simp [intOf]; omega⟩
        | (go_ret; exact ⟨_, rfl, nxt hb (by assumption)⟩)
    · go_wp2_with fail
      go_ret
      exact ⟨_, rfl, hb⟩

set_option maxRecDepth 100000 in
set_option maxHeartbeats 1000000 in
theorem objsHas_calls {w : World} {v : Value} {l : List ObjD} (s : ByteArray) (c : Nat) (hc : w.cell? ⟨c, 0, none⟩ = some (.string s)) (h : Rd w 3 v l.length (l.flatMap obV)) :
    Calls Tryz.prog 71 #[v, .func (.func 72) #[] #[.pointer (some ⟨c, 0, none⟩)]] w (BoolW w) := by
  have hcl := objsIdx_calls s c hc h
  unfold IdxW at hcl
  go_enter Tryz.func71, Tryz.ntmps71
  go_wp2_with fail
  refine hcl.mono ?_
  rintro e w2 ⟨r, rfl, b2⟩
  go_wp2_with fail
  go_ret
  exact ⟨_, rfl, b2⟩

theorem sl_obj : Tryz.prog.underlying 25 = some (.slice (Tryz.prog.elem 25)) := by kernel_rfl
theorem sz_obj : (Tryz.prog.info? (Tryz.prog.elem 25)).map (·.size) = some 3 := by kernel_rfl
theorem flat_take_n' {α : Type} (f : α → List Value) (C : Nat) : ∀ (l : List α), (∀ x ∈ l, (f x).length = C) → ∀ m, (l.flatMap f).take (m * C) = (l.take m).flatMap f := by
  intro l
  induction l with
  | nil => intro _ m; simp
  | cons x l ih =>
    intro h m
    cases m with
    | zero => simp
    | succ m =>
      have h1 := h x List.mem_cons_self
      rw [List.flatMap_cons, List.take_succ_cons, List.flatMap_cons, List.take_append, h1, List.take_of_length_le (by rw [h1, Nat.succ_mul]; omega), show (m + 1) * C - C = m * C by rw [Nat.succ_mul]; omega, ih (fun y hy => h y (List.mem_cons_of_mem _ hy)) m]
theorem objs_take {w : World} {a : Option Addr} {c : Nat} {l : List ObjD} (h : Rd w 3 (.slice a l.length c) l.length (l.flatMap obV)) (m : Nat) (hm : m ≤ l.length) :
    ∃ a' c', sliced a 0 m c 3 = .slice a' m c' ∧ l.length ≤ c ∧ ∀ W, Below w.heap.size w W → Rd W 3 (.slice a' m c') (l.take m).length ((l.take m).flatMap obV) := by
  obtain ⟨a', c', e, hr⟩ := part_all a l.length c 3 0 m (Nat.zero_le _) hm
  refine ⟨a', c', e, h.cap, fun W hW => ?_⟩
  have := hr W _ (h.below hW)
  rw [Nat.zero_mul, List.drop_zero, Nat.sub_zero, flat_take_n' obV 3 l (obV_len l)] at this
  rw [List.length_take, Nat.min_eq_left hm]
  exact this

/-- It answers nil, or an error. -/
def NilErr (w : World) (e : Ending) (w' : World) : Prop := (e = .returned .nilIface ∨ ∃ t u, e = .returned (.iface t u)) ∧ Below w.heap.size w w'

set_option maxRecDepth 100000 in
set_option maxHeartbeats 2000000 in
theorem objects_calls (S : List Nat) (A : Nat → Addr) {w : World} {v : Value} {l : List ObjD} (hS : Sents S w A) (h2 : 2 ∈ S) (h3 : 3 ∈ S) (h4 : 4 ∈ S) (h5 : 5 ∈ S) (h : Rd w 3 v l.length (l.flatMap obV)) (hn : ∀ o ∈ l, o.name.size ≤ 100) :
    Calls Tryz.prog 47 #[v] w (NilErr w) := by
  obtain ⟨am, cm, rfl⟩ := h.slice
  have m1 := h.len_le
  have HN := Lib.hid hn
  clear hn
  have g2 : ∀ w', Below w.heap.size w w' → w'.cell? ⟨0, 0, none⟩ = some (.iface 149 (.pointer (some (A 2)))) := fun w' b => (hS.below b).cell 2 h2
  have g3 : ∀ w', Below w.heap.size w w' → w'.cell? ⟨4, 0, none⟩ = some (.iface 149 (.pointer (some (A 3)))) := fun w' b => (hS.below b).cell 3 h3
  have g4 : ∀ w', Below w.heap.size w w' → w'.cell? ⟨2, 0, none⟩ = some (.iface 149 (.pointer (some (A 4)))) := fun w' b => (hS.below b).cell 4 h4
  have g5 : ∀ w', Below w.heap.size w w' → w'.cell? ⟨5, 0, none⟩ = some (.iface 149 (.pointer (some (A 5)))) := fun w' b => (hS.below b).cell 5 h5
  by_cases t1 : l.length < 1
  · have k3 := g3 w (Below.refl _ _)
    go_enter Tryz.func47, Tryz.ntmps47
    go_wp2_with fail
    go_ret
    exact ⟨.inr ⟨_, _, rfl⟩, Below.refl _ _⟩
  · have t1' : decide ((l.length : Int) < 1) = false := decide_eq_false (by omega)
    by_cases t2 : 8 < l.length
    · have k3 := g3 w (Below.refl _ _)
      clear t1
      go_enter Tryz.func47, Tryz.ntmps47
      go_wp2_with fail
      go_ret
      exact ⟨.inr ⟨_, _, rfl⟩, Below.refl _ _⟩
    · have t2' : decide (8 < (l.length : Int)) = false := decide_eq_false (by omega)
      go_enter Tryz.func47, Tryz.ntmps47
      go_wp2_with fail
      go_loopw [3, 4, 18] (fun _ _ iv wr => ∃ i : Nat, i ≤ l.length ∧ iv = .int .i64 i ∧ Below w.heap.size w wr) (fun _ _ iv _ => l.length - (intOf iv).toNat)
      case atStart => exact ⟨0, Nat.zero_le _, rfl, Below.refl _ _⟩
      case round =>
        obtain ⟨i, hi, rfl, hb⟩ := hrel
        by_cases hlt : i < l.length
        · obtain ⟨b, o, rfl, hx⟩ := objs_at (h.below hb) i hlt
          obtain ⟨q0, q1, q2⟩ := hx i hlt
          have hnm := HN.out l[i] (List.getElem_mem hlt)
          obtain ⟨m, hm⟩ : ∃ m, m = l[i] := ⟨_, rfl⟩
          rw [← hm] at q0 q1 q2 hnm
          clear hx hm
          go_upto_region 6 with fail
          have ba := below_alloc wr (.cells #[.string m.name, .int .i64 m.len, .int .u32 (m.sum : Int)] 44)
          have rowa := heap_alloc_new wr (.cells #[.string m.name, .int .i64 m.len, .int .u32 (m.sum : Int)] 44)
          obtain ⟨wa, hwa⟩ : ∃ wa, wa = wr.alloc (.cells #[.string m.name, .int .i64 m.len, .int .u32 (m.sum : Int)] 44) := ⟨_, rfl⟩
          obtain ⟨g, hg⟩ : ∃ g, g = wr.heap.size := ⟨_, rfl⟩
          rw [← hwa] at ba rowa ⊢
          rw [← hg] at rowa ⊢
          clear hwa hg q0 q1 q2
          have p0 : wa.cell? ⟨g, 0, none⟩ = some (.string m.name) := cell_of_row _ _ 0 _ _ _ rowa
          have p1 : wa.cell? ⟨g, 1, none⟩ = some (.int .i64 m.len) := cell_of_row _ _ 1 _ _ _ rowa
          have B1 := nxt hb ba
          have k5 := g5 wa B1
          have k4 := g4 wa B1
          have hv := nameValid_calls m.name wa (by omega)
          clear rowa
          go_wp2_with fail
          refine hv.mono ?_
          rintro e w2 ⟨t, rfl, rfl⟩
          clear hv
          cases t
          · go_wp2_with fail
            go_ret
            exact ⟨.inr ⟨_, _, rfl⟩, bAlloc B1 _⟩
          · by_cases e1 : m.len < 0
            · go_wp2_with fail
              go_ret
              exact ⟨.inr ⟨_, _, rfl⟩, bAlloc B1 _⟩
            · by_cases e2 : 1073741824 < m.len
              · have e1' : decide (m.len < 0) = false := decide_eq_false (by omega)
                go_wp2_with fail
                go_ret
                exact ⟨.inr ⟨_, _, rfl⟩, bAlloc B1 _⟩
              · have e1' : decide (m.len < 0) = false := decide_eq_false (by omega)
                have e2' : decide (1073741824 < m.len) = false := decide_eq_false (by omega)
                go_wp2_with fail
                exact ⟨⟨i + 1, by omega, by go_num, B1⟩, by simp [intOf]; omega⟩
        · go_wp2_with fail
          go_loopw [5, 6, 48] (fun _ _ iv wr => ∃ i : Nat, i ≤ l.length ∧ iv = .int .i64 i ∧ Below w.heap.size w wr) (fun _ _ iv _ => l.length - (intOf iv).toNat)
          case atStart => exact ⟨0, Nat.zero_le _, rfl, hb⟩
          case round =>
            clear hb hlt
            obtain ⟨i, hi, rfl, hb⟩ := hrel
            by_cases hlt : i < l.length
            · have hR := h.below hb
              obtain ⟨a', c', e', hcap, hT⟩ := objs_take hR i (by omega)
              have hcut : ∀ W, (Instr.sliceAt 25 (.slice am l.length cm) none (some (.int .i64 (i : Int))) none).run Tryz.prog W = .ok (.slice a' i c') W := fun W => by
                rw [run_cut_h 25 sl_obj 3 sz_obj am l.length cm i .i64 (by omega) W, e']
              obtain ⟨b, o, rfl, hx⟩ := objs_at (h.below hb) i hlt
              obtain ⟨q0, q1, q2⟩ := hx i hlt
              obtain ⟨m, hm⟩ : ∃ m, m = l[i] := ⟨_, rfl⟩
              rw [← hm] at q0 q1 q2
              clear hx hm hcap e'
              go_upto_region 14 with fail
              have ba := below_alloc wr (.cells #[.string m.name, .int .i64 m.len, .int .u32 (m.sum : Int)] 44)
              have rowa := heap_alloc_new wr (.cells #[.string m.name, .int .i64 m.len, .int .u32 (m.sum : Int)] 44)
              obtain ⟨wa, hwa⟩ : ∃ wa, wa = wr.alloc (.cells #[.string m.name, .int .i64 m.len, .int .u32 (m.sum : Int)] 44) := ⟨_, rfl⟩
              obtain ⟨g, hg⟩ : ∃ g, g = wr.heap.size := ⟨_, rfl⟩
              rw [← hwa] at ba rowa ⊢
              rw [← hg] at rowa ⊢
              clear hwa hg q0 q1 q2
              have p0 : wa.cell? ⟨g, 0, none⟩ = some (.string m.name) := cell_of_row _ _ 0 _ _ _ rowa
              have B1 := nxt hb ba
              have hc := objsHas_calls m.name g p0 (hT wa ba)
              rw [show (l.take i).length = i by rw [List.length_take]; omega] at hT
              clear hT rowa
              go_wp2_with (first | exact hcut _ | fail)
              with_reducible refine hc.mono ?_
              rintro e w2 ⟨t, rfl, b2⟩
              have B2 := nxt B1 b2
              have k2 := g2 w2 B2
              clear hc
              cases t
              · go_wp2_with fail
                exact ⟨⟨i + 1, by omega, by go_num, B2⟩, by simp [intOf]; omega⟩
              · go_wp2_with fail
                go_ret
                exact ⟨.inr ⟨_, _, rfl⟩, B2⟩
            · go_wp2_with fail
              go_ret
              exact ⟨.inl rfl, hb⟩
end Go.Proofs.YtegiingcnhafbaaGreatDoor

/-! mani.objects: the closure, and who has a name; exact. -/
namespace Go.Proofs.YtegiingcnhafbaaGreatDoor
open Go Go.RowKit Man

theorem objs1_is (o : ObjD) (s : ByteArray) (c : Nat) (w : World) (hc : w.cell? ⟨c, 0, none⟩ = some (.string s)) :
    Calls Tryz.prog 72 #[.agg #[.string o.name, .int .i64 o.len, .int .u32 (o.sum : Int)], .pointer (some ⟨c, 0, none⟩)] w (fun e w' => e = .returned (.bool (decide (o.name = s))) ∧ Below w.heap.size w w') := by
  have b1 := below_alloc w (.cells #[.string o.name, .int .i64 o.len, .int .u32 (o.sum : Int)] 44)
  have c1 : (w.alloc (.cells #[.string o.name, .int .i64 o.len, .int .u32 (o.sum : Int)] 44)).cell? ⟨c, 0, none⟩ = some (.string s) := by rw [b1.cell (World.block_lt_of_cell? _ _ hc)]; exact hc
  go_enter Tryz.func72, Tryz.ntmps72
  go_wp2_with fail
  go_ret
  exact ⟨by simp; exact name_beq o.name s, b1⟩

def hasN (l : List ObjD) (s : ByteArray) : Bool := l.any (fun o => decide (o.name = s))
def IdxN (l : List ObjD) (s : ByteArray) (w : World) (e : Ending) (w' : World) : Prop := ∃ r : Int, e = .returned (.int .i64 r) ∧ decide (0 ≤ r) = hasN l s ∧ Below w.heap.size w w'

set_option maxRecDepth 100000 in
set_option maxHeartbeats 1000000 in
theorem objsIdx_is {w : World} {v : Value} {l : List ObjD} (s : ByteArray) (c : Nat) (hc : w.cell? ⟨c, 0, none⟩ = some (.string s)) (h : Rd w 3 v l.length (l.flatMap obV)) :
    Calls Tryz.prog 81 #[v, .func (.func 72) #[] #[.pointer (some ⟨c, 0, none⟩)]] w (IdxN l s w) := by
  obtain ⟨am, cm, rfl⟩ := h.slice
  have m1 := h.len_le
  go_enter Tryz.func81, Tryz.ntmps81
  go_wp2_with fail
  go_loopw [5, 8] (fun _ iv wr => ∃ i : Nat, i ≤ l.length ∧ iv = .int .i64 i ∧ Below w.heap.size w wr ∧ ∀ j (h : j < l.length), j < i → l[j].name ≠ s) (fun _ iv _ => l.length - (intOf iv).toNat)
  case atStart => exact ⟨0, Nat.zero_le _, rfl, Below.refl _ _, fun j _ h => by omega⟩
  case round =>
    obtain ⟨i, hi, rfl, hb, hj⟩ := hrel
    have HJ := Lib.hid hj
    clear hj
    by_cases hlt : i < l.length
    · obtain ⟨b, o, rfl, hx⟩ := objs_at (h.below hb) i hlt
      obtain ⟨q0, q1, q2⟩ := hx i hlt
      have hcl := objs1_is l[i] s c wr (by rw [hb.cell (World.block_lt_of_cell? _ _ hc)]; exact hc)
      obtain ⟨m, hm⟩ : ∃ m, m = l[i] := ⟨_, rfl⟩
      rw [← hm] at hcl q0 q1 q2
      have HM := Lib.hid hm
      clear hx hm
      by_cases hq : m.name = s
      · have HQ := Lib.hid (show hasN l s = true by
          unfold hasN; rw [List.any_eq_true]; exact ⟨l[i], List.getElem_mem hlt, by rw [← HM.out, hq]; simp⟩)
        rw [decide_eq_true hq] at hcl
        clear hq
        go_wp2_with (go_at_call 72; refine hcl.mono ?_; rintro e w2 ⟨rfl, b2⟩)
        go_ret
        exact ⟨_, rfl, by rw [HQ.out]; simp, nxt hb (by assumption)⟩
      · have HQ := Lib.hid hq
        rw [decide_eq_false hq] at hcl
        clear hq
        go_wp2_with (go_at_call 72; refine hcl.mono ?_; rintro e w2 ⟨rfl, b2⟩)
        refine ⟨⟨i + 1, by omega, by go_num, nxt hb (by assumption), fun j hjl hj => ?_⟩, by simp [intOf]; omega⟩
        by_cases e : j = i
        · subst e; rw [← HM.out]; exact HQ.out
        · exact HJ.out j hjl (by omega)
    · go_wp2_with fail
      go_ret
      refine ⟨_, rfl, ?_, hb⟩
      have : hasN l s = false := by
        unfold hasN
        rw [List.any_eq_false]
        intro o ho
        obtain ⟨j, hjl, rfl⟩ := List.mem_iff_getElem.1 ho
        simp [HJ.out j hjl (by omega)]
      rw [this]; rfl

set_option maxRecDepth 100000 in
set_option maxHeartbeats 1000000 in
theorem objsHas_is {w : World} {v : Value} {l : List ObjD} (s : ByteArray) (c : Nat) (hc : w.cell? ⟨c, 0, none⟩ = some (.string s)) (h : Rd w 3 v l.length (l.flatMap obV)) :
    Calls Tryz.prog 71 #[v, .func (.func 72) #[] #[.pointer (some ⟨c, 0, none⟩)]] w (fun e w' => e = .returned (.bool (hasN l s)) ∧ Below w.heap.size w w') := by
  have hcl := objsIdx_is s c hc h
  unfold IdxN at hcl
  obtain ⟨t, ht⟩ : ∃ t, t = hasN l s := ⟨_, rfl⟩
  rw [← ht] at hcl ⊢
  clear ht
  go_enter Tryz.func71, Tryz.ntmps71
  go_wp2_with fail
  refine hcl.mono ?_
  rintro e w2 ⟨r, rfl, hr, b2⟩
  go_wp2_with fail
  go_ret
  exact ⟨by first | rfl | (rw [← hr]; rfl) | simp [← hr], b2⟩
end Go.Proofs.YtegiingcnhafbaaGreatDoor

/-! mani.objects: what is amiss with objects, exact. -/
namespace Go.Proofs.YtegiingcnhafbaaGreatDoor
open Go Go.RowKit Man

def objsOk (l : List ObjD) : Prop := 1 ≤ l.length ∧ l.length ≤ 8 ∧ (∀ i (h : i < l.length), nameOk l[i].name = true ∧ 0 ≤ l[i].len ∧ l[i].len ≤ 1073741824) ∧ ∀ i (h : i < l.length), hasN (l.take i) l[i].name = false
def goodO (o : ObjD) : Prop := nameOk o.name = true ∧ 0 ≤ o.len ∧ o.len ≤ 1073741824
/-- What is amiss with objects. -/
inductive OBad (l : List ObjD) : Er → Prop
  | fine : objsOk l → OBad l .fine
  | many : (l.length < 1 ∨ 8 < l.length) → OBad l (.bare 3)
  | name (i : Nat) (h : i < l.length) : l.length ≤ 8 → (∀ j (hj : j < l.length), j < i → goodO l[j]) → nameOk l[i].name = false → OBad l (.placed 5 i)
  | len (i : Nat) (h : i < l.length) : l.length ≤ 8 → (∀ j (hj : j < l.length), j < i → goodO l[j]) → nameOk l[i].name = true → (l[i].len < 0 ∨ 1073741824 < l[i].len) → OBad l (.placed 4 i)
  | twice (i : Nat) (h : i < l.length) : l.length ≤ 8 → (∀ j (hj : j < l.length), goodO l[j]) → hasN (l.take i) l[i].name = true → OBad l (.bare 2)
theorem OBad.fine_iff {l : List ObjD} {e : Er} (h : OBad l e) : e = .fine ↔ objsOk l := by
  constructor
  · rintro rfl; cases h; assumption
  · intro hk
    have hk' := hk
    unfold objsOk at hk'
    obtain ⟨h1, h2, h3, h4⟩ := hk'
    cases h with
    | fine _ => rfl
    | many h => omega
    | name i hi _ _ h => have := (h3 i hi).1; rw [h] at this; cases this
    | len i hi _ _ _ h => have := (h3 i hi).2; omega
    | twice i hi _ _ h => have := h4 i hi; rw [h] at this; cases this
theorem OBad.uniq {l : List ObjD} {e e' : Er} (h : OBad l e) (h' : OBad l e') : e = e' := by
  by_cases hk : objsOk l
  · rw [h.fine_iff.2 hk, h'.fine_iff.2 hk]
  · cases h with
    | fine h => exact absurd h hk
    | many h =>
      cases h' with
      | fine h => exact absurd h hk
      | many _ => rfl
      | name i hi _ _ _ => omega
      | len i hi _ _ _ _ => omega
      | twice i hi _ _ _ => omega
    | name i hi h1 h2 h3 =>
      cases h' with
      | fine h => exact absurd h hk
      | many h => omega
      | name j hj _ k2 k3 =>
        have e1 : i = j := by
          rcases Nat.lt_trichotomy i j with h | h | h
          · have := (k2 i hi h).1; rw [h3] at this; cases this
          · exact h
          · have := (h2 j hj h).1; rw [k3] at this; cases this
        subst e1; rfl
      | len j hj _ k2 k3 k4 =>
        exfalso
        rcases Nat.lt_trichotomy i j with h | h | h
        · have := (k2 i hi h).1; rw [h3] at this; cases this
        · subst h; rw [h3] at k3; cases k3
        · have := (h2 j hj h).2; omega
      | twice j hj _ k2 _ => have := (k2 i hi).1; rw [h3] at this; cases this
    | len i hi h1 h2 h3 h4 =>
      cases h' with
      | fine h => exact absurd h hk
      | many h => omega
      | name j hj _ k2 k3 =>
        exfalso
        rcases Nat.lt_trichotomy i j with h | h | h
        · have := (k2 i hi h).2; omega
        · subst h; rw [h3] at k3; cases k3
        · have := (h2 j hj h).1; rw [k3] at this; cases this
      | len j hj _ k2 k3 k4 =>
        have e1 : i = j := by
          rcases Nat.lt_trichotomy i j with h | h | h
          · have := (k2 i hi h).2; omega
          · exact h
          · have := (h2 j hj h).2; omega
        subst e1; rfl
      | twice j hj _ k2 _ => have := (k2 i hi).2; omega
    | twice i hi h1 h2 h3 =>
      cases h' with
      | fine h => exact absurd h hk
      | many h => omega
      | name j hj _ k2 k3 => have := (h2 j hj).1; rw [k3] at this; cases this
      | len j hj _ k2 k3 k4 => have := (h2 j hj).2; omega
      | twice j hj _ k2 _ => rfl

/-- It answers an error of which P holds. -/
def ErPost (A : Nat → Addr) (P : Er → Prop) (w : World) (e : Ending) (w' : World) : Prop := ∃ v er, e = .returned v ∧ P er ∧ ErRow A w' v er ∧ Below w.heap.size w w'
/-- It answers nil where P holds, else an error. -/
def NilIff (P : Prop) (w : World) (e : Ending) (w' : World) : Prop := ((e = .returned .nilIface ∧ P) ∨ ((∃ t u, e = .returned (.iface t u)) ∧ ¬ P)) ∧ Below w.heap.size w w'

set_option maxRecDepth 100000 in
set_option maxHeartbeats 2000000 in
theorem objects_is (S : List Nat) (A : Nat → Addr) {w : World} {v : Value} {l : List ObjD} (hS : Sents S w A) (h2 : 2 ∈ S) (h3 : 3 ∈ S) (h4 : 4 ∈ S) (h5 : 5 ∈ S) (h : Rd w 3 v l.length (l.flatMap obV)) (hn : ∀ o ∈ l, o.name.size ≤ 100) :
    Calls Tryz.prog 47 #[v] w (ErPost A (OBad l) w) := by
  obtain ⟨am, cm, rfl⟩ := h.slice
  have m1 := h.len_le
  have HN := Lib.hid hn
  have HP := Lib.hid (show objsOk l = (1 ≤ l.length ∧ l.length ≤ 8 ∧ (∀ i (h : i < l.length), nameOk l[i].name = true ∧ 0 ≤ l[i].len ∧ l[i].len ≤ 1073741824) ∧ ∀ i (h : i < l.length), hasN (l.take i) l[i].name = false) from rfl)
  clear hn
  have g2 : ∀ w', Below w.heap.size w w' → w'.cell? ⟨0, 0, none⟩ = some (.iface 149 (.pointer (some (A 2)))) := fun w' b => (hS.below b).cell 2 h2
  have g3 : ∀ w', Below w.heap.size w w' → w'.cell? ⟨4, 0, none⟩ = some (.iface 149 (.pointer (some (A 3)))) := fun w' b => (hS.below b).cell 3 h3
  have g4 : ∀ w', Below w.heap.size w w' → w'.cell? ⟨2, 0, none⟩ = some (.iface 149 (.pointer (some (A 4)))) := fun w' b => (hS.below b).cell 4 h4
  have g5 : ∀ w', Below w.heap.size w w' → w'.cell? ⟨5, 0, none⟩ = some (.iface 149 (.pointer (some (A 5)))) := fun w' b => (hS.below b).cell 5 h5
  by_cases t1 : l.length < 1
  · have k3 := g3 w (Below.refl _ _)
    go_enter Tryz.func47, Tryz.ntmps47
    go_wp2_with fail
    go_ret
    exact ⟨_, _, rfl, .many (by omega), ⟨by omega, rfl⟩, Below.refl _ _⟩
  · have t1' : decide ((l.length : Int) < 1) = false := decide_eq_false (by omega)
    by_cases t2 : 8 < l.length
    · have k3 := g3 w (Below.refl _ _)
      clear t1
      go_enter Tryz.func47, Tryz.ntmps47
      go_wp2_with fail
      go_ret
      exact ⟨_, _, rfl, .many (by omega), ⟨by omega, rfl⟩, Below.refl _ _⟩
    · have t2' : decide (8 < (l.length : Int)) = false := decide_eq_false (by omega)
      go_enter Tryz.func47, Tryz.ntmps47
      go_wp2_with fail
      go_loopw [3, 4, 18] (fun _ _ iv wr => ∃ i : Nat, i ≤ l.length ∧ iv = .int .i64 i ∧ Below w.heap.size w wr ∧ ∀ j (h : j < l.length), j < i → nameOk l[j].name = true ∧ 0 ≤ l[j].len ∧ l[j].len ≤ 1073741824) (fun _ _ iv _ => l.length - (intOf iv).toNat)
      case atStart => exact ⟨0, Nat.zero_le _, rfl, Below.refl _ _, fun j _ h => by omega⟩
      case round =>
        obtain ⟨i, hi, rfl, hb, hj⟩ := hrel
        have HJ := Lib.hid hj
        clear hj
        by_cases hlt : i < l.length
        · obtain ⟨b, o, rfl, hx⟩ := objs_at (h.below hb) i hlt
          obtain ⟨q0, q1, q2⟩ := hx i hlt
          have hnm := HN.out l[i] (List.getElem_mem hlt)
          obtain ⟨m, hm⟩ : ∃ m, m = l[i] := ⟨_, rfl⟩
          rw [← hm] at q0 q1 q2 hnm
          have HM := Lib.hid hm
          have HX5 := Lib.hid (show nameOk m.name = false → OBad l (.placed 5 i) from fun h1 => .name i hlt (by omega) (fun j hj h => HJ.out j hj h) (by rw [← hm]; exact h1))
          have HX4 := Lib.hid (show nameOk m.name = true → (m.len < 0 ∨ 1073741824 < m.len) → OBad l (.placed 4 i) from fun h1 h2 => .len i hlt (by omega) (fun j hj h => HJ.out j hj h) (by rw [← hm]; exact h1) (by rw [← hm]; exact h2))
          clear hx hm
          go_upto_region 6 with fail
          have ba := below_alloc wr (.cells #[.string m.name, .int .i64 m.len, .int .u32 (m.sum : Int)] 44)
          have rowa := heap_alloc_new wr (.cells #[.string m.name, .int .i64 m.len, .int .u32 (m.sum : Int)] 44)
          obtain ⟨wa, hwa⟩ : ∃ wa, wa = wr.alloc (.cells #[.string m.name, .int .i64 m.len, .int .u32 (m.sum : Int)] 44) := ⟨_, rfl⟩
          obtain ⟨g, hg⟩ : ∃ g, g = wr.heap.size := ⟨_, rfl⟩
          rw [← hwa] at ba rowa ⊢
          rw [← hg] at rowa ⊢
          clear hwa hg q0 q1 q2
          have p0 : wa.cell? ⟨g, 0, none⟩ = some (.string m.name) := cell_of_row _ _ 0 _ _ _ rowa
          have p1 : wa.cell? ⟨g, 1, none⟩ = some (.int .i64 m.len) := cell_of_row _ _ 1 _ _ _ rowa
          have B1 := nxt hb ba
          have k5 := g5 wa B1
          have k4 := g4 wa B1
          have hv := nameValid_is m.name wa (by omega)
          clear rowa
          go_wp2_with fail
          refine hv.mono ?_
          rintro e w2 ⟨rfl, rfl⟩
          clear hv
          cases hno : nameOk m.name
          · go_wp2_with fail
            go_ret
            exact ⟨_, _, rfl, HX5.out hno, ⟨by omega, _, rfl, heap_alloc_new _ _⟩, bAlloc B1 _⟩
          · by_cases e1 : m.len < 0
            · go_wp2_with fail
              go_ret
              exact ⟨_, _, rfl, HX4.out hno (by omega), ⟨by omega, _, rfl, heap_alloc_new _ _⟩, bAlloc B1 _⟩
            · by_cases e2 : 1073741824 < m.len
              · have e1' : decide (m.len < 0) = false := decide_eq_false (by omega)
                go_wp2_with fail
                go_ret
                exact ⟨_, _, rfl, HX4.out hno (by omega), ⟨by omega, _, rfl, heap_alloc_new _ _⟩, bAlloc B1 _⟩
              · have e1' : decide (m.len < 0) = false := decide_eq_false (by omega)
                have e2' : decide (1073741824 < m.len) = false := decide_eq_false (by omega)
                go_wp2_with fail
                refine ⟨⟨i + 1, by omega, by go_num, B1, fun j hjl hj => ?_⟩, by simp [intOf]; omega⟩
                by_cases e : j = i
                · subst e; rw [← HM.out]; exact ⟨hno, by omega, by omega⟩
                · exact HJ.out j hjl (by omega)
        · go_wp2_with fail
          go_loopw [5, 6, 48] (fun _ _ iv wr => ∃ i : Nat, i ≤ l.length ∧ iv = .int .i64 i ∧ Below w.heap.size w wr ∧ ∀ j (h : j < l.length), j < i → hasN (l.take j) l[j].name = false) (fun _ _ iv _ => l.length - (intOf iv).toNat)
          case atStart => exact ⟨0, Nat.zero_le _, rfl, hb, fun j _ h => by omega⟩
          case round =>
            obtain ⟨i2, hi2, rfl, hb2, hj2⟩ := hrel
            have HA := Lib.hid (show ∀ j (h : j < l.length), nameOk l[j].name = true ∧ 0 ≤ l[j].len ∧ l[j].len ≤ 1073741824 from fun j h => HJ.out j h (by omega))
            have HJ2 := Lib.hid hj2
            clear hj2
            by_cases hlt2 : i2 < l.length
            · have hR := h.below hb2
              obtain ⟨a', c', e', hcap, hT⟩ := objs_take hR i2 (by omega)
              have hcut : ∀ W, (Instr.sliceAt 25 (.slice am l.length cm) none (some (.int .i64 (i2 : Int))) none).run Tryz.prog W = .ok (.slice a' i2 c') W := fun W => by
                rw [run_cut_h 25 sl_obj 3 sz_obj am l.length cm i2 .i64 (by omega) W, e']
              obtain ⟨b, o, rfl, hx⟩ := objs_at (h.below hb2) i2 hlt2
              obtain ⟨q0, q1, q2⟩ := hx i2 hlt2
              obtain ⟨m, hm⟩ : ∃ m, m = l[i2] := ⟨_, rfl⟩
              rw [← hm] at q0 q1 q2
              have HM := Lib.hid hm
              clear hx hm hcap e'
              go_upto_region 14 with fail
              have ba := below_alloc wr (.cells #[.string m.name, .int .i64 m.len, .int .u32 (m.sum : Int)] 44)
              have rowa := heap_alloc_new wr (.cells #[.string m.name, .int .i64 m.len, .int .u32 (m.sum : Int)] 44)
              obtain ⟨wa, hwa⟩ : ∃ wa, wa = wr.alloc (.cells #[.string m.name, .int .i64 m.len, .int .u32 (m.sum : Int)] 44) := ⟨_, rfl⟩
              obtain ⟨g, hg⟩ : ∃ g, g = wr.heap.size := ⟨_, rfl⟩
              rw [← hwa] at ba rowa ⊢
              rw [← hg] at rowa ⊢
              clear hwa hg q0 q1 q2
              have p0 : wa.cell? ⟨g, 0, none⟩ = some (.string m.name) := cell_of_row _ _ 0 _ _ _ rowa
              have B1 := nxt hb2 ba
              have hc := objsHas_is m.name g p0 (hT wa ba)
              rw [show (l.take i2).length = i2 by rw [List.length_take]; omega] at hT
              clear hT rowa
              go_wp2_with (first | exact hcut _ | fail)
              with_reducible refine hc.mono ?_
              rintro e w2 ⟨rfl, b2⟩
              have B2 := nxt B1 b2
              have k2 := g2 w2 B2
              clear hc
              cases hno : hasN (l.take i2) m.name
              · go_wp2_with fail
                refine ⟨⟨i2 + 1, by omega, by go_num, B2, fun j hjl hj => ?_⟩, by simp [intOf]; omega⟩
                by_cases e : j = i2
                · subst e; rw [← HM.out]; exact hno
                · exact HJ2.out j hjl (by omega)
              · go_wp2_with fail
                go_ret
                exact ⟨_, _, rfl, .twice i2 hlt2 (by omega) (fun j hj => HA.out j hj) (by rw [← HM.out]; exact hno), ⟨by omega, rfl⟩, B2⟩
            · go_wp2_with fail
              go_ret
              exact ⟨_, _, rfl, .fine (by rw [HP.out]; exact ⟨by omega, by omega, HA.out, fun j hjl => HJ2.out j hjl (by omega)⟩), rfl, hb2⟩
end Go.Proofs.YtegiingcnhafbaaGreatDoor

/-! mani.Valid: it answers, whatever the manifest is. -/
namespace Go.Proofs.YtegiingcnhafbaaGreatDoor
open Go Go.RowKit Man

theorem validRight_calls (n : Int) (w : World) : Calls Tryz.prog 45 #[.int .i64 n] w (SomeB w) := by
  by_cases h1 : 0 ≤ n
  · by_cases h2 : n ≤ 1099511627776
    · go_enter Tryz.func45, Tryz.ntmps45
      go_wp2_with fail
      go_ret
      exact ⟨_, rfl, rfl⟩
    · have h2' : decide (n ≤ 1099511627776) = false := decide_eq_false (by omega)
      clear h2
      go_enter Tryz.func45, Tryz.ntmps45
      go_wp2_with fail
      go_ret
      exact ⟨_, rfl, rfl⟩
  · have h1' : decide (0 ≤ n) = false := decide_eq_false (by omega)
    clear h1
    go_enter Tryz.func45, Tryz.ntmps45
    go_wp2_with fail
    go_ret
    exact ⟨_, rfl, rfl⟩

set_option maxRecDepth 100000 in
set_option maxHeartbeats 4000000 in
theorem maniValid_calls (S : List Nat) (A : Nat → Addr) {w : World} {m : ManD} {ve vo : Value} (hS : Sents S w A) (h2 : 2 ∈ S) (h3 : 3 ∈ S) (h4 : 4 ∈ S) (h5 : 5 ∈ S) (h : ManRd w m ve vo) (hs : Small m) :
    Calls Tryz.prog 19 #[manA m ve vo] w (NilErr w) := by
  obtain ⟨re, ro⟩ := h
  obtain ⟨ae, ce, rfl⟩ := re.slice
  obtain ⟨ao, co, rfl⟩ := ro.slice
  have me := re.len_le
  have HN := Lib.hid hs.2.2
  clear hs
  obtain ⟨id, ba, fi, ti, eps, objs⟩ := m
  simp only at re ro me HN
  have b1 := below_alloc w (.cells #[.int .i64 id, .int .i64 ba, .int .i64 fi, .int .i64 ti, .slice ae eps.length ce, .slice ao objs.length co] 27)
  have row1 := heap_alloc_new w (.cells #[.int .i64 id, .int .i64 ba, .int .i64 fi, .int .i64 ti, .slice ae eps.length ce, .slice ao objs.length co] 27)
  unfold manA
  simp only
  go_enter Tryz.func19, Tryz.ntmps19
  go_upto_region 2 with fail
  obtain ⟨w1, hw1⟩ : ∃ w1, w1 = w.alloc (.cells #[.int .i64 id, .int .i64 ba, .int .i64 fi, .int .i64 ti, .slice ae eps.length ce, .slice ao objs.length co] 27) := ⟨_, rfl⟩
  obtain ⟨g, hg⟩ : ∃ g, g = w.heap.size := ⟨_, rfl⟩
  rw [← hw1] at b1 row1 ⊢
  rw [← hg] at row1 ⊢
  clear hw1 hg
  have d0 : w1.cell? ⟨g, 0, none⟩ = some (.int .i64 id) := cell_of_row _ _ 0 _ _ _ row1
  have d1 : w1.cell? ⟨g, 1, none⟩ = some (.int .i64 ba) := cell_of_row _ _ 1 _ _ _ row1
  have d2 : w1.cell? ⟨g, 2, none⟩ = some (.int .i64 fi) := cell_of_row _ _ 2 _ _ _ row1
  have d3 : w1.cell? ⟨g, 3, none⟩ = some (.int .i64 ti) := cell_of_row _ _ 3 _ _ _ row1
  have hc1 := validRight_calls ba w1
  have hc2 := validRight_calls fi w1
  go_cut [45] (fun z wx => ∃ t : Bool, z = .bool t ∧ wx = w1)
  case first =>
    by_cases e1 : id < 0
    · go_wp2_with fail
      go_meet
      exact ⟨_, rfl, rfl⟩
    · have e1' : decide (id < 0) = false := decide_eq_false (by omega)
      clear e1
      by_cases e2 : 2147483647 < id
      · go_wp2_with fail
        go_meet
        exact ⟨_, rfl, rfl⟩
      · have e2' : decide (2147483647 < id) = false := decide_eq_false (by omega)
        clear e2
        go_wp2_with fail
        with_reducible refine hc1.mono ?_
        rintro e w2 ⟨t, rfl, rfl⟩
        cases t
        · go_wp2_with fail
          go_meet
          exact ⟨_, rfl, rfl⟩
        · go_wp2_with fail
          with_reducible refine hc2.mono ?_
          rintro e w2 ⟨t, rfl, rfl⟩
          cases t
          · go_wp2_with fail
            go_meet
            exact ⟨_, rfl, rfl⟩
          · by_cases e3 : ti < -1099511627776
            · go_wp2_with fail
              go_meet
              exact ⟨_, rfl, rfl⟩
            · have e3' : decide (ti < -1099511627776) = false := decide_eq_false (by omega)
              clear e3
              by_cases e4 : 1099511627776 < ti
              · go_wp2_with fail
                go_meet
                exact ⟨_, rfl, rfl⟩
              · have e4' : decide (1099511627776 < ti) = false := decide_eq_false (by omega)
                clear e4
                go_wp2_with fail
                go_meet
                exact ⟨_, rfl, rfl⟩
  case rest =>
    obtain ⟨t, rfl, rfl⟩ := hcut
    clear hc1 hc2 d0 d3
    have d4 : wc.cell? ⟨g, 4, none⟩ = some (.slice ae eps.length ce) := cell_of_row _ _ 4 _ _ _ row1
    have d5 : wc.cell? ⟨g, 5, none⟩ = some (.slice ao objs.length co) := cell_of_row _ _ 5 _ _ _ row1
    have k4 : wc.cell? ⟨2, 0, none⟩ = some (.iface 149 (.pointer (some (A 4)))) := (hS.below b1).cell 4 h4
    cases t
    · have hN := new_calls S A (hS.below b1) h2 h3 h4 (re.below b1)
      go_wp2_with fail
      with_reducible refine hN.mono ?_
      rintro e w2 ⟨hw | hw, b2⟩
      · obtain ⟨-, F, gl, rfl, -, -⟩ := hw
        have B2 := nxt b1 b2
        have row2 := heap_below b2 row1
        have d1' : w2.cell? ⟨g, 1, none⟩ = some (.int .i64 ba) := cell_of_row _ _ 1 _ _ _ row2
        have d2' : w2.cell? ⟨g, 2, none⟩ = some (.int .i64 fi) := cell_of_row _ _ 2 _ _ _ row2
        have d4' : w2.cell? ⟨g, 4, none⟩ = some (.slice ae eps.length ce) := cell_of_row _ _ 4 _ _ _ row2
        have d5' : w2.cell? ⟨g, 5, none⟩ = some (.slice ao objs.length co) := cell_of_row _ _ 5 _ _ _ row2
        have k2 : w2.cell? ⟨0, 0, none⟩ = some (.iface 149 (.pointer (some (A 2)))) := (hS.below B2).cell 2 h2
        have HO := Lib.hid (ro.below B2)
        clear hN d1 d2 d4 d5 k4 row1 row2
        go_upto_region 8 with fail
        go_cut [82] (fun z wx => ∃ t : Bool, z = .bool t ∧ Below w2.heap.size w2 wx)
        case first =>
          by_cases n0 : eps.length = 0
          · go_wp2_with fail
            go_quiet (fail)
            go_wp2_with fail
            go_meet
            exact ⟨_, rfl, below_drewN (Below.refl _ _) _⟩
          · obtain ⟨k, hk⟩ : ∃ k, eps.length = k + 1 := ⟨eps.length - 1, by omega⟩
            have n0' : ((eps.length : Int) == 0) = false := by rw [beq_eq_false_iff_ne]; omega
            obtain ⟨b, o, rfl, hx⟩ := pairs_at ((re.below b1).below b2) 0 (by omega)
            obtain ⟨p0, p1⟩ := hx 0 (by omega)
            obtain ⟨q0, q1⟩ := hx k (by omega)
            obtain ⟨x, hxx⟩ : ∃ x, x = eps[0].st := ⟨_, rfl⟩
            obtain ⟨y, hyy⟩ : ∃ y, y = eps[k].st := ⟨_, rfl⟩
            rw [← hxx] at p1
            rw [← hyy] at q1
            simp only [Nat.zero_mul, Nat.add_zero] at p0 p1
            have hs1 : IntKind.i64.wrap ((eps.length : Int) - 1) = (k : Int) := by rw [IntKind.wrap_i64]; omega
            have hkl : k < eps.length := by omega
            have h0l : 0 < eps.length := by omega
            clear hx hxx hyy n0 hk p0 q0
            by_cases e1 : x = ba
            · subst e1
              by_cases e2 : fi ≤ y
              · go_wp2_with fail
                go_quiet (fail)
                go_wp2_with fail
                go_meet
                exact ⟨_, rfl, below_drewN (Below.refl _ _) _⟩
              · have e2' : decide (fi ≤ y) = false := decide_eq_false (by omega)
                clear e2
                go_wp2_with fail
                go_quiet (fail)
                go_wp2_with fail
                go_meet
                exact ⟨_, rfl, below_drewN (Below.refl _ _) _⟩
            · have e1' : (x == ba) = false := by rw [beq_eq_false_iff_ne]; exact e1
              have e2' : (!(x == ba)) = true := by rw [e1']; rfl
              have e3' : (x != ba) = true := e2'
              have e4' : (!decide (x = ba)) = true := by simp [e1]
              go_wp2_with fail
              go_quiet (fail)
              go_wp2_with fail
              go_meet
              exact ⟨_, rfl, below_drewN (Below.refl _ _) _⟩
        case rest =>
          obtain ⟨t, rfl, b3⟩ := hcut
          have e4 : wc.cell? ⟨g, 5, none⟩ = some (.slice ao objs.length co) := by rw [b3.cell (World.block_lt_of_cell? _ _ d5')]; exact d5'
          have k2' : wc.cell? ⟨0, 0, none⟩ = some (.iface 149 (.pointer (some (A 2)))) := (hS.below (nxt B2 b3)).cell 2 h2
          cases t
          · have hob := objects_calls S A (hS.below (nxt B2 b3)) h2 h3 h4 h5 (HO.out.below b3) HN.out
            go_wp2_with fail
            with_reducible refine hob.mono ?_
            rintro e w4 ⟨rfl | ⟨t, u, rfl⟩, b4⟩
            · go_wp2_with fail
              go_ret
              exact ⟨.inl rfl, nxt (nxt B2 b3) b4⟩
            · go_wp2_with fail
              go_ret
              exact ⟨.inr ⟨_, _, rfl⟩, nxt (nxt B2 b3) b4⟩
          · go_wp2_with fail
            go_ret
            exact ⟨.inr ⟨_, _, rfl⟩, nxt B2 b3⟩
      · obtain ⟨-, rfl⟩ := hw
        unfold senV
        go_wp2_with fail
        go_ret
        exact ⟨.inr ⟨_, _, rfl⟩, nxt b1 b2⟩
    · go_wp2_with fail
      go_ret
      exact ⟨.inr ⟨_, _, rfl⟩, b1⟩
end Go.Proofs.YtegiingcnhafbaaGreatDoor

/-! mani.Valid: what is amiss with a manifest, exact. -/
namespace Go.Proofs.YtegiingcnhafbaaGreatDoor
open Go Go.RowKit Man

def rangeOk (id ba fi ti : Int) : Prop := 0 ≤ id ∧ id ≤ 2147483647 ∧ 0 ≤ ba ∧ ba ≤ 1099511627776 ∧ 0 ≤ fi ∧ fi ≤ 1099511627776 ∧ -1099511627776 ≤ ti ∧ ti ≤ 1099511627776 ∧ ba < fi
def shapeOk (ba fi : Int) (eps : List Epo.Pr) : Prop := 0 < eps.length ∧ (∀ p, eps[0]? = some p → p.st = ba) ∧ ∀ p, eps[eps.length - 1]? = some p → p.st < fi
def manOk (m : ManD) : Prop := rangeOk m.id m.base m.fin m.time ∧ Epo.valid m.eps = 0 ∧ shapeOk m.base m.fin m.eps ∧ objsOk m.objs
/-- What is amiss with a manifest. -/
inductive MBad (m : ManD) : Er → Prop
  | range : ¬ rangeOk m.id m.base m.fin m.time → MBad m (.bare 4)
  | eps : rangeOk m.id m.base m.fin m.time → Epo.valid m.eps ≠ 0 → MBad m (.bare (Epo.valid m.eps - 101))
  | shape : rangeOk m.id m.base m.fin m.time → Epo.valid m.eps = 0 → ¬ shapeOk m.base m.fin m.eps → MBad m (.bare 2)
  | objs (er : Er) : rangeOk m.id m.base m.fin m.time → Epo.valid m.eps = 0 → shapeOk m.base m.fin m.eps → OBad m.objs er → MBad m er
theorem MBad.fine_iff {m : ManD} {e : Er} (h : MBad m e) : e = .fine ↔ manOk m := by
  unfold manOk
  cases h with
  | range h => exact ⟨fun h => (by cases h), fun h' => absurd h'.1 h⟩
  | eps _ h => exact ⟨fun h => (by cases h), fun h' => absurd h'.2.1 h⟩
  | shape _ _ h => exact ⟨fun h => (by cases h), fun h' => absurd h'.2.2.1 h⟩
  | objs er h1 h2 h3 h4 => rw [h4.fine_iff]; exact ⟨fun h => ⟨h1, h2, h3, h⟩, fun h => h.2.2.2⟩
theorem MBad.uniq {m : ManD} {e e' : Er} (h : MBad m e) (h' : MBad m e') : e = e' := by
  cases h with
  | range h =>
    cases h' with
    | range _ => rfl
    | eps k _ => exact absurd k h
    | shape k _ _ => exact absurd k h
    | objs _ k _ _ _ => exact absurd k h
  | eps h1 h =>
    cases h' with
    | range k => exact absurd h1 k
    | eps _ _ => rfl
    | shape _ k _ => exact absurd k h
    | objs _ _ k _ _ => exact absurd k h
  | shape h1 h2 h =>
    cases h' with
    | range k => exact absurd h1 k
    | eps _ k => exact absurd h2 k
    | shape _ _ _ => rfl
    | objs _ _ _ k _ => exact absurd k h
  | objs er h1 h2 h3 h4 =>
    cases h' with
    | range k => exact absurd h1 k
    | eps _ k => exact absurd h2 k
    | shape _ _ k => exact absurd h3 k
    | objs _ _ _ _ k => exact h4.uniq k
theorem epv_range (l : List Epo.Pr) : Epo.valid l - 101 < 19 := by
  unfold Epo.valid; split <;> (try omega); split <;> (try omega); split <;> omega
theorem shape_iff (ba fi : Int) (eps : List Epo.Pr) (k : Nat) (hk : eps.length = k + 1) : shapeOk ba fi eps ↔ (eps[0].st = ba ∧ eps[k].st < fi) := by
  unfold shapeOk
  rw [show eps.length - 1 = k by omega, List.getElem?_eq_getElem (show 0 < eps.length by omega), List.getElem?_eq_getElem (show k < eps.length by omega)]
  constructor
  · rintro ⟨_, h1, h2⟩; exact ⟨h1 _ rfl, h2 _ rfl⟩
  · rintro ⟨h1, h2⟩; exact ⟨by omega, fun p hp => by cases hp; exact h1, fun p hp => by cases hp; exact h2⟩

theorem validRight_is (n : Int) (w : World) : Calls Tryz.prog 45 #[.int .i64 n] w (fun e w' => e = .returned (.bool (decide (0 ≤ n ∧ n ≤ 1099511627776))) ∧ w' = w) := by
  by_cases h1 : 0 ≤ n
  · by_cases h2 : n ≤ 1099511627776
    · go_enter Tryz.func45, Tryz.ntmps45
      go_wp2_with fail
      go_ret
      exact ⟨by first | rfl | (simp; omega) | (simp; have hh := of_decide_eq_false h2'; omega) | (simp; have hh := of_decide_eq_false h1'; omega), rfl⟩
    · have h2' : decide (n ≤ 1099511627776) = false := decide_eq_false (by omega)
      clear h2
      go_enter Tryz.func45, Tryz.ntmps45
      go_wp2_with fail
      go_ret
      exact ⟨by first | rfl | (simp; omega) | (simp; have hh := of_decide_eq_false h2'; omega) | (simp; have hh := of_decide_eq_false h1'; omega), rfl⟩
  · have h1' : decide (0 ≤ n) = false := decide_eq_false (by omega)
    clear h1
    go_enter Tryz.func45, Tryz.ntmps45
    go_wp2_with fail
    go_ret
    exact ⟨by first | rfl | (simp; omega) | (simp; have hh := of_decide_eq_false h2'; omega) | (simp; have hh := of_decide_eq_false h1'; omega), rfl⟩

set_option maxRecDepth 100000 in
set_option maxHeartbeats 4000000 in
theorem maniValid_is (S : List Nat) (A : Nat → Addr) {w : World} {m : ManD} {ve vo : Value} (hS : Sents S w A) (h2 : 2 ∈ S) (h3 : 3 ∈ S) (h4 : 4 ∈ S) (h5 : 5 ∈ S) (h : ManRd w m ve vo) (hs : Small m) :
    Calls Tryz.prog 19 #[manA m ve vo] w (ErPost A (MBad m) w) := by
  obtain ⟨re, ro⟩ := h
  obtain ⟨ae, ce, rfl⟩ := re.slice
  obtain ⟨ao, co, rfl⟩ := ro.slice
  have me := re.len_le
  have HN := Lib.hid hs.2.2
  clear hs
  obtain ⟨id, ba, fi, ti, eps, objs⟩ := m
  simp only at re ro me HN
  unfold manA
  simp only
  obtain ⟨M, hM⟩ : ∃ M : ManD, M = ⟨id, ba, fi, ti, eps, objs⟩ := ⟨_, rfl⟩
  have HP1 := Lib.hid (show ¬ rangeOk id ba fi ti → MBad M (.bare 4) from fun h => by rw [hM]; exact .range h)
  have HP2 := Lib.hid (show rangeOk id ba fi ti → Epo.valid eps ≠ 0 → MBad M (.bare (Epo.valid eps - 101)) from fun h1 h => by rw [hM]; exact .eps h1 h)
  have HP3 := Lib.hid (show rangeOk id ba fi ti → Epo.valid eps = 0 → ¬ shapeOk ba fi eps → MBad M (.bare 2) from fun h1 h2 h => by rw [hM]; exact .shape h1 h2 h)
  have HP4 := Lib.hid (show rangeOk id ba fi ti → Epo.valid eps = 0 → shapeOk ba fi eps → ∀ er, OBad objs er → MBad M er from fun h1 h2 h3 er h => by rw [hM]; exact .objs er h1 h2 h3 h)
  rw [← hM]
  clear hM
  have b1 := below_alloc w (.cells #[.int .i64 id, .int .i64 ba, .int .i64 fi, .int .i64 ti, .slice ae eps.length ce, .slice ao objs.length co] 27)
  have row1 := heap_alloc_new w (.cells #[.int .i64 id, .int .i64 ba, .int .i64 fi, .int .i64 ti, .slice ae eps.length ce, .slice ao objs.length co] 27)
  go_enter Tryz.func19, Tryz.ntmps19
  go_upto_region 2 with fail
  obtain ⟨w1, hw1⟩ : ∃ w1, w1 = w.alloc (.cells #[.int .i64 id, .int .i64 ba, .int .i64 fi, .int .i64 ti, .slice ae eps.length ce, .slice ao objs.length co] 27) := ⟨_, rfl⟩
  obtain ⟨g, hg⟩ : ∃ g, g = w.heap.size := ⟨_, rfl⟩
  rw [← hw1] at b1 row1 ⊢
  rw [← hg] at row1 ⊢
  clear hw1 hg
  have d0 : w1.cell? ⟨g, 0, none⟩ = some (.int .i64 id) := cell_of_row _ _ 0 _ _ _ row1
  have d1 : w1.cell? ⟨g, 1, none⟩ = some (.int .i64 ba) := cell_of_row _ _ 1 _ _ _ row1
  have d2 : w1.cell? ⟨g, 2, none⟩ = some (.int .i64 fi) := cell_of_row _ _ 2 _ _ _ row1
  have d3 : w1.cell? ⟨g, 3, none⟩ = some (.int .i64 ti) := cell_of_row _ _ 3 _ _ _ row1
  have hc1 := validRight_is ba w1
  have hc2 := validRight_is fi w1
  go_cut [45] (fun z wx => ∃ t : Bool, z = .bool t ∧ (t = false ↔ rangeOk id ba fi ti) ∧ wx = w1)
  case first =>
    by_cases e1 : id < 0
    · go_wp2_with fail
      go_meet
      exact ⟨_, rfl, by unfold rangeOk; (try rw [decide_eq_true_eq] at r1); (try rw [decide_eq_false_iff_not] at r1); (try rw [decide_eq_true_eq] at r2); (try rw [decide_eq_false_iff_not] at r2); (try rw [decide_eq_false_iff_not] at *); simp; omega, rfl⟩
    · have e1' : decide (id < 0) = false := decide_eq_false (by omega)
      clear e1
      by_cases e2 : 2147483647 < id
      · go_wp2_with fail
        go_meet
        exact ⟨_, rfl, by unfold rangeOk; (try rw [decide_eq_true_eq] at r1); (try rw [decide_eq_false_iff_not] at r1); (try rw [decide_eq_true_eq] at r2); (try rw [decide_eq_false_iff_not] at r2); (try rw [decide_eq_false_iff_not] at *); simp; omega, rfl⟩
      · have e2' : decide (2147483647 < id) = false := decide_eq_false (by omega)
        clear e2
        go_wp2_with fail
        with_reducible refine hc1.mono ?_
        rintro e w2 ⟨rfl, rfl⟩
        cases r1 : decide (0 ≤ ba ∧ ba ≤ 1099511627776)
        · go_wp2_with fail
          go_meet
          exact ⟨_, rfl, by unfold rangeOk; (try rw [decide_eq_true_eq] at r1); (try rw [decide_eq_false_iff_not] at r1); (try rw [decide_eq_true_eq] at r2); (try rw [decide_eq_false_iff_not] at r2); (try rw [decide_eq_false_iff_not] at *); simp; omega, rfl⟩
        · go_wp2_with fail
          with_reducible refine hc2.mono ?_
          rintro e w2 ⟨rfl, rfl⟩
          cases r2 : decide (0 ≤ fi ∧ fi ≤ 1099511627776)
          · go_wp2_with fail
            go_meet
            exact ⟨_, rfl, by unfold rangeOk; (try rw [decide_eq_true_eq] at r1); (try rw [decide_eq_false_iff_not] at r1); (try rw [decide_eq_true_eq] at r2); (try rw [decide_eq_false_iff_not] at r2); (try rw [decide_eq_false_iff_not] at *); simp; omega, rfl⟩
          · by_cases e3 : ti < -1099511627776
            · go_wp2_with fail
              go_meet
              exact ⟨_, rfl, by unfold rangeOk; (try rw [decide_eq_true_eq] at r1); (try rw [decide_eq_false_iff_not] at r1); (try rw [decide_eq_true_eq] at r2); (try rw [decide_eq_false_iff_not] at r2); (try rw [decide_eq_false_iff_not] at *); simp; omega, rfl⟩
            · have e3' : decide (ti < -1099511627776) = false := decide_eq_false (by omega)
              clear e3
              by_cases e4 : 1099511627776 < ti
              · go_wp2_with fail
                go_meet
                exact ⟨_, rfl, by unfold rangeOk; (try rw [decide_eq_true_eq] at r1); (try rw [decide_eq_false_iff_not] at r1); (try rw [decide_eq_true_eq] at r2); (try rw [decide_eq_false_iff_not] at r2); (try rw [decide_eq_false_iff_not] at *); simp; omega, rfl⟩
              · have e4' : decide (1099511627776 < ti) = false := decide_eq_false (by omega)
                clear e4
                go_wp2_with fail
                go_meet
                exact ⟨_, rfl, by unfold rangeOk; (try rw [decide_eq_true_eq] at r1); (try rw [decide_eq_false_iff_not] at r1); (try rw [decide_eq_true_eq] at r2); (try rw [decide_eq_false_iff_not] at r2); (try rw [decide_eq_false_iff_not] at *); simp; omega, rfl⟩
  case rest =>
    obtain ⟨t, rfl, ht, rfl⟩ := hcut
    have HT := Lib.hid ht
    clear ht
    clear hc1 hc2 d0 d3
    have d4 : wc.cell? ⟨g, 4, none⟩ = some (.slice ae eps.length ce) := cell_of_row _ _ 4 _ _ _ row1
    have d5 : wc.cell? ⟨g, 5, none⟩ = some (.slice ao objs.length co) := cell_of_row _ _ 5 _ _ _ row1
    have k4 : wc.cell? ⟨2, 0, none⟩ = some (.iface 149 (.pointer (some (A 4)))) := (hS.below b1).cell 4 h4
    cases t
    · have hN := new_calls S A (hS.below b1) h2 h3 h4 (re.below b1)
      go_wp2_with fail
      with_reducible refine hN.mono ?_
      rintro e w2 ⟨hw | hw, b2⟩
      · obtain ⟨hvl, F, gl, rfl, -, -⟩ := hw
        have HV := Lib.hid hvl
        clear hvl
        have B2 := nxt b1 b2
        have row2 := heap_below b2 row1
        have d1' : w2.cell? ⟨g, 1, none⟩ = some (.int .i64 ba) := cell_of_row _ _ 1 _ _ _ row2
        have d2' : w2.cell? ⟨g, 2, none⟩ = some (.int .i64 fi) := cell_of_row _ _ 2 _ _ _ row2
        have d4' : w2.cell? ⟨g, 4, none⟩ = some (.slice ae eps.length ce) := cell_of_row _ _ 4 _ _ _ row2
        have d5' : w2.cell? ⟨g, 5, none⟩ = some (.slice ao objs.length co) := cell_of_row _ _ 5 _ _ _ row2
        have k2 : w2.cell? ⟨0, 0, none⟩ = some (.iface 149 (.pointer (some (A 2)))) := (hS.below B2).cell 2 h2
        have HO := Lib.hid (ro.below B2)
        clear hN d1 d2 d4 d5 k4 row1 row2
        go_upto_region 8 with fail
        go_cut [82] (fun z wx => ∃ t : Bool, z = .bool t ∧ (t = false ↔ shapeOk ba fi eps) ∧ Below w2.heap.size w2 wx)
        case first =>
          by_cases n0 : eps.length = 0
          · have HS0 := Lib.hid (show ¬ shapeOk ba fi eps from fun h => by have := h.1; omega)
            go_wp2_with fail
            go_quiet (fail)
            go_wp2_with fail
            go_meet
            exact ⟨_, rfl, ⟨fun h => by simp at h, fun h => absurd h HS0.out⟩, below_drewN (Below.refl _ _) _⟩
          · obtain ⟨k, hk⟩ : ∃ k, eps.length = k + 1 := ⟨eps.length - 1, by omega⟩
            have n0' : ((eps.length : Int) == 0) = false := by rw [beq_eq_false_iff_ne]; omega
            obtain ⟨b, o, rfl, hx⟩ := pairs_at ((re.below b1).below b2) 0 (by omega)
            obtain ⟨p0, p1⟩ := hx 0 (by omega)
            obtain ⟨q0, q1⟩ := hx k (by omega)
            obtain ⟨x, hxx⟩ : ∃ x, x = eps[0].st := ⟨_, rfl⟩
            obtain ⟨y, hyy⟩ : ∃ y, y = eps[k].st := ⟨_, rfl⟩
            have HSH := Lib.hid (show shapeOk ba fi eps ↔ (x = ba ∧ y < fi) by rw [hxx, hyy]; exact shape_iff ba fi eps k hk)
            rw [← hxx] at p1
            rw [← hyy] at q1
            simp only [Nat.zero_mul, Nat.add_zero] at p0 p1
            have hs1 : IntKind.i64.wrap ((eps.length : Int) - 1) = (k : Int) := by rw [IntKind.wrap_i64]; omega
            have hkl : k < eps.length := by omega
            have h0l : 0 < eps.length := by omega
            clear hx hxx hyy n0 hk p0 q0
            by_cases e1 : x = ba
            · subst e1
              by_cases e2 : fi ≤ y
              · go_wp2_with fail
                go_quiet (fail)
                go_wp2_with fail
                go_meet
                exact ⟨_, rfl, by rw [HSH.out]; simp; first | omega | (have hh := of_decide_eq_false e2'; omega), below_drewN (Below.refl _ _) _⟩
              · have e2' : decide (fi ≤ y) = false := decide_eq_false (by omega)
                clear e2
                go_wp2_with fail
                go_quiet (fail)
                go_wp2_with fail
                go_meet
                exact ⟨_, rfl, by rw [HSH.out]; simp; first | omega | (have hh := of_decide_eq_false e2'; omega), below_drewN (Below.refl _ _) _⟩
            · have e1' : (x == ba) = false := by rw [beq_eq_false_iff_ne]; exact e1
              have e2' : (!(x == ba)) = true := by rw [e1']; rfl
              have e3' : (x != ba) = true := e2'
              have e4' : (!decide (x = ba)) = true := by simp [e1]
              go_wp2_with fail
              go_quiet (fail)
              go_wp2_with fail
              go_meet
              exact ⟨_, rfl, by rw [HSH.out]; simp; first | omega | (have hh := of_decide_eq_false e2'; omega), below_drewN (Below.refl _ _) _⟩
        case rest =>
          obtain ⟨t, rfl, ht, b3⟩ := hcut
          have HSP := Lib.hid ht
          clear ht
          have e4 : wc.cell? ⟨g, 5, none⟩ = some (.slice ao objs.length co) := by rw [b3.cell (World.block_lt_of_cell? _ _ d5')]; exact d5'
          have k2' : wc.cell? ⟨0, 0, none⟩ = some (.iface 149 (.pointer (some (A 2)))) := (hS.below (nxt B2 b3)).cell 2 h2
          cases t
          · have hob := objects_is S A (hS.below (nxt B2 b3)) h2 h3 h4 h5 (HO.out.below b3) HN.out
            go_wp2_with fail
            with_reducible refine hob.mono ?_
            rintro e w4 ⟨v4, er, rfl, hob4, her, b4⟩
            go_wp2_with fail
            go_ret
            exact ⟨_, er, rfl, HP4.out (HT.out.1 (by first | rfl | trivial)) HV.out (HSP.out.1 (by first | rfl | trivial)) er hob4, her, nxt (nxt B2 b3) b4⟩
          · go_wp2_with fail
            go_ret
            exact ⟨_, _, rfl, HP3.out (HT.out.1 (by first | rfl | trivial)) HV.out (fun h => absurd (HSP.out.2 h) (by decide)), ⟨by omega, rfl⟩, nxt B2 b3⟩
      · obtain ⟨hvl, rfl⟩ := hw
        have HV := Lib.hid hvl
        clear hvl
        unfold senV
        go_wp2_with fail
        go_ret
        exact ⟨_, _, rfl, HP2.out (HT.out.1 (by first | rfl | trivial)) HV.out, ⟨epv_range _, rfl⟩, nxt b1 b2⟩
    · go_wp2_with fail
      go_ret
      exact ⟨_, _, rfl, HP1.out (fun h => absurd (HT.out.2 h) (by decide)), ⟨by omega, rfl⟩, b1⟩
end Go.Proofs.YtegiingcnhafbaaGreatDoor
