/- mani.objects: the closure, and who has a name; exact. -/
import Derived.Test.YtldopocmmeidkaaDoorNameOk
import Derived.Test.YtldopocmmeidkaaDoorManObjs
namespace Go.Proofs.YtldopocmmeidkaaDoor
open Go Go.RowKit Man

theorem name_beq (a b : ByteArray) : (a.toList == b.toList) = decide (a = b) := by
  rw [ByteArray.toList_eq, ByteArray.toList_eq]
  by_cases e : a = b
  · subst e; simp
  · rw [decide_eq_false e, beq_eq_false_iff_ne]
    intro h
    exact e (ByteArray.ext (Array.ext' h))

theorem objs1_is (o : ObjD) (s : ByteArray) (c : Nat) (w : World) (hc : w.cell? ⟨c, 0, none⟩ = some (.string s)) :
    Calls Tryd.prog 85 #[.agg #[.string o.name, .int .i64 o.len, .int .u32 (o.sum : Int)], .pointer (some ⟨c, 0, none⟩)] w (fun e w' => e = .returned (.bool (decide (o.name = s))) ∧ Below w.heap.size w w') := by
  have b1 := below_alloc w (.cells #[.string o.name, .int .i64 o.len, .int .u32 (o.sum : Int)] 46)
  have c1 : (w.alloc (.cells #[.string o.name, .int .i64 o.len, .int .u32 (o.sum : Int)] 46)).cell? ⟨c, 0, none⟩ = some (.string s) := by rw [b1.cell (World.block_lt_of_cell? _ _ hc)]; exact hc
  go_enter Tryd.func85, Tryd.ntmps85
  go_wp2_with fail
  go_ret
  exact ⟨by simp; exact name_beq o.name s, b1⟩

def hasN (l : List ObjD) (s : ByteArray) : Bool := l.any (fun o => decide (o.name = s))
def IdxN (l : List ObjD) (s : ByteArray) (w : World) (e : Ending) (w' : World) : Prop := ∃ r : Int, e = .returned (.int .i64 r) ∧ decide (0 ≤ r) = hasN l s ∧ Below w.heap.size w w'

set_option maxRecDepth 100000 in
set_option maxHeartbeats 1000000 in
theorem objsIdx_is {w : World} {v : Value} {l : List ObjD} (s : ByteArray) (c : Nat) (hc : w.cell? ⟨c, 0, none⟩ = some (.string s)) (h : Rd w 3 v l.length (l.flatMap obV)) :
    Calls Tryd.prog 98 #[v, .func (.func 85) #[] #[.pointer (some ⟨c, 0, none⟩)]] w (IdxN l s w) := by
  obtain ⟨am, cm, rfl⟩ := h.slice
  have m1 := h.len_le
  go_enter Tryd.func98, Tryd.ntmps98
  go_wp2_with fail
  go_loopw [5, 8] (fun _ iv wr => ∃ i : Nat, i ≤ l.length ∧ iv = .int .i64 i ∧ Below w.heap.size w wr ∧ ∀ j (h : j < l.length), j < i → l[j].name ≠ s) (fun _ iv _ => l.length - (intOf iv).toNat)
  case atStart => exact ⟨0, Nat.zero_le _, rfl, Below.refl _ _, fun j _ h => by omega⟩
  case round =>
    obtain ⟨i, hi, rfl, hb, hj⟩ := hrel
    have HJ := Lib.hid hj
    clear hj
    by_cases hlt : i < l.length
    · obtain ⟨b, o, rfl, hx⟩ := objs_at (h.below hb) i hlt
      obtain ⟨q0, q1, q2⟩ := hx i hlt
      have hcl := objs1_is l[i] s c wr (by rw [hb.cell (World.block_lt_of_cell? _ _ hc)]; exact hc)
      obtain ⟨m, hm⟩ : ∃ m, m = l[i] := ⟨_, rfl⟩
      rw [← hm] at hcl q0 q1 q2
      have HM := Lib.hid hm
      clear hx hm
      by_cases hq : m.name = s
      · have HQ := Lib.hid (show hasN l s = true by
          unfold hasN; rw [List.any_eq_true]; exact ⟨l[i], List.getElem_mem hlt, by rw [← HM.out, hq]; simp⟩)
        rw [decide_eq_true hq] at hcl
        clear hq
        go_wp2_with (go_at_call 85; refine hcl.mono ?_; rintro e w2 ⟨rfl, b2⟩)
        go_ret
        exact ⟨_, rfl, by rw [HQ.out]; simp, nxt hb (by assumption)⟩
      · have HQ := Lib.hid hq
        rw [decide_eq_false hq] at hcl
        clear hq
        go_wp2_with (go_at_call 85; refine hcl.mono ?_; rintro e w2 ⟨rfl, b2⟩)
        refine ⟨⟨i + 1, by omega, by go_num, nxt hb (by assumption), fun j hjl hj => ?_⟩, by simp [intOf]; omega⟩
        by_cases e : j = i
        · subst e; rw [← HM.out]; exact HQ.out
        · exact HJ.out j hjl (by omega)
    · go_wp2_with fail
      go_ret
      refine ⟨_, rfl, ?_, hb⟩
      have : hasN l s = false := by
        unfold hasN
        rw [List.any_eq_false]
        intro o ho
        obtain ⟨j, hjl, rfl⟩ := List.mem_iff_getElem.1 ho
        simp [HJ.out j hjl (by omega)]
      rw [this]; rfl

set_option maxRecDepth 100000 in
set_option maxHeartbeats 1000000 in
theorem objsHas_is {w : World} {v : Value} {l : List ObjD} (s : ByteArray) (c : Nat) (hc : w.cell? ⟨c, 0, none⟩ = some (.string s)) (h : Rd w 3 v l.length (l.flatMap obV)) :
    Calls Tryd.prog 84 #[v, .func (.func 85) #[] #[.pointer (some ⟨c, 0, none⟩)]] w (fun e w' => e = .returned (.bool (hasN l s)) ∧ Below w.heap.size w w') := by
  have hcl := objsIdx_is s c hc h
  unfold IdxN at hcl
  obtain ⟨t, ht⟩ : ∃ t, t = hasN l s := ⟨_, rfl⟩
  rw [← ht] at hcl ⊢
  clear ht
  go_enter Tryd.func84, Tryd.ntmps84
  go_wp2_with fail
  refine hcl.mono ?_
  rintro e w2 ⟨r, rfl, hr, b2⟩
  go_wp2_with fail
  go_ret
  exact ⟨by first | rfl | (rw [← hr]; rfl) | simp [← hr], b2⟩
end Go.Proofs.YtldopocmmeidkaaDoor
