/- mani.Check: what is amiss with an object's bytes. -/
import Derived.Test.YtegiingcnhafbaaGreatDoorManVal
import Derived.Test.YtegiingcnhafbaaGreatDoorReader
import Derived.Test.YtegiingcnhafbaaGreatDoorCrcWalk
import Derived.Deep.RegionLaw
namespace Go.Proofs.YtegiingcnhafbaaGreatDoor
open Go Go.RowKit Man Crc

def chk (o : ObjD) (l : List UInt8) : Er := if (l.length : Int) ≠ o.len then .bare 2 else if (sum l).toNat ≠ o.sum then .bare 1 else .fine
def ChkPost (A : Nat → Addr) (o : ObjD) (l : List UInt8) (w : World) (e : Ending) (w' : World) : Prop := ∃ u, e = .returned u ∧ ErRow A w' u (chk o l) ∧ Below w.heap.size w w'

set_option maxRecDepth 100000 in
set_option maxHeartbeats 1000000 in
theorem maniCheck_calls (S : List Nat) (A : Nat → Addr) {w : World} {v : Value} {l : List UInt8} (o : ObjD) (hS : Sents S w A) (h1 : 1 ∈ S) (h2 : 2 ∈ S) (h : Rd w 1 v l.length (bvs l)) :
    Calls Tryz.prog 12 #[.agg #[.string o.name, .int .i64 o.len, .int .u32 (o.sum : Int)], v] w (ChkPost A o l w) := by
  obtain ⟨a, c, rfl⟩ := h.slice
  obtain ⟨nm, ln, sm⟩ := o
  simp only
  have HC := Lib.hid (show chk ⟨nm, ln, sm⟩ l = if (l.length : Int) ≠ ln then .bare 2 else if (sum l).toNat ≠ sm then .bare 1 else .fine from rfl)
  have b1 := below_alloc w (.cells #[.string nm, .int .i64 ln, .int .u32 (sm : Int)] 44)
  have row1 := heap_alloc_new w (.cells #[.string nm, .int .i64 ln, .int .u32 (sm : Int)] 44)
  go_enter Tryz.func12, Tryz.ntmps12
  go_upto_region 1 with fail
  obtain ⟨w1, hw1⟩ : ∃ w1, w1 = w.alloc (.cells #[.string nm, .int .i64 ln, .int .u32 (sm : Int)] 44) := ⟨_, rfl⟩
  obtain ⟨g, hg⟩ : ∃ g, g = w.heap.size := ⟨_, rfl⟩
  rw [← hw1] at b1 row1 ⊢
  rw [← hg] at row1 ⊢
  clear hw1 hg
  have d1 : w1.cell? ⟨g, 1, none⟩ = some (.int .i64 ln) := cell_of_row _ _ 1 _ _ _ row1
  have r1 := h.below b1
  by_cases e1 : (l.length : Int) = ln
  · have t1 : ((l.length : Int) != ln) = false := by rw [e1]; simp
    have HE := Lib.hid e1
    have d2 : w1.cell? ⟨g, 2, none⟩ = some (.int .u32 (sm : Int)) := cell_of_row _ _ 2 _ _ _ row1
    have bb := below_alloc w1 (.cells #[.slice a l.length c] 23)
    have d2b : (w1.alloc (.cells #[.slice a l.length c] 23)).cell? ⟨g, 2, none⟩ = some (.int .u32 (sm : Int)) := cell_of_row _ _ 2 _ _ _ (heap_below bb row1)
    have hof := of_at w1 (w1.alloc (.cells #[.slice a l.length c] 23)).drew bb.drew w1.heap.size (.slice a l.length c) (heap_alloc_new w1 _) l.length l r1
    clear e1
    obtain ⟨x, hx⟩ : ∃ x, x = (sum l).toNat := ⟨_, rfl⟩
    rw [← hx] at hof
    have HX := Lib.hid hx
    clear hx
    go_wp2_with fail
    go_region_law (go_simp; (go_at_call 41; (with_reducible refine hof.mono ?_); (rintro e w2 ⟨rfl, b2⟩); have d2c : w2.cell? ⟨g, 2, none⟩ = some (.int .u32 (sm : Int)) := cell_of_row _ _ 2 _ _ _ (heap_below b2 (show (w1.alloc (.cells #[.slice a l.length c] 23)).drew.heap[g]? = some _ from heap_below bb.drew row1))))
    all_goals
      have B2 := nxt b1 (nxt bb.drew b2)
      by_cases e2 : x = sm
      · have t2 : ((x : Int) != (sm : Int)) = false := by rw [e2]; simp
        have HE2 := Lib.hid e2
        clear e2
        go_wp2_with fail
        go_ret
        exact ⟨_, rfl, by rw [HC.out, if_neg (fun h => h HE.out), if_neg (fun h => h (by rw [← HX.out]; exact HE2.out))]; rfl, B2⟩
      · have t2 : ((x : Int) != (sm : Int)) = true := by rw [bne_iff_ne]; omega
        have HE2 := Lib.hid e2
        have k1 : w2.cell? ⟨1, 0, none⟩ = some (.iface 149 (.pointer (some (A 1)))) := (hS.below B2).cell 1 h1
        clear e2
        go_wp2_with fail
        go_ret
        exact ⟨_, rfl, by rw [HC.out, if_neg (fun h => h HE.out), if_pos (fun h => HE2.out (by rw [HX.out]; exact h))]; exact ⟨by omega, rfl⟩, B2⟩
  · have t1 : ((l.length : Int) != ln) = true := by rw [bne_iff_ne]; exact e1
    have HE := Lib.hid e1
    have k2 : w1.cell? ⟨0, 0, none⟩ = some (.iface 149 (.pointer (some (A 2)))) := (hS.below b1).cell 2 h2
    clear e1
    go_wp2_with fail
    go_ret
    exact ⟨_, rfl, by rw [HC.out, if_pos HE.out]; exact ⟨by omega, rfl⟩, b1⟩
end Go.Proofs.YtegiingcnhafbaaGreatDoor
