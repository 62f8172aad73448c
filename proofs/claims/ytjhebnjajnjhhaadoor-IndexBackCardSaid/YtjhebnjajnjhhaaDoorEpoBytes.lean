/- Line.Bytes: a lineage as bytes. -/
import Derived.Test.YtjhebnjajnjhhaaDoorEpoAsk
import Derived.Test.YtjhebnjajnjhhaaDoorPlain
import Derived.Test.YtjhebnjajnjhhaaDoorVintPut
namespace Go.Proofs.YtjhebnjajnjhhaaDoor
open Go Go.RowKit Epo Vint

theorem pairs_snoc (l : List Pr) (i : Nat) (hi : i < l.length) : (l.take (i + 1)).flatMap pairL = (l.take i).flatMap pairL ++ (putL l[i].ep.toNat ++ putL l[i].st.toNat) := by
  rw [List.take_succ_eq_append_getElem hi, List.flatMap_append]
  simp [pairL]

set_option maxRecDepth 100000 in
set_option maxHeartbeats 2000000 in
theorem lbytes_calls {w : World} {F : Nat → Prop} {g : Nat} {l : List Pr} (h : LineAt w F g l) (hl : l.length ≤ 256) (hr : l.all Epo.right = true) :
    Calls Tryd.prog 41 #[.pointer (some ⟨g, 0, none⟩)] w (NewRow 5 1 (pairsL l).length (bvs (pairsL l)) w) := by
  obtain ⟨v, h⟩ := h
  have hom := Rd.of_owns h.pairs
  have hrow := h.row
  obtain ⟨am, cm, rfl⟩ := hom.slice
  have k1 : w.cell? ⟨g, 0, none⟩ = some (.slice am l.length cm) := cell_of_row w g 0 _ _ _ hrow
  have hput := put_calls (.slice none 0 0) 0 [] l.length w (Rd.nil w 1) (by omega) (by unfold U64; omega)
  have hp10 := putL_len10 l.length (by omega)
  clear h
  go_enter Tryd.func41, Tryd.ntmps41
  go_wp2_with fail
  refine hput.mono ?_
  rintro e w1 ⟨v1, rfl, o1, b1⟩
  have k2 : w1.cell? ⟨g, 0, none⟩ = some (.slice am l.length cm) := cell_of_row w1 g 0 _ _ _ (heap_below b1 hrow)
  clear hput
  go_wp2_with fail
  go_loopw [3, 18] (fun bv iv wr => ∃ i : Nat, i ≤ l.length ∧ iv = .int .i64 i ∧ ∃ em : List UInt8, em = putL l.length ++ (l.take i).flatMap pairL ∧ em.length ≤ 10 + 20 * i ∧ wr.ownsRow w.heap.size 5 1 bv em.length (bvs em) ∧ Below w.heap.size w wr) (fun _ iv _ => l.length - (intOf iv).toNat)
  case atStart => exact ⟨0, Nat.zero_le _, rfl, putL l.length, by simp, by omega, by simpa using o1, b1⟩
  case round =>
    obtain ⟨i, hi, rfl, em, hem, hel, ho, hb⟩ := hrel
    have HE := Lib.hid hem
    clear hem
    by_cases hlt : i < l.length
    · obtain ⟨b, o, rfl, hc1, hm1, hx1⟩ := (hom.below hb).at (by omega) (by omega)
      obtain ⟨q0, q1⟩ := pr_cells hx1 i hlt
      have HNX := Lib.hid (pairs_snoc l i hlt)
      have hq := List.all_eq_true.1 hr l[i] (List.getElem_mem hlt)
      obtain ⟨m, hm⟩ : ∃ m, m = l[i] := ⟨_, rfl⟩
      rw [← hm] at q0 q1 hq HNX
      unfold Epo.right at hq
      rw [decide_eq_true_eq] at hq
      obtain ⟨h1, h2, h3, h4⟩ := hq
      clear hx1 hm
      obtain ⟨ep, st⟩ := m
      simp only at h1 h2 h3 h4 q0 q1 HNX
      obtain ⟨x, rfl⟩ : ∃ x : Nat, ep = (x : Int) := ⟨ep.toNat, by omega⟩
      obtain ⟨y, rfl⟩ : ∃ y : Nat, st = (y : Int) := ⟨st.toNat, by omega⟩
      simp only [Int.toNat_natCast] at HNX
      have b2 := below_alloc wr (.cells #[.int .i64 (x : Int), .int .i64 (y : Int)] 50)
      have rowp := heap_alloc_new wr (.cells #[.int .i64 (x : Int), .int .i64 (y : Int)] 50)
      have p1 := put_calls _ _ em x _ ((Rd.of_owns ho).below b2) (by omega) (by unfold U64; omega)
      have x10 := putL_len10 x (by omega)
      have y10 := putL_len10 y (by omega)
      obtain ⟨a3, c3, rfl⟩ := owns_slice ho
      go_wp2_with fail
      refine p1.mono ?_
      rintro e w3 ⟨v3, rfl, o3, b3⟩
      have c1 : w3.cell? ⟨wr.heap.size, 1, none⟩ = some (.int .i64 (y : Int)) := cell_of_row w3 _ 1 _ _ _ (heap_below b3 rowp)
      have p2 := put_calls _ _ (em ++ putL x) y w3 (Rd.of_owns o3) (by omega) (by unfold U64; omega)
      have B3 := nxt hb (nxt b2 b3)
      clear p1 rowp
      go_wp2_with fail
      refine p2.mono ?_
      rintro e w4 ⟨v4, rfl, o4, b4⟩
      clear p2
      go_wp2_with fail
      refine ⟨⟨i + 1, by omega, by go_num, em ++ putL x ++ putL y, ?_, ?_, ?_, nxt B3 b4⟩, by simp [intOf]; omega⟩
      · rw [HNX.out, HE.out]; simp
      · simp; omega
      · have := owns_base o4 B3.size
        simpa [Nat.add_assoc] using this
    · obtain rfl : i = l.length := by omega
      go_wp2_with fail
      go_ret
      have he : em = pairsL l := by rw [HE.out, List.take_of_length_le (Nat.le_refl _)]; rfl
      rw [← he]
      exact ⟨_, rfl, ho, hb⟩
end Go.Proofs.YtjhebnjajnjhhaaDoor
