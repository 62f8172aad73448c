/- EpochMany returns true at every input. -/
import Derived.Test.YtjhebnjajnjhhaaDoorEpoLead
import Derived.Test.YtjhebnjajnjhhaaDoorEpoRead
import Derived.Test.YtjhebnjajnjhhaaDoorSamePairs
import Derived.Test.YtjhebnjajnjhhaaDoorNumber
namespace Go.Proofs.YtjhebnjajnjhhaaDoor
open Go Go.RowKit Epo

/-- So many epochs, one behind the other. -/
def manyL (i : Nat) : List Pr := (List.range i).map fun (j : Nat) => ⟨(j : Int), 2 * (j : Int)⟩
theorem manyL_len (i : Nat) : (manyL i).length = i := by simp [manyL]
theorem manyL_succ (i : Nat) : manyL (i + 1) = manyL i ++ [⟨(i : Int), 2 * (i : Int)⟩] := by simp [manyL, List.range_succ]
theorem manyL_last (i : Nat) (q : Pr) (h : (manyL i).getLast? = some q) : ∃ j, i = j + 1 ∧ q = ⟨(j : Int), 2 * (j : Int)⟩ := by
  cases i with
  | zero => simp [manyL] at h
  | succ j =>
    rw [manyL_succ] at h
    simp only [List.getLast?_concat, Option.some.injEq] at h
    exact ⟨j, rfl, h.symm⟩
theorem manyL_right (i : Nat) (h : i ≤ 256) : Epo.right ⟨(i : Int), 2 * (i : Int)⟩ = true := by
  unfold Epo.right; rw [decide_eq_true_eq]; simp only; omega
theorem manyL_valid (i : Nat) (h : i ≤ 256) : valid (manyL i) = 0 := by
  rw [valid_iff]
  refine ⟨by rw [manyL_len]; exact h, ?_, ?_⟩
  · rw [List.all_eq_true]
    intro p hp
    simp only [manyL, List.mem_map, List.mem_range] at hp
    obtain ⟨j, hj, rfl⟩ := hp
    exact manyL_right j (by omega)
  · apply up_of_next
    intro j hj
    simp only [manyL, List.getElem_map, List.getElem_range]
    omega

set_option maxRecDepth 100000 in
set_option maxHeartbeats 400000 in
theorem begin_many (S : List Nat) (A : Nat → Addr) {w : World} {F : Nat → Prop} {g : Nat} {l : List Pr} (hS : Sents S w A) (h3 : 3 ∈ S) (h : LineAt w F g l) (p q : Pr) (hr : Epo.right p = true) (hgl : l.getLast? = some q) (hq : q.ep < p.ep) (hst : q.st ≤ p.st) (hl : 256 ≤ l.length) :
    Calls Tryd.prog 35 #[.pointer (some ⟨g, 0, none⟩), .int .i64 p.ep, .int .i64 p.st] w (fun e w' => e = .returned (senV A 3) ∧ LineAt w' F g l ∧ Below w.heap.size w w') := by
  have b1 := below_alloc w (.cells #[.int .i64 p.ep, .int .i64 p.st] 50)
  have hrc := prRight_calls p (w.alloc (.cells #[.int .i64 p.ep, .int .i64 p.st] 50))
  rw [hr] at hrc
  have g3 : ∀ w', Below w.heap.size w w' → w'.cell? ⟨1, 0, none⟩ = some (.iface 172 (.pointer (some (A 3)))) := fun w' b => (hS.below b).cell 3 h3
  have H := Lib.hid h
  have hlc := fun W (hW : Below w.heap.size w W) => last_calls (h.below hW)
  unfold LastPost at hlc
  have hne : l ≠ [] := by rintro rfl; simp at hgl
  rw [hgl, decide_eq_true hne] at hlc
  simp only [Option.getD_some] at hlc
  have he1 : (p.ep == q.ep) = false := by rw [beq_eq_false_iff_ne]; omega
  clear hr hgl h
  go_enter Tryd.func35, Tryd.ntmps35
  go_wp2_with fail
  refine hrc.mono ?_
  rintro e w2 ⟨rfl, b2⟩
  go_wp2_with fail
  refine (hlc _ (nxt b1 b2)).mono ?_
  rintro e w3 ⟨rfl, b3⟩
  have B3 := nxt (nxt b1 b2) b3
  have b4 := below_alloc w3 (.cells #[.int .i64 q.ep, .int .i64 q.st] 50)
  have B4 := nxt B3 b4
  have k3 := g3 _ B4
  obtain ⟨v, hv⟩ := H.out.below B4
  obtain ⟨am, cm, rfl⟩ := owns_slice hv.pairs
  have c3 : (w3.alloc (.cells #[.int .i64 q.ep, .int .i64 q.st] 50)).cell? ⟨g, 0, none⟩ = some (.slice am l.length cm) := cell_of_row _ g 0 _ _ _ hv.row
  clear hrc hlc b1 b2 b3 g3 hv
  go_wp2_with fail
  go_ret
  exact ⟨rfl, H.out.below B4, B4⟩

set_option maxRecDepth 100000 in
set_option maxHeartbeats 2000000 in
theorem epochMany_walk (S : List Nat) (A : Nat → Addr) (z : Int) (w : World) (hS : Sents S w A) (hz : ∀ i ∈ [0, 2, 3, 4], i ∈ S) :
    Calls Tryd.prog 12 #[.int .i64 z] w (fun e w' => e = .returned (.bool true) ∧ Below w.heap.size w w') := by
  have hfst := epoFirst_calls S A w hS (hz 2 (by decide)) (hz 3 (by decide)) (hz 4 (by decide))
  obtain ⟨n, hnz, hn1⟩ : ∃ n : Nat, (n : Int) = z % 300 ∧ n < 300 := ⟨(z % 300).toNat, by omega, by omega⟩
  have HNZ := Lib.hid hnz
  clear hnz
  go_enter Tryd.func12, Tryd.ntmps12
  go_wp2_with fail
  refine hfst.mono ?_
  rintro e w1 ⟨rfl, b1⟩
  go_wp2_with fail
  refine (number_calls z 300 _ (by omega) (by omega)).mono ?_
  rintro e w1 ⟨rfl, rfl⟩
  rw [← HNZ.out]
  have hn := new_calls S A (hS.below b1) (hz 2 (by decide)) (hz 3 (by decide)) (hz 4 (by decide)) (l := []) (Rd.nil w1 2)
  clear hfst
  go_wp2_with fail
  refine hn.mono ?_
  rintro e w2 ⟨hv, b2⟩
  have B2 := nxt b1 b2
  have hv0 : valid [] = 0 := by decide
  rcases hv with ⟨_, F0, g, rfl, hl0, hF0⟩ | ⟨hne, _⟩
  · have hF0' : ∀ k, F0 k → w.heap.size ≤ k := fun k hk => Nat.le_trans b1.size (hF0 k hk)
    clear hn hv0 hF0 b2
    go_wp2_with fail
    go_loopw [6, 7] (fun iv _ wr => ∃ i : Nat, i ≤ n ∧ iv = .int .i64 i ∧ ∃ F, LineAt wr F g (manyL (min i 256)) ∧ (∀ k, F k → w.heap.size ≤ k) ∧ Below w.heap.size w wr) (fun iv _ _ => n - (intOf iv).toNat)
    case atStart => exact ⟨0, Nat.zero_le _, rfl, F0, hl0, hF0', B2⟩
    case round =>
      obtain ⟨i, hi', rfl, F, hx, hF, hb⟩ := hrel
      by_cases hlt : i < n
      · by_cases h256 : i < 256
        · rw [show min i 256 = i by omega] at hx
          have hbp := begin_push A hx ⟨(i : Int), 2 * (i : Int)⟩ (manyL_right i (by omega)) (by rw [manyL_len]; exact h256) (fun q hq => by
            obtain ⟨j, rfl, rfl⟩ := manyL_last i q hq
            simp only; omega)
          rw [← manyL_succ] at hbp
          unfold BegPost at hbp
          rw [if_neg (by omega)] at hbp
          simp only at hbp
          have hd : decide ((i : Int) < 256) = true := decide_eq_true (by omega)
          clear hx
          go_wp2_with fail
          refine hbp.mono ?_
          rintro e w3 ⟨rfl, F', h3, h4, h5⟩
          have B5 : Below w.heap.size w w3 := h5.below hb hF hb.size
          clear hbp
          go_wp2_with fail
          refine ⟨⟨i + 1, by omega, by go_num, F', by rw [show min (i + 1) 256 = i + 1 by omega]; exact h3, fun k hk => ?_, B5⟩, by simp [intOf]; omega⟩
          rcases h4 k hk with h | h
          · exact hF k h
          · exact Nat.le_trans hb.size h
        · rw [show min i 256 = 256 by omega] at hx
          have hlast : (manyL 256).getLast? = some ⟨255, 510⟩ := by
            rw [show (256 : Nat) = 255 + 1 by omega, manyL_succ]; simp
          have hbm := begin_many S A (hS.below hb) (hz 3 (by decide)) hx ⟨(i : Int), 2 * (i : Int)⟩ ⟨255, 510⟩ (by unfold Epo.right; rw [decide_eq_true_eq]; simp only; omega) hlast (by simp only; omega) (by simp only; omega) (by rw [manyL_len]; omega)
          unfold senV at hbm
          simp only at hbm
          have hd : decide ((i : Int) < 256) = false := decide_eq_false (by omega)
          clear hx hlast
          go_wp2_with fail
          refine hbm.mono ?_
          rintro e w3 ⟨rfl, h3, b3⟩
          clear hbm
          go_wp2_with fail
          exact ⟨⟨i + 1, by omega, by go_num, F, by rw [show min (i + 1) 256 = 256 by omega]; exact h3, hF, nxt hb b3⟩, by simp [intOf]; omega⟩
      · obtain rfl : i = n := by omega
        obtain ⟨m, hm⟩ : ∃ m, m = min i 256 := ⟨_, rfl⟩
        have hm2 : m ≤ 256 := by omega
        rw [← hm] at hx
        have hval := manyL_valid m hm2
        have hlen := manyL_len m
        have hrp := readPairs_put _ hval
        obtain ⟨l, hl⟩ : ∃ l, l = manyL m := ⟨_, rfl⟩
        rw [← hl] at hx hval hlen hrp
        have hal := ((valid_iff l).1 hval).2.1
        have hpc := pairs_calls hx (by omega)
        rw [hlen] at hpc
        have hbc := fun W (hW : LineAt W F g l) => lbytes_calls hW (by omega) hal
        have hX := fun W (b : Below _ _ W) => hx.below b
        have HRP := Lib.hid hrp
        have HLEN := Lib.hid hlen
        have hple : (pairsL l).length ≤ 1099511627776 := by
          unfold pairsL
          rw [List.length_append]
          have h1 := Vint.putL_len10 l.length (by omega)
          have h2 : ∀ ys : List Pr, (∀ p ∈ ys, Epo.right p = true) → (ys.flatMap pairL).length ≤ ys.length * 20 := by
            intro ys
            induction ys with
            | nil => intro _; simp
            | cons y ys ih =>
              intro hy
              have h3 := ih (fun p hp => hy p (List.mem_cons_of_mem _ hp))
              have h4 := hy y List.mem_cons_self
              unfold Epo.right at h4
              rw [decide_eq_true_eq] at h4
              have h5 := Vint.putL_len10 y.ep.toNat (by omega)
              have h6 := Vint.putL_len10 y.st.toNat (by omega)
              rw [List.flatMap_cons, List.length_append, List.length_cons]
              unfold pairL at h3 ⊢
              rw [List.length_append]
              omega
          have h3 := h2 l (fun p hp => List.all_eq_true.1 hal p hp)
          omega
        have HPL := Lib.hid hple
        clear hx hval hlen hrp hl hal hple
        by_cases h256 : i ≤ 256
        case' pos => obtain rfl : m = i := by omega
        case' neg => obtain rfl : m = 256 := by omega
        all_goals
          clear hm
          go_wp2_with fail
          refine hpc.mono ?_
          rintro e w3 ⟨v3, rfl, o3, b3⟩
          have B3 := nxt hb b3
          have x3 := hX _ b3
          have r3 := Rd.of_owns o3
          obtain ⟨a3, c3, rfl⟩ := owns_slice o3
          clear hpc o3
          go_wp2_with fail
          refine (hbc _ x3).mono ?_
          rintro e w4 ⟨v4, rfl, o4, b4⟩
          have B4 := nxt B3 b4
          have r4 := r3.below b4
          have hrd := eread_calls (hS.below B4) hz (Rd.of_owns o4) HPL.out
          clear hbc r3
          go_wp2_with fail
          refine hrd.mono ?_
          rintro e w5 h5
          unfold ReadPost at h5
          rw [HRP.out] at h5
          obtain ⟨b5, h5⟩ := h5
          have B5 := nxt B4 b5
          have r5 := r4.below b5
          rcases h5 with ⟨F5, g5, _, rfl, x5, _⟩ | ⟨v5, hne, _⟩
          · simp only at x5
            have hpc5 := pairs_calls x5 (by have := HLEN.out; omega)
            clear hrd
            go_wp2_with fail
            refine hpc5.mono ?_
            rintro e w6 ⟨v6, rfl, o6, b6⟩
            have r6 := r5.below b6
            rw [← HLEN.out] at r6
            have hsp := samePairs_calls v6 _ l l w6 (Rd.of_owns o6) r6
            rw [decide_eq_true rfl, HLEN.out] at hsp
            obtain ⟨a6, c6, rfl⟩ := owns_slice o6
            have B6 := nxt B5 b6
            clear hpc5
            go_wp2_with fail
            refine hsp.mono ?_
            rintro e w7 ⟨rfl, b7⟩
            clear hsp
            go_wp2_with fail
            go_ret
            exact ⟨rfl, nxt B6 b7⟩
          · exact absurd rfl hne
  · exact absurd hv0 hne
end Go.Proofs.YtjhebnjajnjhhaaDoor
