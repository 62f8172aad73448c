/- crc.halves, crc.More, crc.Of, crc.Seal: what they come to. -/
import Derived.Test.YtegiingcnhafbaaGreatDoorSlices
import Derived.Test.YtegiingcnhafbaaGreatDoorCrcMath
namespace Go.Proofs.YtegiingcnhafbaaGreatDoor
open Go Go.RowKit Crc

/-- A sum as a value. -/
def sv (x : BitVec 32) : Value := .int .u32 (x.toNat : Int)

theorem u32w (n : Int) : IntKind.u32.wrap n = n % 4294967296 := by simp [IntKind.wrap, IntKind.bits, IntKind.signed]

theorem shr1 (x : BitVec 32) : ((x.toNat : Int) / (2 : Int)) = (((x >>> 1).toNat : Nat) : Int) := by
  rw [BitVec.toNat_ushiftRight, Nat.shiftRight_eq_div_pow]; omega
theorem shr4 (x : BitVec 32) : ((x.toNat : Int) / (16 : Int)) = (((x >>> 4).toNat : Nat) : Int) := by
  rw [BitVec.toNat_ushiftRight, Nat.shiftRight_eq_div_pow]; omega

theorem bxor (x y : BitVec 32) : bits .xor .u32 (x.toNat : Int) (y.toNat : Int) = (((x ^^^ y).toNat : Nat) : Int) := by
  rw [u32_xor_nat _ _ x.isLt y.isLt, BitVec.toNat_xor]
theorem band (x y : BitVec 32) : bits .and .u32 (x.toNat : Int) (y.toNat : Int) = (((x &&& y).toNat : Nat) : Int) := by
  rw [u32_and_nat _ _ x.isLt y.isLt, BitVec.toNat_and]

theorem bit0 (x : BitVec 32) : bits .and .u32 (x.toNat : Int) 1 = if x.getLsbD 0 then 1 else 0 := by
  have h := band x 1#32
  have e : ((1#32).toNat : Int) = 1 := by decide
  rw [e] at h
  rw [h]
  have : x &&& 1#32 = if x.getLsbD 0 then 1#32 else 0#32 := by
    apply BitVec.eq_of_getLsbD_eq
    intro i hi
    rw [BitVec.getLsbD_and]
    rcases i with _ | i
    · cases hx : x.getLsbD 0 <;> simp
    · have h1 : (1#32).getLsbD (i + 1) = false := by
        have : ∀ i, i < 32 → 0 < i → (1#32).getLsbD i = false := by decide
        exact this _ hi (by omega)
      rw [h1]
      cases x.getLsbD 0 <;> simp [h1]
  rw [this]
  cases x.getLsbD 0 <;> simp

theorem bitk (x : BitVec 32) (k : Nat) : bits .and .u32 ((x.toNat : Int) / 2 ^ k) 1 = if x.getLsbD k then 1 else 0 := by
  have h := bit0 (x >>> k)
  have e : (((x >>> k).toNat : Nat) : Int) = (x.toNat : Int) / 2 ^ k := by
    rw [BitVec.toNat_ushiftRight, Nat.shiftRight_eq_div_pow]; simp
  rw [e, BitVec.getLsbD_ushiftRight, Nat.add_zero] at h
  exact h

theorem shl_walk (k : Nat) : (2 : Int) ^ k % 4294967296 = (((1#32 <<< k).toNat : Nat) : Int) := by
  rw [BitVec.toNat_shiftLeft, Nat.shiftLeft_eq]
  have : (1#32).toNat = 1 := by decide
  rw [this, Nat.one_mul]
  simp

/-- One round of the table's. -/
theorem st_walk (x : BitVec 32) : bits .xor .u32 ((x.toNat : Int) / 2) (bits .and .u32 (-(bits .and .u32 (x.toNat : Int) 1) % 4294967296) 2197175160) = (((st x).toNat : Nat) : Int) := by
  have hp : ((poly.toNat : Nat) : Int) = 2197175160 := by decide
  rw [shr1, bit0]
  unfold st
  cases x.getLsbD 0
  · have h1 : (-(if false = true then (1 : Int) else 0)) % 4294967296 = (((0#32).toNat : Nat) : Int) := by decide
    rw [h1, ← hp, band, bxor]
    simp
  · have h1 : (-(if true = true then (1 : Int) else 0)) % 4294967296 = (((BitVec.allOnes 32).toNat : Nat) : Int) := by decide
    rw [h1, ← hp, band, bxor, BitVec.allOnes_and]
    simp

/-- The table as far as it is laid. -/
def tabA (k : Nat) : Array Value := ((List.range 16).map fun i => if i < k then sv (half (BitVec.ofNat 32 i)) else .int .u32 0).toArray

theorem tabA_next (k : Nat) (h : k < 16) : (tabA k).setIfInBounds k (sv (half (BitVec.ofNat 32 k))) = tabA (k + 1) := by
  unfold tabA
  rw [List.setIfInBounds_toArray]
  congr 1
  apply List.ext_getElem?
  intro i
  rw [List.getElem?_set, List.getElem?_map, List.getElem?_map]
  simp only [List.length_map, List.length_range]
  by_cases hi : i < 16
  · rw [List.getElem?_range hi]
    by_cases hk : k = i
    · subst hk; simp [h]
    · simp only [hk, if_false, Option.map_some]
      congr 1
      by_cases h2 : i < k
      · rw [if_pos h2, if_pos (by omega)]
      · rw [if_neg h2, if_neg (by omega)]
  · rw [List.getElem?_eq_none (by simp; omega)]
    simp; omega

theorem tabA_one (k : Nat) : (tabA k).all (·.oneCell') = true := by
  rw [Array.all_eq_true_iff_forall_mem]
  intro v hv
  simp only [tabA, List.mem_toArray, List.mem_map] at hv
  obtain ⟨i, _, rfl⟩ := hv
  split <;> rfl

theorem tabA_lit : tabA 16 = (tab.map fun (n : Nat) => Value.int .u32 (n : Int)).toArray := by
  show List.toArray _ = List.toArray _
  refine congrArg List.toArray ?_
  apply List.ext_getElem?
  intro i
  rw [List.getElem?_map, List.getElem?_map]
  by_cases hi : i < 16
  · rw [List.getElem?_range hi]
    have hl : i < tab.length := hi
    have := tab_half i hi
    rw [List.getD_eq_getElem?_getD] at this
    rw [List.getElem?_eq_getElem hl] at this ⊢
    simp only [Option.map_some, Option.getD_some, if_pos hi, sv] at this ⊢
    rw [this]
  · rw [List.getElem?_eq_none (by simp; omega), List.getElem?_eq_none (by show (16 : Nat) ≤ i; omega)]
    rfl

set_option maxRecDepth 100000 in
set_option maxHeartbeats 1000000 in
theorem halves_calls (w : World) :
    Calls Tryz.prog 76 #[] w (fun e w' => e = .returned (.agg (tabA 16)) ∧ Below w.heap.size w w') := by
  go_enter Tryz.func76, Tryz.ntmps76
  go_wp2_with fail
  go_loopw [4] (fun iv wr => ∃ k : Nat, k ≤ 16 ∧ iv = .int .i64 k ∧ wr.heap[w.heap.size + 1]? = some (.cells (tabA k) 112 (0, 0)) ∧ wr.heap[w.heap.size]? = some (.cells (tabA 0) 112 (0, 0)) ∧ Below w.heap.size w wr) (fun iv _ => 16 - (intOf iv).toNat)
  case atStart =>
    refine ⟨0, by omega, rfl, heap_alloc2_new _ _ _, heap_alloc2_old _ _ _, ?_⟩
    exact ((Below.refl _ _).alloc (Nat.le_refl _) _).alloc (by simp) _
  case round =>
    obtain ⟨k, hk, rfl, hb1, hb0, hbel⟩ := hrel
    by_cases hlt : k < 16
    · go_wp2_with fail
      go_loop [3, 9] (fun xv jv => ∃ j : Nat, j ≤ 4 ∧ jv = .int .i64 j ∧ xv = sv (stn j (BitVec.ofNat 32 k))) (fun _ jv => 4 - (intOf jv).toNat)
      case atStart => exact ⟨0, by omega, rfl, by simp [stn, sv]; omega⟩
      case round =>
        obtain ⟨j, hj, rfl, rfl⟩ := hrel
        by_cases hlj : j < 4
        · unfold sv
          go_wp2_with fail
          exact ⟨⟨j + 1, by omega, by go_num, congrArg (Value.int .u32) (by rw [st_walk, stn_succ])⟩, by simp [intOf]; omega⟩
        · have h4 : j = 4 := by omega
          subst h4
          have hhalf : stn 4 (BitVec.ofNat 32 k) = half (BitVec.ofNat 32 k) := by
            unfold half
            congr 1
            have : ∀ k, k < 16 → BitVec.ofNat 32 k = BitVec.ofNat 32 k &&& 15#32 := by decide
            exact this k hlt
          rw [hhalf]
          clear hhalf
          have hcell := cell_of_row wr (w.heap.size + 1) k _ _ _ hb1
          have hsz : (tabA k).size = 16 := by simp [tabA]
          rw [Array.getElem?_eq_getElem (by omega)] at hcell
          generalize (tabA k)[k]'(by omega) = old at hcell
          have hfr := frozen_of_row wr (w.heap.size + 1) k _ _ hb1
          have n1 := heap_setCell_same wr (w.heap.size + 1) k _ _ (sv (half (BitVec.ofNat 32 k))) hb1
          rw [tabA_next k hlt] at n1
          have n0 := heap_setCell_other wr ⟨w.heap.size + 1, k, none⟩ w.heap.size (sv (half (BitVec.ofNat 32 k))) (by simp)
          rw [hb0] at n0
          have nb := hbel.setCell (p := ⟨w.heap.size + 1, k, none⟩) (by simp) (sv (half (BitVec.ofNat 32 k)))
          have N1 := Lib.hid n1
          have N0 := Lib.hid n0
          clear hb1 hb0 n1 n0 hsz
          unfold sv at *
          go_wp2_with fail
          exact ⟨⟨k + 1, by omega, by go_num, N1.out, N0.out, nb⟩, by simp [intOf]; omega⟩
    · have h16 : k = 16 := by omega
      subst h16
      have s16 : (some 16 : Option Nat) = some (tabA 16).size := by simp [tabA]
      have hi : (Tryz.prog.info? 112).map (·.size) = some (tabA 16).size := by rw [← s16]; kernel_rfl
      have hold : (tabA 0).size = (tabA 16).size := by simp [tabA]
      have hone := tabA_one 16
      have n0 := setRow_heap wr w.heap.size (tabA 0) (tabA 16) 112 (0, 0) hb0
      have nb : Below w.heap.size w (wr.setRow w.heap.size (tabA 16)) := below_setRow hbel _ _ (Nat.le_refl _)
      generalize hT : tabA 16 = T at *
      generalize tabA 0 = T0 at *
      have HT := Lib.hid hT
      clear s16 hT
      go_wp2_with (first | (refine wpList_load_row rfl 112 _ rfl (w.heap.size + 1) rfl 112 T (0, 0) _ hb1 Tryz.underlying112 rfl hi ?_) | (refine wpList_store_row rfl 112 _ _ rfl w.heap.size T rfl rfl 112 T0 hb0 hi hold hone ?_))
      refine bodyPost_ret (v := .agg T) (results_cell_row rfl _ _ w.heap.size 112 T (0, 0) _ rfl n0 Tryz.underlying112 rfl hi) rfl ⟨by rw [HT.out], nb⟩

theorem tab_at (i : Nat) (h : i < 16) : (tabA 16)[i]? = some (sv (half (BitVec.ofNat 32 i))) := by
  unfold tabA
  simp only [List.getElem?_toArray, List.getElem?_map, List.getElem?_range h, Option.map_some, if_pos h]

theorem idx_walk (x : BitVec 32) : ∃ i : Nat, i < 16 ∧ bits .and .u32 (x.toNat : Int) 15 = (i : Int) ∧ (tabA 16)[i]? = some (.int .u32 ((half x).toNat : Int)) := by
  refine ⟨(x &&& 15#32).toNat, (half_tab x).1, ?_, ?_⟩
  · have := band x 15#32
    rw [← this]; rfl
  · rw [tab_at _ (half_tab x).1]
    unfold sv half
    rw [BitVec.ofNat_toNat, BitVec.setWidth_eq]
    have : x &&& 15#32 &&& 15#32 = x &&& 15#32 := by rw [BitVec.and_assoc, BitVec.and_self]
    exact (congrArg (fun y => some (Value.int .u32 ((stn 4 y).toNat : Int))) this)

theorem half_walk (x : BitVec 32) : bits .xor .u32 ((x.toNat : Int) / 16) ((half x).toNat : Int) = (((stn 4 x).toNat : Nat) : Int) := by
  rw [shr4, bxor, stn4]

theorem byte_walk (s : BitVec 32) (c : UInt8) : bits .xor .u32 (s.toNat : Int) ((c.toNat : Int) % 4294967296) = (((s ^^^ c.toBitVec.setWidth 32).toNat : Nat) : Int) := by
  have := bxor s (c.toBitVec.setWidth 32)
  rw [← this]
  have e : (c.toNat : Int) % 4294967296 = (((c.toBitVec.setWidth 32).toNat : Nat) : Int) := by
    rw [BitVec.toNat_setWidth]
    have := c.toNat_lt
    show (c.toNat : Int) % 4294967296 = ((c.toNat % 2 ^ 32 : Nat) : Int)
    omega
  rw [e]

theorem not_walk (s : BitVec 32) : bits .xor .u32 IntKind.u32.max (s.toNat : Int) = (((~~~ s).toNat : Nat) : Int) := by
  have := bxor (BitVec.allOnes 32) s
  rw [BitVec.allOnes_xor] at this
  rw [← this]; rfl

set_option maxRecDepth 100000 in
set_option maxHeartbeats 1000000 in
theorem more_calls (s : BitVec 32) (v : Value) (l : List UInt8) (w : World) (h : Rd w 1 v l.length (bvs l)) :
    Calls Tryz.prog 63 #[.int .u32 (s.toNat : Int), v] w (fun e w' => e = .returned (.int .u32 ((more s l).toNat : Int)) ∧ Below w.heap.size w w') := by
  obtain ⟨a, c, rfl⟩ := h.slice
  have hlen := h.len_le
  have s16 : (some 16 : Option Nat) = some (tabA 16).size := by simp [tabA]
  have hi : (Tryz.prog.info? 112).map (·.size) = some (tabA 16).size := by rw [← s16]; kernel_rfl
  have hold : (16 : Nat) = (tabA 16).size := by simp [tabA]
  have hone := Lib.hid (tabA_one 16)
  have Hold := Lib.hid hold
  have HI' := Lib.hid hi
  clear s16 hold hi
  go_enter Tryz.func63, Tryz.ntmps63
  go_wp2_with fail
  refine (halves_calls _).mono ?_
  rintro e w1 ⟨rfl, hb1⟩
  go_wp2_with (refine wpList_store_row_g rfl 112 _ _ rfl w1.heap.size _ rfl rfl 112 _ (heap_alloc_new w1 _) HI'.out Hold.out hone.out ?_)
  intro w2 hT hg2 hs2
  have hb2 : Below w.heap.size w w2 := (hb1.alloc hb1.size _).grown hg2 (by have := hb1.size; simp; omega) (fun k hk => by have := hb1.size; simp only [Option.some.injEq] at hk; omega)
  have h2 := h.below (hb2)
  have hlt2 : w1.heap.size < w2.heap.size := by rw [hs2]; simp
  clear hg2 hs2 h HI' Hold hone
  have en := not_walk s
  go_wp2_with fail
  go_loop [0, 13] (fun sv iv => ∃ k : Nat, k ≤ l.length ∧ iv = .int .i64 k ∧ sv = .int .u32 ((run (~~~ s) (l.take k)).toNat : Int)) (fun _ iv => l.length - (intOf iv).toNat)
  case atStart => exact ⟨0, Nat.zero_le _, rfl, congrArg (Value.int .u32) (by show _ = ((~~~ s).toNat : Int); rw [BitVec.toNat_not])⟩
  case round =>
    obtain ⟨k, hk, rfl, rfl⟩ := hrel
    by_cases hlt : k < l.length
    · obtain ⟨b, o, rfl, hc1, hm1, hx1⟩ := h2.at (by omega)
      have g1 := hx1 k _ (bvs_at l k hlt)
      have hnext : run (~~~ s) (l.take (k + 1)) = byt (run (~~~ s) (l.take k)) l[k] := by
        rw [List.take_succ_eq_append_getElem hlt, run_append]; rfl
      have HN := Lib.hid hnext
      clear hx1 h2 hnext
      generalize run (~~~ s) (l.take k) = x at *
      have eb := byte_walk x l[k]
      have hbyt := Lib.hid (byt_half x l[k])
      generalize x ^^^ (l[k]).toBitVec.setWidth 32 = y at *
      obtain ⟨i1, hi1, ei1, et1⟩ := idx_walk y
      obtain ⟨i2, hi2, ei2, et2⟩ := idx_walk (stn 4 y)
      have c1 := (cell_of_row w2 w1.heap.size i1 _ _ _ hT).trans et1
      have c2 := (cell_of_row w2 w1.heap.size i2 _ _ _ hT).trans et2
      have eh1 := half_walk y
      have eh2 := half_walk (stn 4 y)
      clear et1 et2 hT
      go_wp2_with fail
      exact ⟨⟨k + 1, by omega, by go_num, congrArg (Value.int .u32) (by rw [HN.out, hbyt.out])⟩, by simp [intOf]; omega⟩
    · have hkl : k = l.length := by omega
      subst hkl
      rw [List.take_of_length_le (Nat.le_refl _)]
      have e2 := not_walk (run (~~~ s) l)
      have hm : more s l = ~~~ run (~~~ s) l := rfl
      have HM := Lib.hid hm
      clear hm h2 hT hk hlt
      generalize run (~~~ s) l = x at *
      go_wp2_with fail
      go_ret
      exact ⟨by rw [HM.out, BitVec.toNat_not]; rfl, hb2⟩

/-- Parts as cells: each a slice that reads as its bytes. -/
def Parts (w : World) (vs : List Value) (ls : List (List UInt8)) : Prop :=
  vs.length = ls.length ∧ ∀ (i : Nat) v l, vs[i]? = some v → ls[i]? = some l → Rd w 1 v l.length (bvs l)

theorem Parts.below {w w' : World} {vs : List Value} {ls : List (List UInt8)} (h : Parts w vs ls) (hb : Below w.heap.size w w') : Parts w' vs ls :=
  ⟨h.1, fun i v l hv hl => (h.2 i v l hv hl).below hb⟩

theorem Parts.snoc {w : World} {vs : List Value} {ls : List (List UInt8)} (h : Parts w vs ls) {v : Value} {l : List UInt8} (hr : Rd w 1 v l.length (bvs l)) : Parts w (vs ++ [v]) (ls ++ [l]) := by
  refine ⟨by simp [h.1], fun i v' l' hv hl => ?_⟩
  by_cases hi : i < vs.length
  · rw [List.getElem?_append_left hi] at hv
    rw [List.getElem?_append_left (by rw [← h.1]; exact hi)] at hl
    exact h.2 i v' l' hv hl
  · rw [List.getElem?_append_right (by omega)] at hv
    rw [List.getElem?_append_right (by rw [← h.1]; omega)] at hl
    rw [← h.1] at hl
    generalize i - vs.length = j at hv hl
    rcases j with _ | j
    · simp at hv hl; subst hv; subst hl; exact hr
    · simp at hv

theorem bvs_part (l : List UInt8) (n m : Nat) : bvs ((l.drop n).take m) = ((bvs l).drop n).take m := by simp [bvs, List.map_take, List.map_drop]
theorem bvs_drop (l : List UInt8) (n : Nat) : bvs (l.drop n) = (bvs l).drop n := by simp [bvs, List.map_drop]
theorem bvs_take (l : List UInt8) (n : Nat) : bvs (l.take n) = (bvs l).take n := by simp [bvs, List.map_take]

theorem Parts.one {w : World} {v : Value} {l : List UInt8} (h : Rd w 1 v l.length (bvs l)) : Parts w [v] [l] :=
  ⟨rfl, fun i v' l' hv hl => by
    rcases i with _ | i
    · simp at hv hl; subst hv; subst hl; exact h
    · simp at hv⟩

theorem sum_flatten_take (ls : List (List UInt8)) (k : Nat) (h : k < ls.length) : sum (ls.take (k + 1)).flatten = more (sum (ls.take k).flatten) ls[k] := by
  rw [List.take_succ_eq_append_getElem h, List.flatten_append]
  unfold sum
  rw [more_append]
  simp

set_option maxRecDepth 100000 in
set_option maxHeartbeats 1000000 in
theorem of_calls (v : Value) (vs : List Value) (ls : List (List UInt8)) (w : World) (h : Rd w 1 v vs.length vs) (hp : Parts w vs ls) :
    Calls Tryz.prog 41 #[v] w (fun e w' => e = .returned (.int .u32 ((sum ls.flatten).toNat : Int)) ∧ Below w.heap.size w w') := by
  obtain ⟨a, c, rfl⟩ := h.slice
  have hlen := h.len_le
  have hl := Lib.hid hp.1
  go_enter Tryz.func41, Tryz.ntmps41
  go_wp2_with fail
  go_loopw [3, 8] (fun sv iv wr => ∃ k : Nat, k ≤ vs.length ∧ iv = .int .i64 k ∧ sv = .int .u32 ((sum (ls.take k).flatten).toNat : Int) ∧ Below w.heap.size w wr) (fun _ iv _ => vs.length - (intOf iv).toNat)
  case atStart => exact ⟨0, Nat.zero_le _, rfl, congrArg (Value.int .u32) (by simp [sum, more_nil]), Below.refl _ _⟩
  case round =>
    obtain ⟨k, hk, rfl, rfl, hb⟩ := hrel
    by_cases hlt : k < vs.length
    · obtain ⟨b, o, rfl, hc1, hm1, hx1⟩ := (h.below hb).at (by omega)
      have hk2 : k < ls.length := by have := hl.out; omega
      have g1 := hx1 k _ (List.getElem?_eq_getElem hlt)
      have r1 := hp.2 k _ _ (List.getElem?_eq_getElem hlt) (List.getElem?_eq_getElem hk2)
      have hnext := Lib.hid (sum_flatten_take ls k hk2)
      obtain ⟨a1, c1, hv1⟩ := r1.slice
      rw [hv1] at g1 r1
      clear hx1 h hp hv1 hc1 hm1
      generalize ls[k] = lk at *
      generalize sum (ls.take k).flatten = x at *
      go_wp2_with fail
      refine (more_calls x _ lk _ (r1.below hb)).mono ?_
      rintro e w1 ⟨rfl, hb1⟩
      go_wp2_with fail
      exact ⟨⟨k + 1, by omega, by go_num, congrArg (Value.int .u32) (by rw [hnext.out]), nxt hb hb1⟩, by simp [intOf]; omega⟩
    · go_wp2_with fail
      go_ret
      exact ⟨by rw [List.take_of_length_le (by have := hl.out; omega)]; rfl, hb⟩

theorem of_one (v : Value) (n : Nat) (l : List UInt8) (w : World) (h : Rd w 1 v n (bvs l)) :
    Calls Tryz.prog 41 #[.slice (some ⟨w.heap.size, 0, none⟩) 1 1] (w.alloc (.cells #[v] 23)) (fun e w' => e = .returned (.int .u32 ((sum l).toNat : Int)) ∧ Below w.heap.size w w') := by
  have hn : n = l.length := by have := h.1; simp at this; omega
  subst hn
  refine (of_calls _ [v] [l] _ (Rd.new w #[v] _ 1 1 rfl (by decide)) (Parts.one (h.below (below_alloc w _)))).mono ?_
  rintro e w1 ⟨rfl, hb⟩
  exact ⟨by simp, nxt (below_alloc w _) hb⟩

/-- Of at a list of one, wherever it lies. -/
theorem of_at (w0 W : World) (hb : Below w0.heap.size w0 W) (g : Nat) (v : Value) (hg : W.heap[g]? = some (.cells #[v] 23 (0, 0))) (n : Nat) (l : List UInt8) (h : Rd w0 1 v n (bvs l)) :
    Calls Tryz.prog 41 #[.slice (some ⟨g, 0, none⟩) 1 1] W (fun e w' => e = .returned (.int .u32 ((sum l).toNat : Int)) ∧ Below W.heap.size W w') := by
  have hn : n = l.length := by have := h.1; simp at this; omega
  subst hn
  have hr : Rd W 1 (.slice (some ⟨g, 0, none⟩) 1 1) 1 [v] := ⟨rfl, .inr ⟨⟨g, 0, none⟩, 1, rfl, Nat.le_refl _, by decide, fun j u hu => by
    rw [add_none, cell_of_row W g _ _ _ _ hg]
    simpa using hu⟩⟩
  refine (of_calls _ [v] [l] _ hr (Parts.one (h.below hb))).mono ?_
  rintro e w1 ⟨rfl, hb⟩
  exact ⟨by simp, hb⟩

/-- Of of nothing. -/
theorem of_nil (W : World) :
    Calls Tryz.prog 41 #[.slice none 0 0] W (fun e w' => e = .returned (.int .u32 0) ∧ Below W.heap.size W w') := by
  refine (of_calls _ [] [] _ (Rd.nil _ _) ⟨rfl, by simp⟩).mono ?_
  rintro e w1 ⟨rfl, hb⟩
  exact ⟨by simp [sum, more_nil], hb⟩

end Go.Proofs.YtegiingcnhafbaaGreatDoor
