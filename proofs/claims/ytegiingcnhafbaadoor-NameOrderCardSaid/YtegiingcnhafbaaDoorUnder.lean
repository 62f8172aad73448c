/- name.Under: the names that begin so, rising, each once. -/
import Derived.Test.YtegiingcnhafbaaDoorNameLog
import Derived.Test.YtegiingcnhafbaaDoorTxtMath
import Derived.Shelf.Sort.Plain
import Derived.Shelf.Slices.CompactS
import Derived.Shelf.Slices.In.SortNone
import Derived.Sort.OwnSorted
namespace Go.Proofs.YtegiingcnhafbaaDoor
open Go Go.Shelf Go.RowKit Go.Sort

shelf_lay Lays.n190 Nm 190 at Tryd as laysSort
shelf_lay Lays.n194 Nm 194 at Tryd as laysCompact

theorem info_str' : (Tryd.prog.info? 9).map (fun i => (i.zero, i.size, i.bytes)) = some (some (.string ⟨#[]⟩), 1, 16) := by kernel_rfl
theorem enc_one (ts : List (List UInt8)) : ∀ u ∈ ts.map encStr, u.oneCell' = true := by
  intro u hu
  obtain ⟨t, -, rfl⟩ := List.mem_map.1 hu
  rfl
/-- The row behind 'Compact'. -/
theorem compacted {w : World} {g cap q k : Nat} {e : TypeId} {cur : Array Value} {us : List (List UInt8)} (hb : w.heap[g]? = some (.cells cur e (0, 0))) (hc : us.length + k ≤ cap) (hm : cap ≤ maxLen) (hs : cur.size = cap) :
    Rd (putRow encStr (Sort.ahead w q) g 0 (us ++ List.replicate k []).toArray) 1 (.slice (some ⟨g, 0, none⟩) us.length cap) us.length (us.map encStr) ∧ w.grownBy (putRow encStr (Sort.ahead w q) g 0 (us ++ List.replicate k []).toArray) (some g) := by
  have hg := heap_sorted (n := q) (os := #[]) (us ++ List.replicate k []).toArray hb
  have gr := grownBy_sorted (w := w) (g := g) (n := q) (os := #[]) (us ++ List.replicate k []).toArray
  rw [grow_empty] at hg gr
  refine ⟨⟨by simp, .inr ⟨⟨g, 0, none⟩, cap, rfl, by omega, hm, fun j u hu => ?_⟩⟩, gr⟩
  rw [add_none, cell_of_row _ g _ _ _ _ hg]
  have hj : j < us.length := by
    rcases Nat.lt_or_ge j us.length with h | h
    · exact h
    · rw [List.getElem?_eq_none (by simpa using h)] at hu; cases hu
  have ht := take_putCells cur (us ++ List.replicate k []) (by rw [List.length_append, List.length_replicate]; omega)
  have h1 : ((putCells encStr 0 (us ++ List.replicate k []).toArray cur).toList.take (us ++ List.replicate k []).length)[j]? = ((us ++ List.replicate k []).map encStr)[j]? := by rw [ht]
  rw [List.getElem?_take_of_lt (by rw [List.length_append]; omega), Array.getElem?_toList] at h1
  rw [Nat.zero_add, h1, List.map_append, List.getElem?_append_left (by simpa using hj)]
  exact hu

theorem sort0_calls (w : World) : Calls Tryd.prog 36 #[.slice none 0 0] w (fun e w' => e = .returned (.tuple #[]) ∧ w' = w) := Any.slices_Sort_string_none laysSort none 0 w
theorem compact0_calls (w : World) : Calls Tryd.prog 37 #[.slice none 0 0] w (fun e w' => e = .returned (.slice none 0 0) ∧ w' = w) := Any.slices_Compact_string_empty laysCompact none 0 w
theorem sort_calls {w : World} {g cap : Nat} {t : TypeId} {cur : Array Value} {ss : List (List UInt8)} (hb : w.heap[g]? = some (.cells cur t (0, 0))) (ht : cur.toList.take ss.length = ss.map encStr) (hl : ss.length ≤ cur.size) (hn : ss.length ≤ 1000) :
    Calls Tryd.prog 36 #[.slice (some ⟨g, 0, none⟩) ss.length cap] w (fun e w' => e = .returned (.tuple #[]) ∧ (∃ cur', w'.heap[g]? = some (.cells cur' t (0, 0)) ∧ cur'.size = cur.size ∧ cur'.toList.take ss.length = (ss.mergeSort fun x y => decide (x ≤ y)).map encStr) ∧ w.grownBy w' (some g)) :=
  (Any.slices_Sort_string laysSort g 0 cap ss w (holds_of_block hb ht) (Array.getElem?_eq_some_iff.1 hb).1 (by omega)).mono (fun e w' h => by
    obtain ⟨rfl, n, os, rfl⟩ := h
    have hm : (ss.mergeSort fun x y => decide (x ≤ y)).length = ss.length := by simp
    refine ⟨rfl, ⟨_, heap_sorted _ hb, by simp [putCells], ?_⟩, grownBy_sorted _⟩
    rw [← hm]
    exact take_putCells cur _ (by rw [hm]; exact hl))
theorem compact_calls {w : World} {g cap : Nat} {t : TypeId} {cur : Array Value} {zs : List (List UInt8)} (hb : w.heap[g]? = some (.cells cur t (0, 0))) (ht : cur.toList.take zs.length = zs.map encStr) (hl : zs.length ≤ cap) (hm : cap ≤ maxLen) (hs : cur.size = cap) :
    Calls Tryd.prog 37 #[.slice (some ⟨g, 0, none⟩) zs.length cap] w (fun e w' => e = .returned (.slice (some ⟨g, 0, none⟩) (Lib.compact zs).length cap) ∧ Rd w' 1 (.slice (some ⟨g, 0, none⟩) (Lib.compact zs).length cap) (Lib.compact zs).length ((Lib.compact zs).map encStr) ∧ w.grownBy w' (some g)) :=
  (Any.slices_Compact_string laysCompact g 0 cap zs w (holds_of_block hb ht) (by unfold maxLen at hm; omega) hl).mono (fun e w' h => by
    obtain ⟨rfl, q, rfl⟩ := h
    have hle : (Lib.compact zs).length ≤ zs.length := by
      unfold Lib.compact Lib.compactUpTo
      rw [List.length_map]
      refine Nat.le_trans (List.length_filter_le _ _) ?_
      rw [List.length_range]; exact Nat.le_refl _
    have hh := compacted (q := q) (k := zs.length - (Lib.compact zs).length) (us := Lib.compact zs) hb (by omega) hm hs
    exact ⟨rfl, hh.1, hh.2⟩)

set_option maxRecDepth 100000 in
set_option maxHeartbeats 2000000 in
theorem under_calls (p : ByteArray) (v : Value) (ts : List (List UInt8)) (w : World) (h : Rd w 1 v ts.length (ts.map encStr)) (hn : ts.length ≤ 1000) :
    Calls Tryd.prog 21 #[.string p, v] w (fun e w' => ∃ v', e = .returned v' ∧ Rd w' 1 v' (onceL (ts.filter fun t => Lib.hasPrefix t p.data.toList)).length ((onceL (ts.filter fun t => Lib.hasPrefix t p.data.toList)).map encStr) ∧ Below w.heap.size w w') := by
  obtain ⟨i0, hi0, hz0, hz1, hz2⟩ := info_parts info_str'
  obtain ⟨a, c, rfl⟩ := h.slice
  have hpre := fun (t : List UInt8) W => hasPre_calls ⟨t.toArray⟩ p W
  obtain ⟨F, hF⟩ : ∃ F : List UInt8 → Bool, F = fun t => Lib.hasPrefix t p.data.toList := ⟨_, rfl⟩
  have hpre' : ∀ t W, Calls Tryd.prog 35 #[.string ⟨t.toArray⟩, .string p] W (fun e w' => e = .returned (.bool (F t)) ∧ w' = W) := by rw [hF]; exact hpre
  rw [← hF]
  clear hpre hF
  go_enter Tryd.func21, Tryd.ntmps21
  go_wp2_with fail
  go_loopw [5, 7, 10] (fun ov _ iv wr => ∃ i : Nat, i ≤ ts.length ∧ iv = .int .i64 i ∧ wr.ownsRow w.heap.size 9 1 ov ((ts.take i).filter F).length (((ts.take i).filter F).map encStr) ∧ Below w.heap.size w wr) (fun _ _ iv _ => ts.length - (intOf iv).toNat)
  case atStart => exact ⟨0, Nat.zero_le _, rfl, World.ownsRow_nil _ _ _ _, Below.refl _ _⟩
  case round =>
    obtain ⟨i, hi, rfl, oo, hb⟩ := hrel
    by_cases hlt : i < ts.length
    · obtain ⟨b, o, rfl, hc1, hm1, hx1⟩ := (h.below hb).at (by omega)
      have d0 : wr.cell? ⟨b, o + i, none⟩ = some (encStr ts[i]) := hx1 i _ (by simp [hlt])
      have hle : ((ts.take i).filter F).length ≤ i := Nat.le_trans (List.length_filter_le _ _) (by rw [List.length_take]; omega)
      have HTK := Lib.hid (List.take_succ_eq_append_getElem hlt)
      generalize ts[i] = t at d0 HTK
      have HY : Hid (F t = true → ((ts.take (i + 1)).filter F) = ((ts.take i).filter F) ++ [t]) := Lib.hid (fun hf => by rw [HTK.out, List.filter_append]; simp [hf])
      have HN : Hid (F t = false → ((ts.take (i + 1)).filter F) = ((ts.take i).filter F)) := Lib.hid (fun hf => by rw [HTK.out, List.filter_append]; simp [hf])
      have hp := hpre' t wr
      generalize ((ts.take i).filter F) = us at oo HY HN hle
      obtain ⟨a2, c2, rfl⟩ := owns_slice oo
      clear hx1 hc1 hm1 HTK
      obtain ⟨B, hB⟩ : ∃ B, B = F t := ⟨_, rfl⟩
      rw [← hB] at hp HY HN
      clear hB
      go_wp2_with fail
      with_reducible refine hp.mono ?_
      rintro e w2 ⟨rfl, hw⟩
      subst hw
      clear hp d0
      cases B
      · have HE := Lib.hid (HN.out rfl)
        clear HY HN
        go_wp2_with fail
        exact ⟨⟨i + 1, by omega, by go_num, by rw [HE.out]; exact oo, hb⟩, by simp [intOf]; omega⟩
      · have HE := Lib.hid (HY.out rfl)
        clear HY HN
        go_wp2_with (at_builtin; refine wpList_append_own _ rfl _ _ 34 rfl w.heap.size 9 i0 (.string ⟨#[]⟩) 1 16 Tryd.underlying34 hi0 hz0 hz1 hz2 rfl (by decide) _ us.length _ rfl (oo.alloc _) ⟨w2.heap.size, 0, none⟩ 1 1 [encStr t] rfl rfl ?c1 ?c2 ?c3 ?c4 ?c5 ?_)
        case c1 => exact cells_new w2 #[encStr t] 9
        case c2 => intro u hu; simp at hu; subst hu; rfl
        case c3 => unfold maxLen; omega
        case c4 => omega
        case c5 => have := hb.size; simp; omega
        intro v6 w6 o6 g6 _
        have b6 := below_alloc w2 (.cells #[encStr t] 9)
        have B6 : Below w.heap.size w w6 := (nxt hb b6).grown g6 (nxt hb b6).size (owns_ge oo)
        clear g6 b6
        go_wp2_with fail
        refine ⟨⟨i + 1, by omega, by go_num, ?_, B6⟩, by simp [intOf]; omega⟩
        rw [HE.out, List.map_append, List.length_append]
        exact o6
    · have hall : (ts.take i).filter F = ts.filter F := by rw [List.take_of_length_le (by omega)]
      rw [hall] at oo
      have hle : (ts.filter F).length ≤ 1000 := Nat.le_trans (List.length_filter_le _ _) hn
      obtain ⟨us, hus⟩ : ∃ us, us = ts.filter F := ⟨_, rfl⟩
      rw [← hus] at oo hle
      have HUS := Lib.hid hus
      clear hall hus
      rcases oo.2 with ⟨hnil, hl0⟩ | ⟨g, cap, cur, rfl, hbase, hb', h1, h2, h3, h4⟩
      · obtain rfl : us = [] := by
          cases us with
          | nil => rfl
          | cons _ _ => simp at hl0
        subst hnil
        have hs0 := sort0_calls wr
        have hk0 := compact0_calls wr
        have HON : Hid (onceL [] = []) := Lib.hid (by unfold onceL; simp [Lib.compact, Lib.compactUpTo])
        go_wp2_with fail
        with_reducible refine hs0.mono ?_
        rintro e w2 ⟨rfl, hw⟩
        subst hw
        go_wp2_with fail
        with_reducible refine hk0.mono ?_
        rintro e w3 ⟨rfl, hw⟩
        subst hw
        go_wp2_with fail
        go_ret
        exact ⟨_, rfl, by rw [← HUS.out, HON.out]; exact Rd.nil _ _, hb⟩
      · rw [Nat.mul_one] at h3 h4
        have hso := sort_calls (cap := cap) hb' h4 (by omega) hle
        have HONE : Hid (onceL us = Lib.compact (us.mergeSort fun x y => decide (x ≤ y))) := Lib.hid rfl
        go_wp2_with fail
        with_reducible refine hso.mono ?_
        rintro e w2 ⟨rfl, ⟨cur2, hb2, hs2, ht2⟩, g2⟩
        have B2 : Below w.heap.size w w2 := hb.grown g2 hb.size (fun k hk => by simp only [Option.some.injEq] at hk; omega)
        have hml : (us.mergeSort fun x y => decide (x ≤ y)).length = us.length := by simp
        rw [← hml] at ht2
        have hco := compact_calls (cap := cap) hb2 ht2 (by omega) h2 (by omega)
        rw [hml] at hco
        clear hso g2 oo h4 ht2 hml
        go_wp2_with fail
        with_reducible refine hco.mono ?_
        rintro e w3 ⟨rfl, r3, g3⟩
        have B3 : Below w.heap.size w w3 := B2.grown g3 B2.size (fun k hk => by simp only [Option.some.injEq] at hk; omega)
        clear hco g3
        go_wp2_with fail
        go_ret
        exact ⟨_, rfl, by rw [← HUS.out, HONE.out]; exact r3, B3⟩
end Go.Proofs.YtegiingcnhafbaaDoor
