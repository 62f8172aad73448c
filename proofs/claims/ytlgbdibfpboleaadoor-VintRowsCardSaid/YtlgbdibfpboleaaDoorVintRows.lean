/- VintRows returns true at every input. -/
import Derived.Test.YtlgbdibfpboleaaDoorReaderBytes
import Derived.Test.YtlgbdibfpboleaaDoorReaderInt
import Derived.Test.YtlgbdibfpboleaaDoorReaderFixed
import Derived.Test.YtlgbdibfpboleaaDoorRowsMath
import Derived.Test.YtlgbdibfpboleaaDoorAppend
import Derived.Test.YtlgbdibfpboleaaDoorVintFirst
import Derived.Test.YtlgbdibfpboleaaDoorSameBytes
import Derived.Test.YtlgbdibfpboleaaDoorWorldBytes
import Derived.Deep.RegionHeld3
import Derived.Deep.DeepCutAuto
import Derived.Deep.CutBlock
namespace Go.Proofs.YtlgbdibfpboleaaDoor
open Go Go.RowKit Vint

/-- Numbers as cells. -/
def uvs (l : List Nat) : List Value := l.map (fun (n : Nat) => Value.int .u64 (n : Int))
def ivs (l : List Int) : List Value := l.map (fun (n : Int) => Value.int .i64 n)
theorem uvs_at (l : List Nat) (k : Nat) (h : k < l.length) : (uvs l)[k]? = some (.int .u64 (l[k] : Int)) := by simp [uvs, h]
theorem ivs_at (l : List Int) (k : Nat) (h : k < l.length) : (ivs l)[k]? = some (.int .i64 l[k]) := by simp [ivs, h]

/-- Too many or too long: nothing is said. -/
def rowsFar (us : List Nat) (ns : List Int) (ts : List (List UInt8)) : Prop := 20 < us.length ∨ 20 < ns.length ∨ few ts 20 40 = false

set_option maxRecDepth 100000 in
set_option maxHeartbeats 1000000 in
theorem vintRows_far (us : List Nat) (ns : List Int) (ts : List (List UInt8)) (vu vn vt : Value) (w : World) (hu : Rd w 1 vu us.length (uvs us)) (hn : Rd w 1 vn ns.length (ivs ns)) (ht : RdT w vt ts) (hfar : rowsFar us ns ts) :
    Calls Tryd.prog 11 #[vu, vn, vt] w (fun e w' => e = .returned (.bool true) ∧ Below w.heap.size w w') := by
  obtain ⟨a1, c1, rfl⟩ := hu.slice
  obtain ⟨a2, c2, rfl⟩ := hn.slice
  obtain ⟨a3, c3, rfl⟩ := ht.slice
  have m1 := hu.len_le
  have m2 := hn.len_le
  have m3 := ht.len_le
  by_cases t1 : 20 < us.length
  · clear hfar
    go_enter Tryd.func11, Tryd.ntmps11
    go_wp2_with fail
    refine (vintFirst_calls _).mono ?_
    rintro e w1 ⟨rfl, b1⟩
    go_wp2_with fail
    go_ret
    exact ⟨rfl, b1⟩
  · by_cases t2 : 20 < ns.length
    · clear hfar
      go_enter Tryd.func11, Tryd.ntmps11
      go_wp2_with fail
      refine (vintFirst_calls _).mono ?_
      rintro e w1 ⟨rfl, b1⟩
      go_wp2_with fail
      go_ret
      exact ⟨rfl, b1⟩
    · have hf : few ts 20 40 = false := by exact (hfar.resolve_left t1).resolve_left t2
      have HF := Lib.hid hf
      clear hfar hf
      go_enter Tryd.func11, Tryd.ntmps11
      go_wp2_with fail
      refine (vintFirst_calls _).mono ?_
      rintro e w1 ⟨rfl, b1⟩
      go_wp2_with fail
      refine (worldBytes_calls _ ts 20 40 _ (ht.below b1)).mono ?_
      rintro e w2 ⟨rfl, rfl⟩
      rw [HF.out]
      go_wp2_with fail
      go_ret
      exact ⟨rfl, b1⟩

set_option maxRecDepth 100000 in
set_option maxHeartbeats 4000000 in
theorem vintRows_near (S : List Nat) (A : Nat → Addr) (us : List Nat) (ns : List Int) (ts : List (List UInt8)) (vu vn vt : Value) (w : World) (hS : Sents S w A) (hall : All S) (hu : Rd w 1 vu us.length (uvs us)) (hn : Rd w 1 vn ns.length (ivs ns)) (ht : RdT w vt ts)
    (ku : ∀ u ∈ us, U64 u) (kn : ∀ n ∈ ns, I64 n) (t1 : us.length ≤ 20) (t2 : ns.length ≤ 20) (hf : few ts 20 40 = true) :
    Calls Tryd.prog 11 #[vu, vn, vt] w (fun e w' => e = .returned (.bool true) ∧ Below w.heap.size w w') := by
  obtain ⟨i0, hi, hz0, hz1, hz2⟩ := info_parts info_u8
  obtain ⟨a1, c1, rfl⟩ := hu.slice
  obtain ⟨a2, c2, rfl⟩ := hn.slice
  obtain ⟨a3, c3, rfl⟩ := ht.slice
  have m1 := hu.len_le
  have m2 := hn.len_le
  have m3 := ht.len_le
  have hf2 : ts.length ≤ 20 ∧ ∀ t ∈ ts, t.length ≤ 40 := by
    unfold few at hf
    rw [decide_eq_true_eq] at hf
    exact ⟨by omega, fun t h => by have := hf.2 t h; omega⟩
  obtain ⟨t3, k3⟩ := hf2
  have HF := Lib.hid hf
  have K3 := Lib.hid k3
  have KU := Lib.hid ku
  have KN := Lib.hid kn
  clear hf k3 ku kn
  go_enter Tryd.func11, Tryd.ntmps11
  go_wp2_with fail
  refine (vintFirst_calls _).mono ?_
  rintro e w1 ⟨rfl, b1⟩
  go_wp2_with fail
  refine (worldBytes_calls _ ts 20 40 _ (ht.below b1)).mono ?_
  rintro e w2 ⟨rfl, rfl⟩
  rw [HF.out]
  go_upto_block 0 with fail
  go_cut [8, 9] (fun v8 _ wx => wx.ownsRow w.heap.size 5 1 v8 (numsB us).length (bvs (numsB us)) ∧ Below w.heap.size w wx)
  case first =>
    go_wp2_with fail
    go_loopw [8, 9] (fun v8 iv wr => ∃ i : Nat, i ≤ us.length ∧ iv = .int .i64 i ∧ wr.ownsRow w.heap.size 5 1 v8 (numsB (us.take i)).length (bvs (numsB (us.take i))) ∧ Below w.heap.size w wr) (fun _ iv _ => us.length - (intOf iv).toNat)
    case atStart => exact ⟨0, Nat.zero_le _, rfl, World.ownsRow_nil _ _ _ _, b1⟩
    case round =>
      obtain ⟨i, hi', rfl, hr, hb⟩ := hrel
      by_cases hlt : i < us.length
      · obtain ⟨b, o, rfl, hc1, hm1, hx1⟩ := (hu.below hb).at (by omega)
        have f1 := hx1 i _ (uvs_at us i hlt)
        have hui := KU.out us[i] (List.getElem_mem _)
        have hnext : numsB (us.take (i + 1)) = numsB (us.take i) ++ putL us[i] := flat_take_succ putL us i hlt
        have hlen := numsB_len (us.take i) (fun u h => KU.out u (List.mem_of_mem_take h))
        rw [List.length_take] at hlen
        have HX := Lib.hid hnext
        clear hx1 hnext
        generalize us[i] = x at *
        go_wp2_with fail
        refine (put_calls _ _ (numsB (us.take i)) x _ (Rd.of_owns hr) (by omega) hui).mono ?_
        rintro e w3 ⟨v3, rfl, o3, b3⟩
        go_wp2_with fail
        exact ⟨⟨i + 1, by omega, by go_num, by rw [HX.out, List.length_append]; exact owns_base o3 hb.size, nxt hb b3⟩, by simp [intOf]; omega⟩
      · have hii : us.take i = us := List.take_of_length_le (by omega)
        rw [hii] at hr
        clear hii
        go_wp2_with fail
        go_meet
        exact ⟨hr, hb⟩
  case rest =>
    obtain ⟨r8, B3⟩ := hcut
    have l1 := numsB_len us (fun u h => KU.out u h)
    clear b1
    go_upto_block 2 with fail
    go_cut [8, 10] (fun v8 _ wx => wx.ownsRow w.heap.size 5 1 v8 (numsB us ++ intsB ns).length (bvs (numsB us ++ intsB ns)) ∧ Below w.heap.size w wx)
    case first =>
      go_wp2_with fail
      go_loopw [8, 10] (fun v8 iv wr => ∃ i : Nat, i ≤ ns.length ∧ iv = .int .i64 i ∧ wr.ownsRow w.heap.size 5 1 v8 (numsB us ++ intsB (ns.take i)).length (bvs (numsB us ++ intsB (ns.take i))) ∧ Below w.heap.size w wr) (fun _ iv _ => ns.length - (intOf iv).toNat)
      case atStart => exact ⟨0, Nat.zero_le _, rfl, by simpa [intsB] using r8, B3⟩
      case round =>
        obtain ⟨i, hi', rfl, hr, hb⟩ := hrel
        by_cases hlt : i < ns.length
        · obtain ⟨b, o, rfl, hc1, hm1, hx1⟩ := (hn.below hb).at (by omega)
          have f1 := hx1 i _ (ivs_at ns i hlt)
          have hui := KN.out ns[i] (List.getElem_mem _)
          have hnext : numsB us ++ intsB (ns.take (i + 1)) = (numsB us ++ intsB (ns.take i)) ++ putL (fold ns[i]) := by
            unfold intsB; rw [flat_take_succ (fun n => putL (fold n)) ns i hlt, List.append_assoc]
          have hlen := intsB_len (ns.take i) (fun u h => KN.out u (List.mem_of_mem_take h))
          rw [List.length_take] at hlen
          have hlen2 : (numsB us ++ intsB (ns.take i)).length ≤ 1000 := by rw [List.length_append]; omega
          have HX := Lib.hid hnext
          clear hx1 hnext
          generalize ns[i] = x at *
          go_wp2_with fail
          refine (putInt_calls _ _ (numsB us ++ intsB (ns.take i)) x _ (Rd.of_owns hr) (by omega) hui).mono ?_
          rintro e w3 ⟨v3, rfl, o3, b3⟩
          go_wp2_with fail
          exact ⟨⟨i + 1, by omega, by go_num, by rw [HX.out, List.length_append]; exact owns_base o3 hb.size, nxt hb b3⟩, by simp [intOf]; omega⟩
        · have hii : ns.take i = ns := List.take_of_length_le (by omega)
          rw [hii] at hr
          clear hii
          go_wp2_with fail
          go_meet
          exact ⟨hr, hb⟩
    case rest =>
      obtain ⟨r9, B4⟩ := hcut
      have l2 := intsB_len ns (fun u h => KN.out u h)
      clear r8 B3
      go_upto_block 4 with fail
      go_cut [8, 11] (fun v8 _ wx => wx.ownsRow w.heap.size 5 1 v8 (numsB us ++ intsB ns ++ textsB ts).length (bvs (numsB us ++ intsB ns ++ textsB ts)) ∧ Below w.heap.size w wx)
      case first =>
        go_wp2_with fail
        go_loopw [8, 11] (fun v8 iv wr => ∃ i : Nat, i ≤ ts.length ∧ iv = .int .i64 i ∧ wr.ownsRow w.heap.size 5 1 v8 (numsB us ++ intsB ns ++ textsB (ts.take i)).length (bvs (numsB us ++ intsB ns ++ textsB (ts.take i))) ∧ Below w.heap.size w wr) (fun _ iv _ => ts.length - (intOf iv).toNat)
        case atStart => exact ⟨0, Nat.zero_le _, rfl, by simpa [textsB] using r9, B4⟩
        case round =>
          obtain ⟨i, hi', rfl, hr, hb⟩ := hrel
          by_cases hlt : i < ts.length
          · obtain ⟨b, o, rfl, hc1, ai, ci, f1, rt⟩ := (ht.below hb).at i hlt
            have hui := K3.out ts[i] (List.getElem_mem _)
            have hu64 : U64 ts[i].length := by unfold U64; omega
            have hl10 := putL_len10 ts[i].length hu64
            have hnext : numsB us ++ intsB ns ++ textsB (ts.take (i + 1)) = (numsB us ++ intsB ns ++ textsB (ts.take i)) ++ putL ts[i].length ++ ts[i] := by
              unfold textsB; rw [flat_take_succ textB ts i hlt]; simp [textB]
            have hlen := textsB_len (ts.take i) (fun u h => K3.out u (List.mem_of_mem_take h))
            rw [List.length_take] at hlen
            have hlen2 : (numsB us ++ intsB ns ++ textsB (ts.take i)).length ≤ 2000 := by rw [List.length_append, List.length_append]; omega
            have HX := Lib.hid hnext
            obtain ⟨acc, hacc⟩ : ∃ acc, acc = numsB us ++ intsB ns ++ textsB (ts.take i) := ⟨_, rfl⟩
            rw [← hacc] at HX hr hlen2
            have f1d : wr.drew.cell? ⟨b, o + i, none⟩ = some (.slice ai ts[i].length ci) := f1
            have hbelow : ∀ W : World, Below wr.heap.size wr W → W.cell? ⟨b, o + i, none⟩ = some (.slice ai ts[i].length ci) := fun W hW => by
              rw [hW.cell (World.block_lt_of_cell? _ _ f1)]; exact f1
            clear hacc hnext f1 hlen
            generalize ts[i] = x at *
            obtain ⟨a8, c8, rfl⟩ := owns_slice hr
            have hwl : IntKind.u64.wrap (x.length : Int) = (x.length : Int) := by rw [IntKind.wrap_u64]; omega
            go_wp2_with fail
            go_region_held3 (fun w' => w'.cell? ⟨b, o + i, none⟩ = some (.slice ai x.length ci)) (first | (with_reducible exact f1d) | assumption)
              (first
                | (go_at_call 13; (with_reducible refine (put_calls _ _ acc x.length _ ((Rd.of_owns hr).below ((Below.refl _ _).drew)) (by omega) hu64).mono ?_); rintro e w5 ⟨v5, rfl, o5, b5⟩; have b45 : Below wr.heap.size wr w5 := nxt (w := wr) (w1 := wr.drew) ((Below.refl _ _).drew) b5; (obtain ⟨a5, c5, rfl⟩ := owns_slice o5); have s5 := hbelow w5 b45)
                | (refine wp_append_rd (.tmp 74) (.tmp 78) 23 rfl wr.heap.size 5 i0 (.int .u8 0) 1 1 Tryd.underlying23 hi hz0 hz1 hz2 rfl (by decide) _ _ (bvs (acc ++ putL x.length)) rfl o5 _ x.length (bvs x) rfl (rt.below b45) (bvs_one _) (by unfold maxLen; omega) (by omega) b45.size ?_; intro v6 w6 o6 Tr; have b46 := Tr wr b45 (Nat.le_refl _); have s6 := hbelow w6 b46))
            go_wp2_with fail
            exact ⟨⟨i + 1, by omega, by go_num, by rw [HX.out, List.length_append, List.length_append, bvs_append]; exact owns_base o6 hb.size, nxt hb b46⟩, by simp [intOf]; omega⟩
          · have hii : ts.take i = ts := List.take_of_length_le (by omega)
            rw [hii] at hr
            clear hii
            go_wp2_with fail
            go_meet
            exact ⟨hr, hb⟩
      case rest =>
        obtain ⟨r10, B5⟩ := hcut
        have l3 := textsB_len ts (fun t h => K3.out t h)
        have hl3 : (numsB us ++ intsB ns ++ textsB ts).length ≤ 2000 := by rw [List.length_append, List.length_append]; omega
        obtain ⟨al, hal⟩ : ∃ al, al = numsB us ++ (intsB ns ++ (textsB ts ++ [1, 2, 3])) := ⟨_, rfl⟩
        have hal2 : al = (numsB us ++ intsB ns ++ textsB ts) ++ [1, 2, 3] := by rw [hal]; simp
        have hlal : al.length = (numsB us ++ intsB ns ++ textsB ts).length + 3 := by rw [hal2, List.length_append]; rfl
        have hnr := nums_read us (fun u h => KU.out u h) (intsB ns ++ (textsB ts ++ [1, 2, 3]))
        have hir := ints_read ns (fun n h => KN.out n h) (numsB us) (textsB ts ++ [1, 2, 3])
        have htr := texts_read ts (fun t h => K3.out t h) (numsB us ++ intsB ns) [1, 2, 3]
        rw [show numsB us ++ intsB ns ++ (textsB ts ++ [1, 2, 3]) = al by rw [hal]; simp] at htr
        rw [← hal] at hnr hir
        obtain ⟨pq, hpq⟩ : ∃ pq, pq = numsB us ++ intsB ns ++ textsB ts := ⟨_, rfl⟩
        rw [← hpq] at r10 hal2 hlal hl3
        have HPQ := Lib.hid hpq
        have HNR := Lib.hid hnr
        have HIR := Lib.hid hir
        have HTR := Lib.hid htr
        have HA2 := Lib.hid hal2
        have HLA := Lib.hid hlal
        have hab : al.length ≤ 2003 := by omega
        clear hal hal2 hlal hnr hir htr r9 B4 hpq
        go_wp2_with (at_builtin; (refine wpList_append_rd rfl _ _ 23 rfl w.heap.size 5 i0 (.int .u8 0) 1 1 Tryd.underlying23 hi hz0 hz1 hz2 rfl (by decide) _ pq.length (bvs pq) rfl (r10.alloc _) _ _ _ rfl (Rd.new wc _ _ 1 3 (by rfl) (by decide)) ?c2 ?c3 ?c4 ?c5 ?_))
        case c2 => first | rfl | (simp [Value.oneCell'])
        case c3 => unfold maxLen; omega
        case c4 => omega
        case c5 => have := B5.size; simp; omega
        intro v8 w8 o8 Tr
        have B8 : Below w.heap.size w w8 := Tr w (bAlloc B5 _) (Nat.le_refl _)
        have r8 : Rd w8 1 v8 al.length (bvs al) := by
          rw [HLA.out, HA2.out, bvs_append, show bvs [1, 2, 3] = [Value.int .u8 1, Value.int .u8 2, Value.int .u8 3] from rfl]; exact Rd.of_owns o8
        clear Tr o8 r10 B5
        obtain ⟨a8, c8, rfl⟩ := r8.slice
        go_wp2_with fail
        refine (newReader_calls A _ al _ r8 (by omega)).mono ?_
        rintro e w9 ⟨g, rfl, hg, rr, b9⟩
        have B9 := nxt B8 b9
        have hgw : w.heap.size ≤ g := Nat.le_trans B8.size hg
        have haw : Away S A g := Away.of_new hS hgw
        clear r8 b9 B8
        go_upto_block 6 with fail
        go_cut [13] (fun _ wx => Rdr A wx g ⟨al, (numsB us).length, .fine⟩ ∧ Below w.heap.size w wx)
        case first =>
          go_wp2_with fail
          go_loopw [13] (fun iv wr => ∃ i : Nat, i ≤ us.length ∧ iv = .int .i64 i ∧ Rdr A wr g ⟨al, (numsB (us.take i)).length, .fine⟩ ∧ Below w.heap.size w wr) (fun iv _ => us.length - (intOf iv).toNat)
          case atStart => exact ⟨0, Nat.zero_le _, rfl, rr, B9⟩
          case round =>
            obtain ⟨i, hi', rfl, hr, hb⟩ := hrel
            by_cases hlt : i < us.length
            · obtain ⟨b, o, rfl, hc1, hm1, hx1⟩ := (hu.below hb).at (by omega)
              have f1 := hx1 i _ (uvs_at us i hlt)
              have hc := num_calls ((hS.below hb).drew1) hall haw (hr.below ((Below.refl _ _).drew)) 18446744073709551615
              rw [HNR.out i hlt 18446744073709551615 (fun u h => by have := (KU.out u h).lt; omega), show ((18446744073709551615 : Nat) : Int) = 18446744073709551615 from rfl] at hc
              simp only at hc
              have hne : ∀ q : Int, (q != q) = false := fun q => by simp
              have f1d : wr.drew.cell? ⟨b, o + i, none⟩ = some (.int .u64 (us[i] : Int)) := f1
              have hub : b < w.heap.size := by
                have h1 := (hu.at (by omega))
                obtain ⟨b', o', e', _, _, hx'⟩ := h1
                simp only [Option.some.injEq, Addr.mk.injEq] at e'
                rw [e'.1]
                exact World.block_lt_of_cell? w _ (hx' i _ (uvs_at us i hlt))
              clear hx1
              generalize us[i] = x at *
              go_wp2_with fail
              go_region_held3 (fun w' => w'.cell? ⟨b, o + i, none⟩ = some (.int .u64 (x : Int))) (first | (with_reducible exact f1d) | assumption)
                (first
                  | (go_at_call 42; (refine hc.mono ?_); rintro e w5 ⟨rfl, r5, t5⟩; have b5 := t5.new (w' := w5) (hb.drew) hgw; have s5 : w5.cell? ⟨b, o + i, none⟩ = some (.int .u64 (x : Int)) := (by rw [World.cell?_of_block (t5.block (World.block_lt_of_cell? _ _ f1d) (by show b ≠ g; omega))]; exact f1d)))
              go_wp2_with fail
              exact ⟨⟨i + 1, by omega, by go_num, r5, b5⟩, by simp [intOf]; omega⟩
            · have hii : us.take i = us := List.take_of_length_le (by omega)
              rw [hii] at hr
              clear hii
              go_wp2_with fail
              go_meet
              exact ⟨hr, hb⟩
        case rest =>
          obtain ⟨rr2, B10⟩ := hcut
          clear rr B9
          go_upto_block 8 with fail
          go_cut [14] (fun _ wx => Rdr A wx g ⟨al, (numsB us ++ intsB ns).length, .fine⟩ ∧ Below w.heap.size w wx)
          case first =>
            go_wp2_with fail
            go_loopw [14] (fun iv wr => ∃ i : Nat, i ≤ ns.length ∧ iv = .int .i64 i ∧ Rdr A wr g ⟨al, (numsB us ++ intsB (ns.take i)).length, .fine⟩ ∧ Below w.heap.size w wr) (fun iv _ => ns.length - (intOf iv).toNat)
            case atStart => exact ⟨0, Nat.zero_le _, rfl, by simpa [intsB] using rr2, B10⟩
            case round =>
              obtain ⟨i, hi', rfl, hr, hb⟩ := hrel
              by_cases hlt : i < ns.length
              · obtain ⟨b, o, rfl, hc1, hm1, hx1⟩ := hn.at (by omega)
                have f0 := hx1 i _ (ivs_at ns i hlt)
                have hub := World.block_lt_of_cell? w _ f0
                have f1d : wr.drew.cell? ⟨b, o + i, none⟩ = some (.int .i64 ns[i]) := by
                  show wr.cell? ⟨b, o + i, none⟩ = _
                  rw [hb.cell hub]; exact f0
                have hc := int_calls ((hS.below hb).drew1) hall haw (hr.below ((Below.refl _ _).drew)) (-9223372036854775808) 9223372036854775807
                rw [HIR.out i hlt] at hc
                simp only at hc
                have hne : ∀ q : Int, (q != q) = false := fun q => by simp
                clear hx1 f0
                generalize ns[i] = x at *
                go_wp2_with fail
                go_region_held3 (fun w' => w'.cell? ⟨b, o + i, none⟩ = some (.int .i64 x)) (first | (with_reducible exact f1d) | assumption)
                  (first
                    | (go_at_call 43; (refine hc.mono ?_); rintro e w5 ⟨rfl, r5, t5⟩; have b5 := t5.new (w' := w5) (hb.drew) hgw; have s5 : w5.cell? ⟨b, o + i, none⟩ = some (.int .i64 x) := (by rw [World.cell?_of_block (t5.block (World.block_lt_of_cell? _ _ f1d) (by show b ≠ g; have : b < w.heap.size := hub; omega))]; exact f1d)))
                go_wp2_with fail
                exact ⟨⟨i + 1, by omega, by go_num, r5, b5⟩, by simp [intOf]; omega⟩
              · have hii : ns.take i = ns := List.take_of_length_le (by omega)
                rw [hii] at hr
                clear hii
                go_wp2_with fail
                go_meet
                exact ⟨hr, hb⟩
          case rest =>
            obtain ⟨rr3, B11⟩ := hcut
            clear rr2 B10
            go_upto_block 10 with fail
            go_cut [15] (fun _ wx => Rdr A wx g ⟨al, pq.length, .fine⟩ ∧ Below w.heap.size w wx)
            case first =>
              go_wp2_with fail
              go_loopw [15] (fun iv wr => ∃ i : Nat, i ≤ ts.length ∧ iv = .int .i64 i ∧ Rdr A wr g ⟨al, (numsB us ++ intsB ns ++ textsB (ts.take i)).length, .fine⟩ ∧ Below w.heap.size w wr) (fun iv _ => ts.length - (intOf iv).toNat)
              case atStart => exact ⟨0, Nat.zero_le _, rfl, by simpa [textsB] using rr3, B11⟩
              case round =>
                obtain ⟨i, hi', rfl, hr, hb⟩ := hrel
                by_cases hlt : i < ts.length
                · obtain ⟨b, o, rfl, hc1, ai, ci, f0, rt⟩ := ht.at i hlt
                  have hub := World.block_lt_of_cell? w _ f0
                  have f1d : wr.drew.cell? ⟨b, o + i, none⟩ = some (.slice ai ts[i].length ci) := by
                    show wr.cell? ⟨b, o + i, none⟩ = _
                    rw [hb.cell hub]; exact f0
                  have hc := bytes_calls ((hS.below hb).drew1) hall haw (hr.below ((Below.refl _ _).drew)) ((40 : Nat) : Int) (by omega)
                  unfold BytesPost at hc
                  rw [HTR.out i hlt, show ((40 : Nat) : Int) = 40 from rfl] at hc
                  simp only at hc
                  have hbb : ∀ q : List UInt8, (q == q) = true := fun q => by simp
                  clear f0
                  generalize ts[i] = x at *
                  go_wp2_with fail
                  go_region_held3 (fun w' => w'.cell? ⟨b, o + i, none⟩ = some (.slice ai x.length ci)) (first | (with_reducible exact f1d) | assumption)
                    (first
                      | (go_at_call 35; (refine hc.mono ?_); rintro e w5 ⟨v5, rfl, o5, r5, t5⟩; have b5 := t5.new (w' := w5) (hb.drew) hgw; have s5 : w5.cell? ⟨b, o + i, none⟩ = some (.slice ai x.length ci) := (by rw [World.cell?_of_block (t5.block (World.block_lt_of_cell? _ _ f1d) (by show b ≠ g; have : b < w.heap.size := hub; omega))]; exact f1d); (obtain ⟨a5, c5, rfl⟩ := owns_slice o5))
                      | (go_at_call 22; refine (sameBytes_calls _ _ x x _ (Rd.of_owns o5) (rt.below b5)).mono ?_; rintro e w7 ⟨rfl, q7, rfl⟩; have s7 : (w5.drewN q7).cell? ⟨b, o + i, none⟩ = some (.slice ai x.length ci) := s5))
                  go_wp2_with fail
                  exact ⟨⟨i + 1, by omega, by go_num, r5.drewN q7, below_drewN b5 q7⟩, by simp [intOf]; omega⟩
                · have hii : ts.take i = ts := List.take_of_length_le (by omega)
                  rw [hii, ← HPQ.out] at hr
                  clear hii
                  go_wp2_with fail
                  go_meet
                  exact ⟨hr, hb⟩
            case rest =>
              obtain ⟨rr4, B12⟩ := hcut
              clear rr3 B11
              have hl3' : (⟨al, pq.length, .fine⟩ : Rs).left = [1, 2, 3] := by unfold Rs.left; rw [HA2.out]; simp
              have hx3 : fixed 3 ⟨al, pq.length, .fine⟩ = (197121, ⟨al, al.length, .fine⟩) := by
                rw [fixed_yes (n := 3) (s := ⟨al, pq.length, .fine⟩) rfl 3 rfl (by omega) (by rw [hl3']; simp), hl3']
                unfold Rs.on; rw [HLA.out]; rfl
              have hl0 : (⟨al, al.length, .fine⟩ : Rs).left.length = 0 := by rw [left_length]; simp
              have hx1 : fixed 1 ⟨al, al.length, .fine⟩ = (0, ⟨al, al.length, .bare 0⟩) := by
                rw [fixed_short (n := 1) (s := ⟨al, al.length, .fine⟩) rfl 1 rfl (by omega) (by rw [hl0]; omega)]
                rfl
              have hx9 : num 9 ⟨al, al.length, .bare 0⟩ = (0, ⟨al, al.length, .bare 0⟩) := by unfold num; rw [if_pos (by simp)]
              have H3 := Lib.hid hl3'
              have X3 := Lib.hid hx3
              have X0 := Lib.hid hl0
              have X1 := Lib.hid hx1
              have X9 := Lib.hid hx9
              clear hl3' hx3 hl0 hx1 hx9
              go_wp2_with fail
              refine (left_calls rr4).mono ?_
              rintro e w13 ⟨rfl, q13, rfl⟩
              rw [H3.out]
              go_wp2_with fail
              refine (fixed_calls ((hS.below B12).drewN q13) hall haw (rr4.drewN q13) 3).mono ?_
              unfold FixedPost
              rw [X3.out]
              rintro e w14 ⟨rfl, r14, t14⟩
              have B14 := t14.new (below_drewN B12 q13) hgw
              go_wp2_with fail
              refine (left_calls r14).mono ?_
              rintro e w15 ⟨rfl, q15, rfl⟩
              rw [X0.out]
              go_wp2_with fail
              refine (readerErr_calls (r14.drewN q15)).mono ?_
              rintro e w16 ⟨v16, rfl, er, rfl⟩
              obtain rfl := er
              go_wp2_with fail
              refine (readerAt_calls (r14.drewN q15)).mono ?_
              rintro e w17 ⟨rfl, rfl⟩
              have hne : ∀ q : Int, (q != q) = false := fun q => by simp
              go_wp2_with fail
              refine (fixed_calls ((hS.below B14).drewN q15) hall haw (r14.drewN q15) 1).mono ?_
              unfold FixedPost
              rw [X1.out]
              rintro e w18 ⟨rfl, r18, t18⟩
              have B18 := t18.new (below_drewN B14 q15) hgw
              go_wp2_with fail
              refine (readerErr_calls r18).mono ?_
              rintro e w19 ⟨v19, rfl, er, rfl⟩
              go_wp2_with fail
              refine (is_calls (hS.below B18) hall _ (.bare 0) er.at 101).mono ?_
              rintro e w20 ⟨rfl, b20⟩
              have B20 := nxt B18 b20
              rw [show decide ((Er.bare 0).code = 101 ∧ (Er.bare 0).has = false ∧ (Er.bare 0).pos = 0) = true by decide]
              go_wp2_with fail
              have hc9 := num_calls (hS.below B20) hall haw (r18.below b20) 9
              rw [X9.out, show ((9 : Nat) : Int) = 9 from rfl] at hc9
              refine hc9.mono ?_
              rintro e w21 ⟨rfl, r21, t21⟩
              go_wp2_with fail
              refine (readerAt_calls r21).mono ?_
              rintro e w22 ⟨rfl, rfl⟩
              go_wp2_with fail
              go_ret
              exact ⟨by simp, t21.new B20 hgw⟩

theorem vintRows_walk (S : List Nat) (A : Nat → Addr) (us : List Nat) (ns : List Int) (ts : List (List UInt8)) (vu vn vt : Value) (w : World) (hS : Sents S w A) (hall : All S) (hu : Rd w 1 vu us.length (uvs us)) (hn : Rd w 1 vn ns.length (ivs ns)) (ht : RdT w vt ts)
    (ku : ∀ u ∈ us, U64 u) (kn : ∀ n ∈ ns, I64 n) :
    Calls Tryd.prog 11 #[vu, vn, vt] w (fun e w' => e = .returned (.bool true) ∧ Below w.heap.size w w') := by
  by_cases hfar : rowsFar us ns ts
  · exact vintRows_far us ns ts vu vn vt w hu hn ht hfar
  · have h1 : ¬ 20 < us.length := fun e => hfar (.inl e)
    have h2 : ¬ 20 < ns.length := fun e => hfar (.inr (.inl e))
    have h3 : few ts 20 40 = true := by
      cases hf : few ts 20 40 with
      | true => rfl
      | false => exact absurd (.inr (.inr hf)) hfar
    exact vintRows_near S A us ns ts vu vn vt w hS hall hu hn ht ku kn (by omega) (by omega) h3
end Go.Proofs.YtlgbdibfpboleaaDoor
