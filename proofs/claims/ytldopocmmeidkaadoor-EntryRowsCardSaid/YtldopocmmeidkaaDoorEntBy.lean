/- entry.little: so many bytes of a number, behind a row of one's own. Merged of: EntLittle, EntBytes, EntBytesOk. -/
import Derived.Test.YtldopocmmeidkaaDoorAppend
import Derived.Test.YtldopocmmeidkaaDoorPlain
import Derived.Test.YtldopocmmeidkaaDoorRefFixed
import Derived.Test.YtldopocmmeidkaaDoorManBy
import Derived.Deep.DeepCutAuto

/-! entry.little: so many bytes of a number, behind a row of one's own. -/
namespace Go.Proofs.YtldopocmmeidkaaDoor
open Go Go.RowKit Vint

set_option maxRecDepth 100000 in
set_option maxHeartbeats 1000000 in
theorem entLittle_calls {w0 w : World} (n k0 : Nat) {v : Value} {m : Nat} {l : List UInt8} (hb0 : Below w0.heap.size w0 w) (ho : w.ownsRow w0.heap.size 5 1 v m (bvs l)) (hm : m ≤ 1000000) (hk0 : k0 ≤ 8) :
    Calls Tryd.prog 38 #[v, .int .u64 (n : Int), .int .i64 (k0 : Int)] w (fun e w' => ∃ v', e = .returned v' ∧ w'.ownsRow w0.heap.size 5 1 v' (m + k0) (bvs (l ++ lit n k0)) ∧ Below w0.heap.size w0 w') := by
  obtain ⟨i0, hi, hz0, hz1, hz2⟩ := info_parts info_u8
  obtain ⟨a, c, rfl⟩ := owns_slice ho
  go_enter Tryd.func38, Tryd.ntmps38
  go_wp2_with fail
  go_loopw [0, 7, 9] (fun ov _ iv wr => ∃ k : Nat, k ≤ k0 ∧ iv = .int .i64 k ∧ wr.ownsRow w0.heap.size 5 1 ov (m + k) (bvs (l ++ lit n k)) ∧ Below w0.heap.size w0 wr) (fun _ _ iv _ => k0 - (intOf iv).toNat)
  case atStart => exact ⟨0, Nat.zero_le _, rfl, by simpa [lit] using ho, hb0⟩
  case round =>
    obtain ⟨k, hk, rfl, hown, hb⟩ := hrel
    obtain ⟨a', c', rfl⟩ := owns_slice hown
    by_cases hlt : k < k0
    · go_wp2_with (at_builtin; (refine wpList_append_rd rfl _ _ 30 rfl w0.heap.size 5 i0 (.int .u8 0) 1 1 Tryd.underlying30 hi hz0 hz1 hz2 rfl (by decide) _ (m + k) (bvs (l ++ lit n k)) rfl (hown.alloc _) _ _ _ rfl (Rd.new wr _ _ 1 1 (by rfl) (by decide)) ?c2 ?c3 ?c4 ?c5 ?_))
      case c2 => first | rfl | (simp [Value.oneCell'])
      case c3 => unfold maxLen; omega
      case c4 => omega
      case c5 => have := hb.size; simp; omega
      intro v' w' hown' Tr
      have e1 : (n : Int) / 2 ^ (8 * k) % 256 = ((UInt8.ofNat (n / 256 ^ k)).toNat : Int) := by
        rw [UInt8.toNat_ofNat', show (256 : Nat) ^ k = 2 ^ (8 * k) by rw [Nat.pow_mul]]
        push_cast
        rfl
      rw [e1, show bvs (l ++ lit n k) ++ [Value.int .u8 ((UInt8.ofNat (n / 256 ^ k)).toNat : Int)] = bvs (l ++ lit n (k + 1)) by rw [lit_snoc]; simp [bvs, bv]] at hown'
      have hb' : Below w0.heap.size w0 w' := Tr w0 (bAlloc hb _) (Nat.le_refl _)
      clear Tr
      go_wp2_with fail
      exact ⟨⟨k + 1, by omega, by go_num, by rw [← Nat.add_assoc]; exact hown', hb'⟩, by simp [intOf]; omega⟩
    · obtain rfl : k = k0 := by omega
      go_wp2_with fail
      go_ret
      exact ⟨_, rfl, hown, hb⟩
end Go.Proofs.YtldopocmmeidkaaDoor

/-! entry.Bytes: an entry as bytes, or why it has none. -/
namespace Go.Proofs.YtldopocmmeidkaaDoor
open Go Go.RowKit Man Vint Crc

theorem known_calls (k : Int) (w : World) : Calls Tryd.prog 37 #[.int .i64 k] w (fun e w' => e = .returned (.bool (decide (1 ≤ k ∧ k ≤ 4))) ∧ w' = w) := by
  by_cases h1 : 1 ≤ k
  · by_cases h2 : k ≤ 4
    · rw [decide_eq_true ⟨h1, h2⟩]
      go_enter Tryd.func37, Tryd.ntmps37
      go_wp2_with fail
      go_ret
      exact ⟨rfl, rfl⟩
    · rw [decide_eq_false (fun h => h2 h.2)]
      have h2' : decide (k ≤ 4) = false := decide_eq_false h2
      clear h2
      go_enter Tryd.func37, Tryd.ntmps37
      go_wp2_with fail
      go_ret
      exact ⟨rfl, rfl⟩
  · rw [decide_eq_false (fun h => h1 h.1)]
    have h1' : decide (1 ≤ k) = false := decide_eq_false h1
    clear h1
    go_enter Tryd.func37, Tryd.ntmps37
    go_wp2_with fail
    go_ret
    exact ⟨rfl, rfl⟩

def entA (k : Int) (m : ManD) (ve vo : Value) : Value := .agg #[.int .i64 k, .int .i64 m.id, .int .i64 m.base, .int .i64 m.fin, .int .i64 m.time, ve, vo]
def EBytesPost (A : Nat → Addr) (seq k : Int) (m : ManD) (w : World) (e : Ending) (w' : World) : Prop :=
  ((seq < 0 ∧ e = .returned (.tuple #[.slice none 0 0, senV A 4])) ∨ (0 ≤ seq ∧ ¬(1 ≤ k ∧ k ≤ 4) ∧ e = .returned (.tuple #[.slice none 0 0, senV A 11])) ∨
   (0 ≤ seq ∧ 1 ≤ k ∧ k ≤ 4 ∧ ((∃ t u, e = .returned (.tuple #[.slice none 0 0, .iface t u])) ∨
     ∃ v, e = .returned (.tuple #[v, .nilIface]) ∧ w'.ownsRow w.heap.size 5 1 v (entB seq k m).length (bvs (entB seq k m)) ∧ (mbody m).length ≤ 10000))) ∧ Below w.heap.size w w'

theorem owns_up4 {w : World} {e sz n base : Nat} {v : Value} {xs : List Value} (h : w.ownsRow 0 e sz v n xs) (hb : ∀ k, v.ownBlock = some k → base ≤ k) : w.ownsRow base e sz v n xs := by
  refine ⟨h.1, ?_⟩
  rcases h.2 with h1 | ⟨g, cap, cur, rfl, _, h2⟩
  · exact .inl h1
  · exact .inr ⟨g, cap, cur, rfl, hb g rfl, h2⟩

theorem little_nil (x k0 : Nat) (hk0 : k0 ≤ 8) (W : World) : Calls Tryd.prog 38 #[.slice none 0 0, .int .u64 (x : Int), .int .i64 (k0 : Int)] W (fun e w' => ∃ v', e = .returned v' ∧ w'.ownsRow W.heap.size 5 1 v' k0 (bvs (lit x k0)) ∧ Below W.heap.size W w') := by
  have h := entLittle_calls (w0 := W) x k0 (Below.refl _ _) (World.ownsRow_nil W W.heap.size 5 1) (l := []) (by omega) hk0
  rw [List.nil_append, Nat.zero_add] at h
  exact h

set_option maxRecDepth 100000 in
set_option maxHeartbeats 4000000 in
theorem entBytes_calls (S : List Nat) (A : Nat → Addr) {w : World} {seq k : Int} {m : ManD} {ve vo : Value} (hS : Sents S w A) (h2 : 2 ∈ S) (h3 : 3 ∈ S) (h4 : 4 ∈ S) (h5 : 5 ∈ S) (h11 : 11 ∈ S) (h : ManRd w m ve vo) (hs : Small m) (hk : Man.Ok m) :
    Calls Tryd.prog 11 #[.int .i64 seq, entA k m ve vo] w (EBytesPost A seq k m w) := by
  obtain ⟨i0, hi0, hz0, hz1, hz2⟩ := info_parts info_u8
  have hmb := fun W (hB : Below w.heap.size w W) => maniBytes_calls S A (hS.below hB) h2 h3 h4 h5 (h.below hB) hs hk
  unfold manA at hmb
  unfold entA
  obtain ⟨re, ro⟩ := h
  obtain ⟨ae, ce, rfl⟩ := re.slice
  obtain ⟨ao, co, rfl⟩ := ro.slice
  clear hs hk re ro
  have HEN := Lib.hid (show entB seq k m = lit (sealed (lit (u64 seq) 8 ++ (UInt8.ofNat k.toNat :: sealed (mbody m)))).length 4 ++ sealed (lit (u64 seq) 8 ++ (UInt8.ofNat k.toNat :: sealed (mbody m))) from rfl)
  have u1 := u64_wrap seq
  generalize u64 seq = x at *
  obtain ⟨id, ba, fi, ti, eps, objs⟩ := m
  simp only at hmb HEN ⊢
  have b1 := below_alloc w (.cells #[.int .i64 k, .int .i64 id, .int .i64 ba, .int .i64 fi, .int .i64 ti, .slice ae eps.length ce, .slice ao objs.length co] 27)
  have row1 := heap_alloc_new w (.cells #[.int .i64 k, .int .i64 id, .int .i64 ba, .int .i64 fi, .int .i64 ti, .slice ae eps.length ce, .slice ao objs.length co] 27)
  have k4 := (hS.below b1).cell 4 h4
  have k11 := (hS.below b1).cell 11 h11
  unfold senV at k4 k11
  go_enter Tryd.func11, Tryd.ntmps11
  go_upto_region 1 with fail
  obtain ⟨w1, hw1⟩ : ∃ w1, w1 = w.alloc (.cells #[.int .i64 k, .int .i64 id, .int .i64 ba, .int .i64 fi, .int .i64 ti, .slice ae eps.length ce, .slice ao objs.length co] 27) := ⟨_, rfl⟩
  obtain ⟨g, hg⟩ : ∃ g, g = w.heap.size := ⟨_, rfl⟩
  rw [← hw1] at b1 row1 k4 k11 ⊢
  rw [← hg] at row1 ⊢
  clear hw1 hg
  have k4' : w1.cell? ⟨0, 0, none⟩ = some (.iface 180 (.pointer (some (A 4)))) := k4
  have k11' : w1.cell? ⟨1, 0, none⟩ = some (.iface 180 (.pointer (some (A 11)))) := k11
  have d0 : w1.cell? ⟨g, 0, none⟩ = some (.int .i64 k) := cell_of_row _ _ 0 _ _ _ row1
  have d1 : w1.cell? ⟨g, 1, none⟩ = some (.int .i64 id) := cell_of_row _ _ 1 _ _ _ row1
  have d2 : w1.cell? ⟨g, 2, none⟩ = some (.int .i64 ba) := cell_of_row _ _ 2 _ _ _ row1
  have d3 : w1.cell? ⟨g, 3, none⟩ = some (.int .i64 fi) := cell_of_row _ _ 3 _ _ _ row1
  have d4 : w1.cell? ⟨g, 4, none⟩ = some (.int .i64 ti) := cell_of_row _ _ 4 _ _ _ row1
  have d5 : w1.cell? ⟨g, 5, none⟩ = some (.slice ae eps.length ce) := cell_of_row _ _ 5 _ _ _ row1
  have d6 : w1.cell? ⟨g, 6, none⟩ = some (.slice ao objs.length co) := cell_of_row _ _ 6 _ _ _ row1
  clear k4 k11
  by_cases e1 : seq < 0
  · go_wp2_with fail
    go_quiet (fail)
    go_wp2_with fail
    go_ret2
    unfold EBytesPost
    exact ⟨.inl ⟨e1, rfl⟩, below_drewN b1 _⟩
  · have hkn := known_calls k w1
    by_cases e2 : 1 ≤ k ∧ k ≤ 4
    · rw [decide_eq_true e2] at hkn
      obtain ⟨kn, rfl⟩ : ∃ kn : Nat, k = (kn : Int) := ⟨k.toNat, by omega⟩
      have hmb1 := hmb w1 b1
      have E1 := Lib.hid e1
      have E2 := Lib.hid e2
      go_wp2_with fail
      with_reducible refine hkn.mono ?_
      rintro e w2 ⟨rfl, rfl⟩
      go_wp2_with fail
      with_reducible refine hmb1.mono ?_
      rintro e w3 ⟨⟨v3, rfl, o3, hml⟩ | ⟨t, u, rfl⟩, b3⟩
      · have B3 := nxt b1 b3
        have row3 := heap_below b3 row1
        have D : ∀ W, Below w3.heap.size w3 W → W.cell? ⟨g, 0, none⟩ = some (.int .i64 (kn : Int)) := fun W hB => cell_of_row _ _ 0 _ _ _ (heap_below hB row3)
        have D0 := D w3 (Below.refl _ _)
        have D0' := D w3.drew (Below.refl _ _).drew
        have D0a := fun O => D (w3.drew.alloc O) (bAlloc (Below.refl _ _).drew O)
        have hkn4 := e2.2
        have ku : IntKind.u8.wrap (kn : Int) = (kn : Int) := by rw [IntKind.wrap_u8]; omega
        obtain ⟨MB, hMB⟩ : ∃ MB, MB = mbody ⟨id, ba, fi, ti, eps, objs⟩ := ⟨_, rfl⟩
        rw [← hMB] at o3 hml HEN
        have HMB := Lib.hid hMB
        have hl8 : ∀ W, Calls Tryd.prog 38 #[.slice none 0 0, .int .u64 (x : Int), .int .i64 8] W (fun e w' => ∃ v', e = .returned v' ∧ w'.ownsRow W.heap.size 5 1 v' 8 (bvs (lit x 8)) ∧ Below W.heap.size W w') := fun W => little_nil x 8 (by decide) W
        obtain ⟨a3, c3, rfl⟩ := owns_slice o3
        clear hMB d0 d1 d2 d3 d4 d5 d6 row1 row3 hmb hmb1 k4' k11' hkn e1 e2
        go_upto_region 8 with fail
        go_cut [8] (fun z wx => wx.ownsRow w3.heap.size 5 1 z 9 (bvs (lit x 8) ++ [.int .u8 (kn : Int)]) ∧ Below w3.heap.size w3 wx)
        case first =>
          go_region_law (first
            | (refine step_append_where rfl (.tmp 28) (.tmp 32) 30 rfl 5 i0 _ 1 1 Tryd.underlying30 hi0 hz0 hz1 hz2 rfl (by decide) _ 8 (bvs (lit x 8)) rfl (oz.alloc _) ⟨w4.heap.size, 0, none⟩ 1 1 [.int .u8 (kn : Int)] rfl (by rfl) (cells_new w4 #[.int .u8 (kn : Int)] 5) (by simp [Value.oneCell']) (by unfold maxLen; omega) (by omega) ?_; intro v9 w9 o9 g9 wh9)
            | (refine step_append_where rfl (.tmp 28) (.tmp 32) 30 rfl 5 i0 _ 1 1 Tryd.underlying30 hi0 hz0 hz1 hz2 rfl (by decide) _ 8 (bvs (lit x 8)) rfl oz ⟨w3.heap.size, 0, none⟩ 1 1 [.int .u8 (kn : Int)] rfl (by rfl) (fun j u hu => (b4.cell (World.block_lt_of_cell? _ _ (cells_new w3.drew #[.int .u8 (kn : Int)] 5 j u hu))).trans (cells_new w3.drew #[.int .u8 (kn : Int)] 5 j u hu)) (by simp [Value.oneCell']) (by unfold maxLen; omega) (by omega) ?_; intro v9 w9 o9 g9 wh9)
            | (go_simp; go_at_call 38; (with_reducible refine (hl8 _).mono ?_); (rintro e w4 ⟨v4, rfl, o4, b4⟩); (obtain ⟨a4, c4, rfl⟩ := owns_slice o4); have bX : Below w3.heap.size w3 w4 := nxt (by (repeat (first | exact Below.refl _ _ | refine bAlloc ?_ _ | refine Below.drew ?_))) b4; have e0 := D w4 bX; have oz := owns_zero o4))
          all_goals
            have hge4 : ∀ k, (Value.slice a4 8 c4).ownBlock = some k → w3.heap.size ≤ k := fun k hk => by
              have h1 := owns_ge o4 k hk
              first | exact h1 | (refine Nat.le_trans ?_ h1; exact (bAlloc (Below.refl w3.heap.size w3) _).size)
            have b9 : Below w3.heap.size w3 w9 := by
              first
                | exact (bAlloc bX _).grown g9 (bAlloc bX _).size (fun k hk => hge4 k hk)
                | exact bX.grown g9 bX.size (fun k hk => hge4 k hk)
            have hk9 : ∀ k, v9.ownBlock = some k → w3.heap.size ≤ k := fun k hk => by
              rcases wh9 k hk with h | h
              · exact hge4 k h
              · first
                  | exact Nat.le_trans bX.size h
                  | exact Nat.le_trans (bAlloc bX _).size h
            have o9u := owns_up4 o9 hk9
            clear hge4 wh9 g9 o9 hk9
            go_wp2_with fail
            go_meet
            exact ⟨o9u, b9⟩
        case rest =>
          obtain ⟨o5, b5⟩ := hcut
          have r3 := Rd.of_owns (owns_below o3 b5)
          obtain ⟨E, hE⟩ : ∃ E, E = lit x 8 ++ (UInt8.ofNat kn :: sealed MB) := ⟨_, rfl⟩
          have hEl : E.length = 9 + (sealed MB).length := by rw [hE, List.length_append, List.length_cons, lit_length]; omega
          have hEb : bvs E = (bvs (lit x 8) ++ [.int .u8 (kn : Int)]) ++ bvs (sealed MB) := by
            rw [hE, bvs_append]
            have hku : bv (UInt8.ofNat kn) = .int .u8 (kn : Int) := by
              unfold bv
              rw [show (UInt8.ofNat kn).toNat = kn by rw [UInt8.toNat_ofNat']; omega]
            simp only [bvs, List.map_cons, List.append_assoc, hku, List.cons_append, List.nil_append]
          have hsl : (sealed MB).length ≤ 10010 := by
            have : (sealed MB).length = MB.length + 4 := by simp [sealed, le4]
            omega
          have HE := Lib.hid hE
          obtain ⟨n3, hn3⟩ : ∃ n3, n3 = (sealed MB).length := ⟨_, rfl⟩
          rw [← hn3] at r3 hEl hsl ⊢
          have HN3 := Lib.hid hn3
          have HEL := Lib.hid hEl
          have HEB := Lib.hid hEb
          have hb5 := b5.size
          clear hE hn3 hEl hEb o3 D D0 D0' D0a hl8
          obtain ⟨a5, c5, rfl⟩ := owns_slice o5
          go_wp2_with (at_builtin; refine wpList_append_rd rfl _ _ 30 rfl w3.heap.size 5 i0 (.int .u8 0) 1 1 Tryd.underlying30 hi0 hz0 hz1 hz2 rfl (by decide) _ 9 _ rfl o5 _ _ (bvs (sealed MB)) rfl r3 (bvs_one _) ?c3 ?c4 ?c5 ?_)
          case c3 => unfold maxLen; omega
          case c4 => omega
          case c5 => exact hb5
          intro v7 w7 o7 Tr
          have b7 : Below w3.heap.size w3 w7 := Tr w3 b5 (Nat.le_refl _)
          clear Tr
          have o7' : w7.ownsRow w3.heap.size 5 1 v7 E.length (bvs E) := by rw [HEL.out, HEB.out]; exact o7
          have hEn : E.length ≤ 10020 := by rw [HEL.out]; omega
          obtain ⟨SE, hSE⟩ : ∃ SE, SE = sealed E := ⟨_, rfl⟩
          have hp := seal_calls v7 E w7 (Rd.of_owns o7') (by omega)
          have hSl : SE.length ≤ 10030 := by
            have : SE.length = E.length + 4 := by rw [hSE]; simp [sealed, le4]
            omega
          rw [← hSE] at hp
          have HSE := Lib.hid hSE
          obtain ⟨a7, c7, rfl⟩ := owns_slice o7
          clear hSE o7 HEL HEB r3 o5
          go_wp2_with fail
          with_reducible refine hp.mono ?_
          rintro e w8 ⟨v8, rfl, o8, b8⟩
          have B8 := nxt b7 b8
          have hl4 : ∀ W, Calls Tryd.prog 38 #[.slice none 0 0, .int .u64 (SE.length : Int), .int .i64 4] W (fun e w' => ∃ v', e = .returned v' ∧ w'.ownsRow W.heap.size 5 1 v' 4 (bvs (lit SE.length 4)) ∧ Below W.heap.size W w') := fun W => little_nil SE.length 4 (by decide) W
          have hl4' := hl4 w8
          obtain ⟨a8, c8, rfl⟩ := owns_slice o8
          clear hp hl4
          obtain ⟨n8, hn8⟩ : ∃ n8, n8 = SE.length := ⟨_, rfl⟩
          rw [← hn8] at hSl hl4' o8 ⊢
          have HN8 := Lib.hid hn8
          have ul : IntKind.u64.wrap (n8 : Int) = (n8 : Int) := by rw [IntKind.wrap_u64]; omega
          clear hn8
          go_wp2_with fail
          with_reducible refine hl4'.mono ?_
          rintro e w9 ⟨v9, rfl, o9, b9⟩
          have r8 := Rd.of_owns (owns_below o8 b9)
          have hb9 := b9.size
          have B9 := nxt B3 (nxt B8 b9)
          obtain ⟨a9, c9, rfl⟩ := owns_slice o9
          clear hl4' o8
          go_wp2_with (at_builtin; refine wpList_append_rd rfl _ _ 30 rfl w8.heap.size 5 i0 (.int .u8 0) 1 1 Tryd.underlying30 hi0 hz0 hz1 hz2 rfl (by decide) _ 4 _ rfl o9 _ _ (bvs SE) rfl r8 (bvs_one _) ?c3 ?c4 ?c5 ?_)
          case c3 => unfold maxLen; omega
          case c4 => omega
          case c5 => exact hb9
          intro v10 w10 o10 Tr
          have b10 : Below w8.heap.size w8 w10 := Tr w8 b9 (Nat.le_refl _)
          clear Tr
          have B10 := nxt B3 (nxt B8 b10)
          go_wp2_with fail
          go_ret2
          unfold EBytesPost
          refine ⟨.inr (.inr ⟨by have := E1.out; omega, by have := E2.out; omega, by omega, .inr ⟨v10, rfl, ?_, ?_⟩⟩), B10⟩
          · rw [HEN.out, Int.toNat_natCast, ← HE.out, ← HSE.out, List.length_append, lit_length, bvs_append, ← HN8.out]
            exact owns_base o10 (nxt B3 B8).size
          · rw [← HMB.out]; exact hml
      · go_wp2_with fail
        go_ret2
        unfold EBytesPost
        exact ⟨.inr (.inr ⟨by omega, by omega, by omega, .inl ⟨_, _, rfl⟩⟩), nxt b1 b3⟩
    · rw [decide_eq_false e2] at hkn
      have e1' : decide (seq < 0) = false := decide_eq_false e1
      go_wp2_with fail
      with_reducible refine hkn.mono ?_
      rintro e w2 ⟨rfl, rfl⟩
      go_wp2_with fail
      go_quiet (fail)
      go_wp2_with fail
      go_ret2
      unfold EBytesPost
      exact ⟨.inr (.inl ⟨by omega, e2, rfl⟩), below_drewN b1 _⟩
end Go.Proofs.YtldopocmmeidkaaDoor

/-! entry.Bytes: an entry as bytes, or which error, exact. -/
namespace Go.Proofs.YtldopocmmeidkaaDoor
open Go Go.RowKit Man Vint Crc

def EBytesIs (A : Nat → Addr) (seq k : Int) (m : ManD) (w : World) (e : Ending) (w' : World) : Prop :=
  ((seq < 0 ∧ e = .returned (.tuple #[.slice none 0 0, senV A 4])) ∨ (0 ≤ seq ∧ ¬(1 ≤ k ∧ k ≤ 4) ∧ e = .returned (.tuple #[.slice none 0 0, senV A 11])) ∨
   (0 ≤ seq ∧ 1 ≤ k ∧ k ≤ 4 ∧ ((¬ manOk m ∧ ∃ t u er, e = .returned (.tuple #[.slice none 0 0, .iface t u]) ∧ MBad m er ∧ ErRow A w' (.iface t u) er) ∨
     (manOk m ∧ ∃ v, e = .returned (.tuple #[v, .nilIface]) ∧ w'.ownsRow w.heap.size 5 1 v (entB seq k m).length (bvs (entB seq k m)) ∧ (mbody m).length ≤ 10000)))) ∧ Below w.heap.size w w'

set_option maxRecDepth 100000 in
set_option maxHeartbeats 4000000 in
theorem entBytes_is (S : List Nat) (A : Nat → Addr) {w : World} {seq k : Int} {m : ManD} {ve vo : Value} (hS : Sents S w A) (h2 : 2 ∈ S) (h3 : 3 ∈ S) (h4 : 4 ∈ S) (h5 : 5 ∈ S) (h11 : 11 ∈ S) (h : ManRd w m ve vo) (hs : Small m) (hk : Man.Ok m) :
    Calls Tryd.prog 11 #[.int .i64 seq, entA k m ve vo] w (EBytesIs A seq k m w) := by
  obtain ⟨i0, hi0, hz0, hz1, hz2⟩ := info_parts info_u8
  have hmb := fun W (hB : Below w.heap.size w W) => maniBytes_is S A (hS.below hB) h2 h3 h4 h5 (h.below hB) hs hk
  unfold manA at hmb
  unfold entA
  obtain ⟨re, ro⟩ := h
  obtain ⟨ae, ce, rfl⟩ := re.slice
  obtain ⟨ao, co, rfl⟩ := ro.slice
  clear hs hk re ro
  have HEN := Lib.hid (show entB seq k m = lit (sealed (lit (u64 seq) 8 ++ (UInt8.ofNat k.toNat :: sealed (mbody m)))).length 4 ++ sealed (lit (u64 seq) 8 ++ (UInt8.ofNat k.toNat :: sealed (mbody m))) from rfl)
  have u1 := u64_wrap seq
  generalize u64 seq = x at *
  obtain ⟨id, ba, fi, ti, eps, objs⟩ := m
  simp only at hmb HEN ⊢
  have b1 := below_alloc w (.cells #[.int .i64 k, .int .i64 id, .int .i64 ba, .int .i64 fi, .int .i64 ti, .slice ae eps.length ce, .slice ao objs.length co] 27)
  have row1 := heap_alloc_new w (.cells #[.int .i64 k, .int .i64 id, .int .i64 ba, .int .i64 fi, .int .i64 ti, .slice ae eps.length ce, .slice ao objs.length co] 27)
  have k4 := (hS.below b1).cell 4 h4
  have k11 := (hS.below b1).cell 11 h11
  unfold senV at k4 k11
  go_enter Tryd.func11, Tryd.ntmps11
  go_upto_region 1 with fail
  obtain ⟨w1, hw1⟩ : ∃ w1, w1 = w.alloc (.cells #[.int .i64 k, .int .i64 id, .int .i64 ba, .int .i64 fi, .int .i64 ti, .slice ae eps.length ce, .slice ao objs.length co] 27) := ⟨_, rfl⟩
  obtain ⟨g, hg⟩ : ∃ g, g = w.heap.size := ⟨_, rfl⟩
  rw [← hw1] at b1 row1 k4 k11 ⊢
  rw [← hg] at row1 ⊢
  clear hw1 hg
  have k4' : w1.cell? ⟨0, 0, none⟩ = some (.iface 180 (.pointer (some (A 4)))) := k4
  have k11' : w1.cell? ⟨1, 0, none⟩ = some (.iface 180 (.pointer (some (A 11)))) := k11
  have d0 : w1.cell? ⟨g, 0, none⟩ = some (.int .i64 k) := cell_of_row _ _ 0 _ _ _ row1
  have d1 : w1.cell? ⟨g, 1, none⟩ = some (.int .i64 id) := cell_of_row _ _ 1 _ _ _ row1
  have d2 : w1.cell? ⟨g, 2, none⟩ = some (.int .i64 ba) := cell_of_row _ _ 2 _ _ _ row1
  have d3 : w1.cell? ⟨g, 3, none⟩ = some (.int .i64 fi) := cell_of_row _ _ 3 _ _ _ row1
  have d4 : w1.cell? ⟨g, 4, none⟩ = some (.int .i64 ti) := cell_of_row _ _ 4 _ _ _ row1
  have d5 : w1.cell? ⟨g, 5, none⟩ = some (.slice ae eps.length ce) := cell_of_row _ _ 5 _ _ _ row1
  have d6 : w1.cell? ⟨g, 6, none⟩ = some (.slice ao objs.length co) := cell_of_row _ _ 6 _ _ _ row1
  clear k4 k11
  by_cases e1 : seq < 0
  · go_wp2_with fail
    go_quiet (fail)
    go_wp2_with fail
    go_ret2
    unfold EBytesIs
    exact ⟨.inl ⟨e1, rfl⟩, below_drewN b1 _⟩
  · have hkn := known_calls k w1
    by_cases e2 : 1 ≤ k ∧ k ≤ 4
    · rw [decide_eq_true e2] at hkn
      obtain ⟨kn, rfl⟩ : ∃ kn : Nat, k = (kn : Int) := ⟨k.toNat, by omega⟩
      have hmb1 := hmb w1 b1
      have E1 := Lib.hid e1
      have E2 := Lib.hid e2
      go_wp2_with fail
      with_reducible refine hkn.mono ?_
      rintro e w2 ⟨rfl, rfl⟩
      go_wp2_with fail
      with_reducible refine hmb1.mono ?_
      rintro e w3 ⟨⟨hmk, v3, rfl, o3, hml⟩ | ⟨hmk, t, u, er, rfl, hmb2, her2⟩, b3⟩
      · have HMK := Lib.hid hmk
        clear hmk
        have B3 := nxt b1 b3
        have row3 := heap_below b3 row1
        have D : ∀ W, Below w3.heap.size w3 W → W.cell? ⟨g, 0, none⟩ = some (.int .i64 (kn : Int)) := fun W hB => cell_of_row _ _ 0 _ _ _ (heap_below hB row3)
        have D0 := D w3 (Below.refl _ _)
        have D0' := D w3.drew (Below.refl _ _).drew
        have D0a := fun O => D (w3.drew.alloc O) (bAlloc (Below.refl _ _).drew O)
        have hkn4 := e2.2
        have ku : IntKind.u8.wrap (kn : Int) = (kn : Int) := by rw [IntKind.wrap_u8]; omega
        obtain ⟨MB, hMB⟩ : ∃ MB, MB = mbody ⟨id, ba, fi, ti, eps, objs⟩ := ⟨_, rfl⟩
        rw [← hMB] at o3 hml HEN
        have HMB := Lib.hid hMB
        have hl8 : ∀ W, Calls Tryd.prog 38 #[.slice none 0 0, .int .u64 (x : Int), .int .i64 8] W (fun e w' => ∃ v', e = .returned v' ∧ w'.ownsRow W.heap.size 5 1 v' 8 (bvs (lit x 8)) ∧ Below W.heap.size W w') := fun W => little_nil x 8 (by decide) W
        obtain ⟨a3, c3, rfl⟩ := owns_slice o3
        clear hMB d0 d1 d2 d3 d4 d5 d6 row1 row3 hmb hmb1 k4' k11' hkn e1 e2
        go_upto_region 8 with fail
        go_cut [8] (fun z wx => wx.ownsRow w3.heap.size 5 1 z 9 (bvs (lit x 8) ++ [.int .u8 (kn : Int)]) ∧ Below w3.heap.size w3 wx)
        case first =>
          go_region_law (first
            | (refine step_append_where rfl (.tmp 28) (.tmp 32) 30 rfl 5 i0 _ 1 1 Tryd.underlying30 hi0 hz0 hz1 hz2 rfl (by decide) _ 8 (bvs (lit x 8)) rfl (oz.alloc _) ⟨w4.heap.size, 0, none⟩ 1 1 [.int .u8 (kn : Int)] rfl (by rfl) (cells_new w4 #[.int .u8 (kn : Int)] 5) (by simp [Value.oneCell']) (by unfold maxLen; omega) (by omega) ?_; intro v9 w9 o9 g9 wh9)
            | (refine step_append_where rfl (.tmp 28) (.tmp 32) 30 rfl 5 i0 _ 1 1 Tryd.underlying30 hi0 hz0 hz1 hz2 rfl (by decide) _ 8 (bvs (lit x 8)) rfl oz ⟨w3.heap.size, 0, none⟩ 1 1 [.int .u8 (kn : Int)] rfl (by rfl) (fun j u hu => (b4.cell (World.block_lt_of_cell? _ _ (cells_new w3.drew #[.int .u8 (kn : Int)] 5 j u hu))).trans (cells_new w3.drew #[.int .u8 (kn : Int)] 5 j u hu)) (by simp [Value.oneCell']) (by unfold maxLen; omega) (by omega) ?_; intro v9 w9 o9 g9 wh9)
            | (go_simp; go_at_call 38; (with_reducible refine (hl8 _).mono ?_); (rintro e w4 ⟨v4, rfl, o4, b4⟩); (obtain ⟨a4, c4, rfl⟩ := owns_slice o4); have bX : Below w3.heap.size w3 w4 := nxt (by (repeat (first | exact Below.refl _ _ | refine bAlloc ?_ _ | refine Below.drew ?_))) b4; have e0 := D w4 bX; have oz := owns_zero o4))
          all_goals
            have hge4 : ∀ k, (Value.slice a4 8 c4).ownBlock = some k → w3.heap.size ≤ k := fun k hk => by
              have h1 := owns_ge o4 k hk
              first | exact h1 | (refine Nat.le_trans ?_ h1; exact (bAlloc (Below.refl w3.heap.size w3) _).size)
            have b9 : Below w3.heap.size w3 w9 := by
              first
                | exact (bAlloc bX _).grown g9 (bAlloc bX _).size (fun k hk => hge4 k hk)
                | exact bX.grown g9 bX.size (fun k hk => hge4 k hk)
            have hk9 : ∀ k, v9.ownBlock = some k → w3.heap.size ≤ k := fun k hk => by
              rcases wh9 k hk with h | h
              · exact hge4 k h
              · first
                  | exact Nat.le_trans bX.size h
                  | exact Nat.le_trans (bAlloc bX _).size h
            have o9u := owns_up4 o9 hk9
            clear hge4 wh9 g9 o9 hk9
            go_wp2_with fail
            go_meet
            exact ⟨o9u, b9⟩
        case rest =>
          obtain ⟨o5, b5⟩ := hcut
          have r3 := Rd.of_owns (owns_below o3 b5)
          obtain ⟨E, hE⟩ : ∃ E, E = lit x 8 ++ (UInt8.ofNat kn :: sealed MB) := ⟨_, rfl⟩
          have hEl : E.length = 9 + (sealed MB).length := by rw [hE, List.length_append, List.length_cons, lit_length]; omega
          have hEb : bvs E = (bvs (lit x 8) ++ [.int .u8 (kn : Int)]) ++ bvs (sealed MB) := by
            rw [hE, bvs_append]
            have hku : bv (UInt8.ofNat kn) = .int .u8 (kn : Int) := by
              unfold bv
              rw [show (UInt8.ofNat kn).toNat = kn by rw [UInt8.toNat_ofNat']; omega]
            simp only [bvs, List.map_cons, List.append_assoc, hku, List.cons_append, List.nil_append]
          have hsl : (sealed MB).length ≤ 10010 := by
            have : (sealed MB).length = MB.length + 4 := by simp [sealed, le4]
            omega
          have HE := Lib.hid hE
          obtain ⟨n3, hn3⟩ : ∃ n3, n3 = (sealed MB).length := ⟨_, rfl⟩
          rw [← hn3] at r3 hEl hsl ⊢
          have HN3 := Lib.hid hn3
          have HEL := Lib.hid hEl
          have HEB := Lib.hid hEb
          have hb5 := b5.size
          clear hE hn3 hEl hEb o3 D D0 D0' D0a hl8
          obtain ⟨a5, c5, rfl⟩ := owns_slice o5
          go_wp2_with (at_builtin; refine wpList_append_rd rfl _ _ 30 rfl w3.heap.size 5 i0 (.int .u8 0) 1 1 Tryd.underlying30 hi0 hz0 hz1 hz2 rfl (by decide) _ 9 _ rfl o5 _ _ (bvs (sealed MB)) rfl r3 (bvs_one _) ?c3 ?c4 ?c5 ?_)
          case c3 => unfold maxLen; omega
          case c4 => omega
          case c5 => exact hb5
          intro v7 w7 o7 Tr
          have b7 : Below w3.heap.size w3 w7 := Tr w3 b5 (Nat.le_refl _)
          clear Tr
          have o7' : w7.ownsRow w3.heap.size 5 1 v7 E.length (bvs E) := by rw [HEL.out, HEB.out]; exact o7
          have hEn : E.length ≤ 10020 := by rw [HEL.out]; omega
          obtain ⟨SE, hSE⟩ : ∃ SE, SE = sealed E := ⟨_, rfl⟩
          have hp := seal_calls v7 E w7 (Rd.of_owns o7') (by omega)
          have hSl : SE.length ≤ 10030 := by
            have : SE.length = E.length + 4 := by rw [hSE]; simp [sealed, le4]
            omega
          rw [← hSE] at hp
          have HSE := Lib.hid hSE
          obtain ⟨a7, c7, rfl⟩ := owns_slice o7
          clear hSE o7 HEL HEB r3 o5
          go_wp2_with fail
          with_reducible refine hp.mono ?_
          rintro e w8 ⟨v8, rfl, o8, b8⟩
          have B8 := nxt b7 b8
          have hl4 : ∀ W, Calls Tryd.prog 38 #[.slice none 0 0, .int .u64 (SE.length : Int), .int .i64 4] W (fun e w' => ∃ v', e = .returned v' ∧ w'.ownsRow W.heap.size 5 1 v' 4 (bvs (lit SE.length 4)) ∧ Below W.heap.size W w') := fun W => little_nil SE.length 4 (by decide) W
          have hl4' := hl4 w8
          obtain ⟨a8, c8, rfl⟩ := owns_slice o8
          clear hp hl4
          obtain ⟨n8, hn8⟩ : ∃ n8, n8 = SE.length := ⟨_, rfl⟩
          rw [← hn8] at hSl hl4' o8 ⊢
          have HN8 := Lib.hid hn8
          have ul : IntKind.u64.wrap (n8 : Int) = (n8 : Int) := by rw [IntKind.wrap_u64]; omega
          clear hn8
          go_wp2_with fail
          with_reducible refine hl4'.mono ?_
          rintro e w9 ⟨v9, rfl, o9, b9⟩
          have r8 := Rd.of_owns (owns_below o8 b9)
          have hb9 := b9.size
          have B9 := nxt B3 (nxt B8 b9)
          obtain ⟨a9, c9, rfl⟩ := owns_slice o9
          clear hl4' o8
          go_wp2_with (at_builtin; refine wpList_append_rd rfl _ _ 30 rfl w8.heap.size 5 i0 (.int .u8 0) 1 1 Tryd.underlying30 hi0 hz0 hz1 hz2 rfl (by decide) _ 4 _ rfl o9 _ _ (bvs SE) rfl r8 (bvs_one _) ?c3 ?c4 ?c5 ?_)
          case c3 => unfold maxLen; omega
          case c4 => omega
          case c5 => exact hb9
          intro v10 w10 o10 Tr
          have b10 : Below w8.heap.size w8 w10 := Tr w8 b9 (Nat.le_refl _)
          clear Tr
          have B10 := nxt B3 (nxt B8 b10)
          go_wp2_with fail
          go_ret2
          unfold EBytesIs
          refine ⟨.inr (.inr ⟨by have := E1.out; omega, by have := E2.out; omega, by omega, .inr ⟨HMK.out, v10, rfl, ?_, ?_⟩⟩), B10⟩
          · rw [HEN.out, Int.toNat_natCast, ← HE.out, ← HSE.out, List.length_append, lit_length, bvs_append, ← HN8.out]
            exact owns_base o10 (nxt B3 B8).size
          · rw [← HMB.out]; exact hml
      · have HMK := Lib.hid hmk
        have HMB := Lib.hid hmb2
        have HER := Lib.hid her2
        clear hmk hmb2 her2
        go_wp2_with fail
        go_ret2
        unfold EBytesIs
        exact ⟨.inr (.inr ⟨by omega, by omega, by omega, .inl ⟨HMK.out, _, _, er, rfl, HMB.out, HER.out⟩⟩), nxt b1 b3⟩
    · rw [decide_eq_false e2] at hkn
      have e1' : decide (seq < 0) = false := decide_eq_false e1
      go_wp2_with fail
      with_reducible refine hkn.mono ?_
      rintro e w2 ⟨rfl, rfl⟩
      go_wp2_with fail
      go_quiet (fail)
      go_wp2_with fail
      go_ret2
      unfold EBytesIs
      exact ⟨.inr (.inl ⟨by omega, e2, rfl⟩), below_drewN b1 _⟩
end Go.Proofs.YtldopocmmeidkaaDoor
