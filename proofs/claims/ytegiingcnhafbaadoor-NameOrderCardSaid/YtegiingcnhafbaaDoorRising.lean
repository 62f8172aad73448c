/- The document's Rising: texts, rising, each once. -/
import Derived.Test.YtegiingcnhafbaaDoorBefore
import Derived.Test.YtegiingcnhafbaaDoorTxtMath
import Derived.Test.YtegiingcnhafbaaDoorStrApp
import Derived.Test.YtegiingcnhafbaaDoorNameVal
import Derived.Sort.EncStr
import Derived.Deep.CutBlock
import Derived.Deep.DeepCutAuto
namespace Go.Proofs.YtegiingcnhafbaaDoor
open Go Go.RowKit

/-- Where it belongs it is laid, if it is not there. -/
theorem rise_put {r : List (List UInt8)} {x : List UInt8} {k : Nat} (h : Rise r) (hk : k ≤ r.length) (h1 : ∀ j (hj : j < r.length), j < k → r[j] < x) (h2 : ∀ hk : k < r.length, x < r[k]) :
    Rise (r.take k ++ [x] ++ r.drop k) ∧ ∀ y, y ∈ r.take k ++ [x] ++ r.drop k ↔ y ∈ r ∨ y = x := by
  have hp := List.pairwise_iff_getElem.1 h
  constructor
  · unfold Rise
    rw [List.append_assoc, List.pairwise_append]
    refine ⟨List.Pairwise.sublist (List.take_sublist _ _) h, ?_, fun a ha b hb => ?_⟩
    · rw [List.singleton_append, List.pairwise_cons]
      refine ⟨fun b hb => ?_, List.Pairwise.sublist (List.drop_sublist _ _) h⟩
      obtain ⟨j, hj, rfl⟩ := List.mem_iff_getElem.1 hb
      rw [List.length_drop] at hj
      rw [List.getElem_drop]
      rcases Nat.eq_zero_or_pos j with e | e
      · subst e; exact h2 (by omega)
      · exact List.lt_trans (h2 (by omega)) (hp k (k + j) (by omega) (by omega) (by omega))
    · obtain ⟨i, hi, rfl⟩ := List.mem_iff_getElem.1 ha
      rw [List.length_take] at hi
      rw [List.getElem_take]
      have hx := h1 i (by omega) (by omega)
      rw [List.singleton_append] at hb
      rcases List.mem_cons.1 hb with e | hb
      · rw [e]; exact hx
      · obtain ⟨j, hj, rfl⟩ := List.mem_iff_getElem.1 hb
        rw [List.length_drop] at hj
        rw [List.getElem_drop]
        exact hp i (k + j) (by omega) (by omega) (by omega)
  · intro y
    rw [List.mem_append, List.mem_append, List.mem_singleton]
    constructor
    · rintro ((h | h) | h)
      · exact .inl (List.mem_of_mem_take h)
      · exact .inr h
      · exact .inl (List.mem_of_mem_drop h)
    · rintro (h | h)
      · rw [← List.take_append_drop k r] at h
        rcases List.mem_append.1 h with h | h
        · exact .inl (.inl h)
        · exact .inr h
      · exact .inl (.inr h)

theorem sl_str : Tryd.prog.underlying 34 = some (.slice (Tryd.prog.elem 34)) := by kernel_rfl
theorem sz_str : (Tryd.prog.info? (Tryd.prog.elem 34)).map (·.size) = some 1 := by kernel_rfl
theorem info_str2 : (Tryd.prog.info? 9).map (fun i => (i.zero, i.size, i.bytes)) = some (some (.string ⟨#[]⟩), 1, 16) := by kernel_rfl
theorem enc1 (ts : List (List UInt8)) : ∀ u ∈ ts.map encStr, u.oneCell' = true := by
  intro u hu
  obtain ⟨t, -, rfl⟩ := List.mem_map.1 hu
  rfl
theorem Rd.upto1 {w : World} {sz n c : Nat} {a : Option Addr} {xs : List Value} (h : Rd w sz (.slice a n c) n xs) (m : Nat) (hm : m ≤ n) : Rd w sz (.slice a m c) m (xs.take (m * sz)) := by
  obtain ⟨a', c', e, r⟩ := part_all a n c sz 0 m (Nat.zero_le _) hm
  have e2 : sliced a 0 m c sz = .slice a m c := by
    unfold sliced
    cases a with
    | none => simp
    | some ad => simp [Addr.add]
  have := r w xs h
  rw [← e, e2, Nat.sub_zero, Nat.zero_mul, List.drop_zero] at this
  exact this
theorem run_rest1 {P : Program} (t : TypeId) (ht : P.underlying t = some (.slice (P.elem t))) (sz : Nat) (hsz : (P.info? (P.elem t)).map (·.size) = some sz) (ad : Option Addr) (n c l : Nat) (k : IntKind) (hl : l ≤ n) :
    ∃ a' c', (∀ W, (Instr.sliceAt t (.slice ad n c) (some (.int k (l : Int))) none none).run P W = .ok (.slice a' (n - l) c') W) ∧
      ∀ w0 xs, Rd w0 sz (.slice ad n c) n xs → Rd w0 sz (.slice a' (n - l) c') (n - l) (xs.drop (l * sz)) := by
  obtain ⟨a', c', e, r⟩ := part_all ad n c sz l n hl (Nat.le_refl _)
  refine ⟨a', c', fun W => ?_, fun w0 xs h => ?_⟩
  · rw [run_cut_l t ht sz hsz ad n c l k hl W, e]
  · have := r w0 xs h
    rwa [List.take_of_length_le (by rw [List.length_drop, h.1, ← Nat.sub_mul]; exact Nat.le_refl _)] at this

set_option maxRecDepth 100000 in
set_option maxHeartbeats 4000000 in
theorem rising_calls (v : Value) (ts : List (List UInt8)) (w : World) (h : Rd w 1 v ts.length (ts.map encStr)) (hn : ts.length ≤ 1000) (hsz : ∀ t ∈ ts, t.length ≤ 1000000) :
    Calls Tryd.prog 22 #[v] w (fun e w' => ∃ v', e = .returned v' ∧ Rd w' 1 v' (onceL ts).length ((onceL ts).map encStr) ∧ Below w.heap.size w w') := by
  obtain ⟨i0, hi0, hz0, hz1, hz2⟩ := info_parts info_str2
  obtain ⟨a, c, rfl⟩ := h.slice
  have HON := Lib.hid (once_is ts)
  have HSZ := Lib.hid hsz
  clear hsz
  go_enter Tryd.func22, Tryd.ntmps22
  go_wp2_with fail
  go_loopw [3, 4] (fun ov iv wr => ∃ (i : Nat) (r : List (List UInt8)), i ≤ ts.length ∧ iv = .int .i64 i ∧ wr.ownsRow w.heap.size 9 1 ov r.length (r.map encStr) ∧ r.length ≤ i ∧ Rise r ∧ (∀ y, y ∈ r ↔ y ∈ ts.take i) ∧ Below w.heap.size w wr) (fun _ iv _ => ts.length - (intOf iv).toNat)
  case atStart => exact ⟨0, [], Nat.zero_le _, rfl, World.ownsRow_nil _ _ _ _, Nat.le_refl _, List.Pairwise.nil, by simp, Below.refl _ _⟩
  case round =>
    obtain ⟨i, r, hi, rfl, oo, hr1, hrise, hmem, hb⟩ := hrel
    rename World => w0
    have HR := Lib.hid hrise
    have HMEM := Lib.hid hmem
    clear hrise hmem
    by_cases hlt : i < ts.length
    case neg =>
      have HE : Hid (r = onceL ts) := Lib.hid (rise_eq r (onceL ts) HR.out HON.out.1 (fun x => by rw [HMEM.out x, HON.out.2 x, List.take_of_length_le (by omega)]))
      obtain ⟨a2, c2, rfl⟩ := owns_slice oo
      go_wp2_with fail
      go_ret
      exact ⟨_, rfl, by rw [← HE.out]; exact Rd.of_owns oo, hb⟩
    obtain ⟨b, o, rfl, hc1, hm1, hx1⟩ := h.at (by omega)
    have hxi := hx1 i (encStr ts[i]) (by simp [hlt])
    have dl : ∀ W, Below w.heap.size w W → W.cell? ⟨b, o + i, none⟩ = some (encStr ts[i]) := fun W hB => (hB.cell (World.block_lt_of_cell? _ _ hxi)).trans hxi
    clear hxi
    have HTK := Lib.hid (List.take_succ_eq_append_getElem hlt)
    have hxs : (ts[i]).length ≤ 1000000 := HSZ.out _ (List.getElem_mem hlt)
    generalize ts[i] = x at dl HTK hxs
    obtain ⟨a2, c2, rfl⟩ := owns_slice oo
    clear hx1 hc1 hm1
    go_wp2_with fail
    go_loopw [5] (fun kv wq => ∃ k : Nat, k ≤ r.length ∧ kv = .int .i64 k ∧ (∀ j (hj : j < r.length), j < k → r[j] < x) ∧ Below w0.heap.size w0 wq) (fun kv _ => r.length - (intOf kv).toNat)
    case atStart => exact ⟨0, Nat.zero_le _, rfl, fun j _ h => by omega, Below.refl _ _⟩
    case round =>
      obtain ⟨k, hk, rfl, hj, hwq⟩ := hrel
      rename World => wq
      have HJ := Lib.hid hj
      clear hj
      have Bq := nxt hb hwq
      have oq := owns_below oo hwq
      by_cases hkr : k < r.length
      case pos =>
        obtain ⟨g, rfl, hg⟩ := owns_at oq (by omega)
        have eo : ∀ W, Below wq.heap.size wq W → W.cell? ⟨g, k, none⟩ = some (encStr r[k]) := fun W hB => by
          have := World.ownsRow.cellAt (owns_below oq hB) k (by simpa using hkr)
          simpa [hkr] using this
        have hrk : (r[k]).length ≤ 1000000 := HSZ.out _ (List.mem_of_mem_take ((HMEM.out _).1 (List.getElem_mem hkr)))
        have HY : Hid (r[k] < x → ∀ j (hj : j < r.length), j < k + 1 → r[j] < x) := Lib.hid (fun hq j h hjk => by
          rcases Nat.lt_or_ge j k with h1 | h1
          · exact HJ.out j h h1
          · obtain rfl : j = k := by omega
            exact hq)
        have HIN : Hid (r[k] ∈ r) := Lib.hid (List.getElem_mem hkr)
        have HGE' : Hid (∀ (_ : k < r.length), ¬ r[k] < x → r[k] ≠ x → x < r[k]) := Lib.hid (fun _ h1 h2 => by
          rcases List.le_total x r[k] with h | h
          · exact Classical.byContradiction fun h3 => h2 (List.le_antisymm (List.not_lt.1 h3) h)
          · exact absurd (List.le_antisymm h (List.not_lt.1 h1)) h2)
        have e0 := eo wq (Below.refl _ _)
        have e1 := dl wq Bq
        have eD0 := eo wq.drew (Below.refl _ _).drew
        have eD1 := dl wq.drew (nxt Bq (Below.refl _ _).drew)
        have hbe := fun W => before_calls ⟨(r[k]).toArray⟩ ⟨x.toArray⟩ W (by show (r[k]).toArray.size ≤ _; rw [List.size_toArray]; omega) (by show x.toArray.size ≤ _; rw [List.size_toArray]; omega)
        obtain ⟨y, hy⟩ : ∃ y, y = r[k] := ⟨_, rfl⟩
        have HYk := Lib.hid hy
        rw [← hy] at eo HY HIN hrk hbe e0 eD0
        clear hy
        have hkr' : decide ((k : Int) < (r.length : Int)) = true := decide_eq_true (by omega)
        have hkr'' : decide (k < r.length) = true := decide_eq_true hkr
        obtain ⟨B, hB⟩ : ∃ B, B = Op.bytesLess y x := ⟨_, rfl⟩
        have hbe' : ∀ W, Calls Tryd.prog 38 #[.string ⟨y.toArray⟩, .string ⟨x.toArray⟩] W (fun e w' => e = .returned (.bool B) ∧ Below W.heap.size W w') := by rw [hB]; exact hbe
        have HB : Hid (B = decide (y < x)) := Lib.hid (by rw [hB]; exact Go.Proofs.bytesLess_eq y x)
        clear hB hbe
        go_wp2_with fail
        refine wp_region_ord (S := (fun W => W.cell? ⟨g, k, none⟩ = some (encStr y) ∧ W.cell? ⟨b, o + i, none⟩ = some (encStr x))) [(0, true), (1, true), (2, true), (3, true), (4, true), (5, true), (6, true), (7, true), (8, true), (9, true), (10, true), (11, true), (12, true), (13, false), (14, true)] (by kernel_rfl) (by kernel_rfl) rfl (by kernel_rfl) (fun _ _ _ _ _ h => h) ⟨e0, e1⟩ ?_
        simp only [List.map_cons, List.map_nil, List.getElem?_toArray, List.getElem?_cons_succ, List.getElem?_cons_zero]
        iterate 13 (refine ord_take (v := ?_) (by kernel_rfl) (fun w hSw => ?_) ?_; rotate_left; (focus ((try (obtain ⟨s0, s1⟩ := hSw)); (try dsimp only at s0 s1); go_simp; (first | done | with_reducible rfl))); simp only [Act.put, List.setIfInBounds_toArray, List.set_cons_zero, List.set_cons_succ])
        refine ord_do (by kernel_rfl) (fun K hK => ?_)
        go_simp
        go_at_call 38
        with_reducible refine (hbe' _).mono ?_
        rintro e wx ⟨rfl, bx'⟩
        have bx : Below wq.heap.size wq wx := nxt (Below.refl _ _).drew bx'
        show K _ _
        refine hK.out _ _ ⟨eo wx bx, dl wx (nxt Bq bx)⟩ ?_
        clear hK hbe'
        try simp only [Act.put, List.setIfInBounds_toArray, List.set_cons_zero, List.set_cons_succ]
        iterate 1 (refine ord_take (v := ?_) (by kernel_rfl) (fun w hSw => ?_) ?_; rotate_left; (focus ((try (obtain ⟨s0, s1⟩ := hSw)); (try dsimp only at s0 s1); go_simp; (first | done | with_reducible rfl))); simp only [Act.put, List.setIfInBounds_toArray, List.set_cons_zero, List.set_cons_succ])
        refine ord_nil ?_
        cases B
        case true =>
          have HJ2 := Lib.hid (HY.out (of_decide_eq_true HB.out.symm))
          go_wp2_with fail
          exact ⟨⟨k + 1, by omega, by go_num, HJ2.out, nxt hwq bx⟩, by simp [intOf]; omega⟩
        case false =>
          have hnl := of_decide_eq_false HB.out.symm
          have f0 := eo wx bx
          have f1 := dl wx (nxt Bq bx)
          by_cases hyx : y = x
          · subst hyx
            have HMEM2 : Hid (∀ z, z ∈ r ↔ z ∈ ts.take (i + 1)) := Lib.hid (fun z => by
              rw [HTK.out, List.mem_append, List.mem_singleton, ← HMEM.out z]
              exact ⟨fun h => .inl h, fun h => h.elim id (fun e => by rw [e]; exact HIN.out)⟩)
            have tE : ((⟨y.toArray⟩ : ByteArray).toList == (⟨y.toArray⟩ : ByteArray).toList) = true := by simp
            clear hnl HY HB
            go_wp2_with (go_quiet (fail))
            exact ⟨⟨i + 1, r, by omega, by go_num, owns_below (owns_below oq bx) (below_drewN (Below.refl _ _) _), by omega, HR.out, HMEM2.out, nxt (nxt Bq bx) (below_drewN (Below.refl _ _) _)⟩, by simp [intOf]; omega⟩
          · have HGE : Hid (∀ hk : k < r.length, x < r[k]) := Lib.hid (fun h => HGE'.out h (by rw [← HYk.out]; exact hnl) (by rw [← HYk.out]; exact hyx))
            have tE : ((⟨y.toArray⟩ : ByteArray).toList == (⟨x.toArray⟩ : ByteArray).toList) = false := by
              rw [name_beq]
              exact decide_eq_false (fun h => hyx (by have := congrArg (fun z : ByteArray => z.data.toList) h; simpa using this))
            have tE2 : (y == x) = false := beq_eq_false_iff_ne.2 hyx
            clear hnl HY HB hyx e0 e1 eD0 eD1
            have oX := owns_below oq bx
            have BX := nxt Bq bx
            go_wp2_with (go_quiet (fail))
            have bz := below_drewN (Below.refl wx.heap.size wx) nq
            have oz := owns_below oX bz
            have Bz := nxt BX bz
            clear f0 f1 oX BX bz
            generalize World.drewN _ _ = wz at *
            obtain ⟨n, hn'⟩ : ∃ n, n = r.length := ⟨_, rfl⟩
            have HN' := Lib.hid hn'
            have HLEN : Hid ((r.take k ++ [x] ++ r.drop k).length = n + 1) := Lib.hid (by rw [List.length_append, List.length_append, List.length_take, List.length_drop, hn']; simp; omega)
            have HPUT : Hid (Rise (r.take k ++ [x] ++ r.drop k) ∧ ∀ y, y ∈ r.take k ++ [x] ++ r.drop k ↔ y ∈ ts.take (i + 1)) := Lib.hid (by
              obtain ⟨p1, p2⟩ := rise_put HR.out hk HJ.out HGE.out
              exact ⟨p1, fun y => by rw [p2 y, HMEM.out y, HTK.out, List.mem_append, List.mem_singleton]⟩)
            have hkc : k ≤ c2 := Nat.le_trans hk (Rd.of_owns oz).cap
            have hup : ∀ W, Below wz.heap.size wz W → Rd W 1 (.slice (some ⟨g, 0, none⟩) k c2) k ((r.take k).map encStr) := fun W hB => by
              have := Rd.upto1 ((Rd.of_owns oz).below hB) k hk
              rwa [Nat.mul_one, ← List.map_take] at this
            obtain ⟨ar, cr, hq, hr⟩ := run_rest1 (P := Tryd.prog) 34 sl_str 1 sz_str (some ⟨g, 0, none⟩) r.length c2 k .i64 hk
            have hdr : ∀ W, Below wz.heap.size wz W → Rd W 1 (.slice ar (r.length - k) cr) (r.length - k) ((r.drop k).map encStr) := fun W hB => by
              have := hr W _ ((Rd.of_owns oz).below hB)
              rwa [Nat.mul_one, ← List.map_drop] at this
            rw [← hn'] at hq hdr hk hr1 ⊢
            have hwr1 : ((n + 1 : Nat) : Int) = IntKind.i64.wrap ((n : Int) + 1) := by rw [IntKind.wrap_i64]; omega
            have hwr2 : IntKind.i64.wrap ((n : Int) + 1) = (n : Int) + 1 := by rw [IntKind.wrap_i64]; omega
            clear hr hn' oz
            refine wp_region_ord (S := fun _ => True) [(0, true), (1, true), (2, true), (4, true), (5, true), (6, true), (3, false), (7, false), (8, true)] (by kernel_rfl) (by kernel_rfl) rfl (by kernel_rfl) (fun _ _ _ _ _ h => h) trivial ?_
            simp only [List.map_cons, List.map_nil, List.getElem?_toArray, List.getElem?_cons_succ, List.getElem?_cons_zero]
            iterate 6 (refine ord_take (v := ?_) (by kernel_rfl) (fun w hSw => ?_) ?_; rotate_left; (focus ((try (obtain ⟨s0, s1⟩ := hSw)); (try dsimp only at s0 s1); go_simp; (first | done | with_reducible rfl))); simp only [Act.put, List.setIfInBounds_toArray, List.set_cons_zero, List.set_cons_succ])
            refine ord_do (by kernel_rfl) (fun K hK => ?_)
            refine wp_make_own _ _ _ 34 rfl wz.heap.size 9 i0 (.string ⟨#[]⟩) 1 Tryd.underlying34 hi0 hz0 hz1 .i64 .i64 _ (n + 1) rfl rfl (by first | omega | exact hwr1.symm) (by rw [hz2]; omega) (by unfold maxLen; omega) (Nat.le_refl _) ?_
            intro wn on gn
            have bn : Below wz.heap.size wz wn := ((Below.refl wz.heap.size wz).drew).grown gn (Nat.le_refl _) (fun k hk => by cases hk)
            refine hK.out _ _ trivial ?_
            clear hK gn
            try simp only [Act.put, List.setIfInBounds_toArray, List.set_cons_zero, List.set_cons_succ]
            refine ord_do (by kernel_rfl) (fun K hK => ?_)
            refine wp_append_rd _ _ 34 rfl wz.heap.size 9 i0 (.string ⟨#[]⟩) 1 16 Tryd.underlying34 hi0 hz0 hz1 hz2 rfl (by decide) _ 0 [] rfl on (.slice (some ⟨g, 0, none⟩) k c2) k ((r.take k).map encStr) rfl (hup wn bn) (enc1 _) (by unfold maxLen; omega) (by omega) bn.size ?_
            intro v1 w1 o1 g1
            have b1 : Below wz.heap.size wz w1 := bn.grown g1 bn.size (owns_ge on)
            rw [Nat.zero_add, List.nil_append] at o1
            refine hK.out _ _ trivial ?_
            clear hK g1 on bn
            try simp only [Act.put, List.setIfInBounds_toArray, List.set_cons_zero, List.set_cons_succ]
            iterate 1 (refine ord_take (v := ?_) (by kernel_rfl) (fun w hSw => ?_) ?_; rotate_left; (focus ((try (obtain ⟨s0, s1⟩ := hSw)); (try dsimp only at s0 s1); go_simp; (first | done | with_reducible rfl))); simp only [Act.put, List.setIfInBounds_toArray, List.set_cons_zero, List.set_cons_succ])
            refine ord_nil ?_
            obtain ⟨a3, c3, rfl⟩ := owns_slice o1
            have d1 := dl w1 (nxt Bz b1)
            go_wp2_with (at_builtin; refine wpList_append_own _ rfl _ _ 34 rfl wz.heap.size 9 i0 (.string ⟨#[]⟩) 1 16 Tryd.underlying34 hi0 hz0 hz1 hz2 rfl (by decide) _ k _ rfl (o1.alloc _) ⟨w1.heap.size, 0, none⟩ 1 1 [encStr x] rfl rfl ?c1 ?c2 ?c3 ?c4 ?c5 ?_)
            case c1 => exact cells_new w1 #[encStr x] 9
            case c2 => intro u hu; simp at hu; subst hu; rfl
            case c3 => unfold maxLen; omega
            case c4 => omega
            case c5 => have := b1.size; simp; omega
            intro v2 w2 o2 g2 _
            have b2 : Below wz.heap.size wz w2 := (nxt b1 (below_alloc w1 _)).grown g2 (nxt b1 (below_alloc w1 _)).size (owns_ge o1)
            obtain ⟨a4, c4, rfl⟩ := owns_slice o2
            clear g2 o1 d1 b1
            go_wp2_with (at_builtin; refine wpList_plain rfl fun K hK => ?_; refine wp_append_rd _ _ 34 rfl wz.heap.size 9 i0 (.string ⟨#[]⟩) 1 16 Tryd.underlying34 hi0 hz0 hz1 hz2 rfl (by decide) _ (k + 1) _ rfl o2 (.slice ar (n - k) cr) (n - k) ((r.drop k).map encStr) rfl (hdr w2 b2) (enc1 _) (by unfold maxLen; omega) (by omega) b2.size ?_)
            intro v3 w3 o3 g3
            have b3 : Below wz.heap.size wz w3 := b2.grown g3 b2.size (owns_ge o2)
            refine hK _ _ ?_
            clear hK g3 o2
            go_wp2_with fail
            have B3 := nxt Bz b3
            have o3' := owns_base (base' := w.heap.size) o3 Bz.size
            refine ⟨⟨i + 1, r.take k ++ [x] ++ r.drop k, by omega, by go_num, ?_, by rw [HLEN.out]; omega, HPUT.out.1, HPUT.out.2, B3⟩, by simp [intOf]; omega⟩
            have e2 : (r.take k ++ [x] ++ r.drop k).map encStr = List.take k (r.map encStr) ++ encStr x :: List.drop k (r.map encStr) := by simp
            rw [HLEN.out, e2]
            have e : k + 1 + (n - k) = n + 1 := by omega
            rw [e] at o3'
            exact o3'
      case neg =>
        have HGE : Hid (∀ hk : k < r.length, x < r[k]) := Lib.hid (fun h => absurd h hkr)
        have hkr' : decide ((k : Int) < (r.length : Int)) = false := decide_eq_false (by omega)
        have hkr'' : decide (k < r.length) = false := decide_eq_false hkr
        go_wp2_with fail
        refine wp_region_ord (S := fun _ => True) [(0, true), (1, true), (2, true), (3, true), (4, true), (5, true), (6, true), (7, true), (8, true), (9, true), (10, true), (11, true), (12, true), (13, false), (14, true)] (by kernel_rfl) (by kernel_rfl) rfl (by kernel_rfl) (fun _ _ _ _ _ h => h) trivial ?_
        simp only [List.map_cons, List.map_nil, List.getElem?_toArray, List.getElem?_cons_succ, List.getElem?_cons_zero]
        iterate 5 (refine ord_take (v := ?_) (by kernel_rfl) (fun w hSw => ?_) ?_; rotate_left; (focus ((try (obtain ⟨s0, s1⟩ := hSw)); (try dsimp only at s0 s1); go_simp; (first | done | with_reducible rfl))); simp only [Act.put, List.setIfInBounds_toArray, List.set_cons_zero, List.set_cons_succ])
        iterate 8 (refine ord_skip (by kernel_rfl) ?_; simp only [Act.put, List.setIfInBounds_toArray, List.set_cons_zero, List.set_cons_succ])
        refine ord_pass (by kernel_rfl) trivial ?_
        try simp only [Act.put, List.setIfInBounds_toArray, List.set_cons_zero, List.set_cons_succ]
        iterate 1 (refine ord_take (v := ?_) (by kernel_rfl) (fun w hSw => ?_) ?_; rotate_left; (focus ((try (obtain ⟨s0, s1⟩ := hSw)); (try dsimp only at s0 s1); go_simp; (first | done | with_reducible rfl))); simp only [Act.put, List.setIfInBounds_toArray, List.set_cons_zero, List.set_cons_succ])
        refine ord_nil ?_
        have bY : Below wq.heap.size wq wq.drew := (Below.refl _ _).drew
        have oX := owns_below oq bY
        have BX := nxt Bq bY
        go_wp2_with (go_quiet (fail))
        have bz := below_drewN (Below.refl wq.drew.heap.size wq.drew) nq
        have oz := owns_below oX bz
        have Bz := nxt BX bz
        clear oX BX bz bY
        generalize World.drewN _ _ = wz at *
        obtain ⟨n, hn'⟩ : ∃ n, n = r.length := ⟨_, rfl⟩
        have HN' := Lib.hid hn'
        have HLEN : Hid ((r.take k ++ [x] ++ r.drop k).length = n + 1) := Lib.hid (by rw [List.length_append, List.length_append, List.length_take, List.length_drop, hn']; simp; omega)
        have HPUT : Hid (Rise (r.take k ++ [x] ++ r.drop k) ∧ ∀ y, y ∈ r.take k ++ [x] ++ r.drop k ↔ y ∈ ts.take (i + 1)) := Lib.hid (by
          obtain ⟨p1, p2⟩ := rise_put HR.out hk HJ.out HGE.out
          exact ⟨p1, fun y => by rw [p2 y, HMEM.out y, HTK.out, List.mem_append, List.mem_singleton]⟩)
        have hkc : k ≤ c2 := Nat.le_trans hk (Rd.of_owns oz).cap
        have hup : ∀ W, Below wz.heap.size wz W → Rd W 1 (.slice a2 k c2) k ((r.take k).map encStr) := fun W hB => by
          have := Rd.upto1 ((Rd.of_owns oz).below hB) k hk
          rwa [Nat.mul_one, ← List.map_take] at this
        obtain ⟨ar, cr, hq, hr⟩ := run_rest1 (P := Tryd.prog) 34 sl_str 1 sz_str a2 r.length c2 k .i64 hk
        have hdr : ∀ W, Below wz.heap.size wz W → Rd W 1 (.slice ar (r.length - k) cr) (r.length - k) ((r.drop k).map encStr) := fun W hB => by
          have := hr W _ ((Rd.of_owns oz).below hB)
          rwa [Nat.mul_one, ← List.map_drop] at this
        rw [← hn'] at hq hdr hk hr1 ⊢
        have hwr1 : ((n + 1 : Nat) : Int) = IntKind.i64.wrap ((n : Int) + 1) := by rw [IntKind.wrap_i64]; omega
        have hwr2 : IntKind.i64.wrap ((n : Int) + 1) = (n : Int) + 1 := by rw [IntKind.wrap_i64]; omega
        clear hr hn' oz
        refine wp_region_ord (S := fun _ => True) [(0, true), (1, true), (2, true), (4, true), (5, true), (6, true), (3, false), (7, false), (8, true)] (by kernel_rfl) (by kernel_rfl) rfl (by kernel_rfl) (fun _ _ _ _ _ h => h) trivial ?_
        simp only [List.map_cons, List.map_nil, List.getElem?_toArray, List.getElem?_cons_succ, List.getElem?_cons_zero]
        iterate 6 (refine ord_take (v := ?_) (by kernel_rfl) (fun w hSw => ?_) ?_; rotate_left; (focus ((try (obtain ⟨s0, s1⟩ := hSw)); (try dsimp only at s0 s1); go_simp; (first | done | with_reducible rfl))); simp only [Act.put, List.setIfInBounds_toArray, List.set_cons_zero, List.set_cons_succ])
        refine ord_do (by kernel_rfl) (fun K hK => ?_)
        refine wp_make_own _ _ _ 34 rfl wz.heap.size 9 i0 (.string ⟨#[]⟩) 1 Tryd.underlying34 hi0 hz0 hz1 .i64 .i64 _ (n + 1) rfl rfl (by first | omega | exact hwr1.symm) (by rw [hz2]; omega) (by unfold maxLen; omega) (Nat.le_refl _) ?_
        intro wn on gn
        have bn : Below wz.heap.size wz wn := ((Below.refl wz.heap.size wz).drew).grown gn (Nat.le_refl _) (fun k hk => by cases hk)
        refine hK.out _ _ trivial ?_
        clear hK gn
        try simp only [Act.put, List.setIfInBounds_toArray, List.set_cons_zero, List.set_cons_succ]
        refine ord_do (by kernel_rfl) (fun K hK => ?_)
        refine wp_append_rd _ _ 34 rfl wz.heap.size 9 i0 (.string ⟨#[]⟩) 1 16 Tryd.underlying34 hi0 hz0 hz1 hz2 rfl (by decide) _ 0 [] rfl on (.slice a2 k c2) k ((r.take k).map encStr) rfl (hup wn bn) (enc1 _) (by unfold maxLen; omega) (by omega) bn.size ?_
        intro v1 w1 o1 g1
        have b1 : Below wz.heap.size wz w1 := bn.grown g1 bn.size (owns_ge on)
        rw [Nat.zero_add, List.nil_append] at o1
        refine hK.out _ _ trivial ?_
        clear hK g1 on bn
        try simp only [Act.put, List.setIfInBounds_toArray, List.set_cons_zero, List.set_cons_succ]
        iterate 1 (refine ord_take (v := ?_) (by kernel_rfl) (fun w hSw => ?_) ?_; rotate_left; (focus ((try (obtain ⟨s0, s1⟩ := hSw)); (try dsimp only at s0 s1); go_simp; (first | done | with_reducible rfl))); simp only [Act.put, List.setIfInBounds_toArray, List.set_cons_zero, List.set_cons_succ])
        refine ord_nil ?_
        obtain ⟨a3, c3, rfl⟩ := owns_slice o1
        have d1 := dl w1 (nxt Bz b1)
        go_wp2_with (at_builtin; refine wpList_append_own _ rfl _ _ 34 rfl wz.heap.size 9 i0 (.string ⟨#[]⟩) 1 16 Tryd.underlying34 hi0 hz0 hz1 hz2 rfl (by decide) _ k _ rfl (o1.alloc _) ⟨w1.heap.size, 0, none⟩ 1 1 [encStr x] rfl rfl ?c1 ?c2 ?c3 ?c4 ?c5 ?_)
        case c1 => exact cells_new w1 #[encStr x] 9
        case c2 => intro u hu; simp at hu; subst hu; rfl
        case c3 => unfold maxLen; omega
        case c4 => omega
        case c5 => have := b1.size; simp; omega
        intro v2 w2 o2 g2 _
        have b2 : Below wz.heap.size wz w2 := (nxt b1 (below_alloc w1 _)).grown g2 (nxt b1 (below_alloc w1 _)).size (owns_ge o1)
        obtain ⟨a4, c4, rfl⟩ := owns_slice o2
        clear g2 o1 d1 b1
        go_wp2_with (at_builtin; refine wpList_plain rfl fun K hK => ?_; refine wp_append_rd _ _ 34 rfl wz.heap.size 9 i0 (.string ⟨#[]⟩) 1 16 Tryd.underlying34 hi0 hz0 hz1 hz2 rfl (by decide) _ (k + 1) _ rfl o2 (.slice ar (n - k) cr) (n - k) ((r.drop k).map encStr) rfl (hdr w2 b2) (enc1 _) (by unfold maxLen; omega) (by omega) b2.size ?_)
        intro v3 w3 o3 g3
        have b3 : Below wz.heap.size wz w3 := b2.grown g3 b2.size (owns_ge o2)
        refine hK _ _ ?_
        clear hK g3 o2
        go_wp2_with fail
        have B3 := nxt Bz b3
        have o3' := owns_base (base' := w.heap.size) o3 Bz.size
        refine ⟨⟨i + 1, r.take k ++ [x] ++ r.drop k, by omega, by go_num, ?_, by rw [HLEN.out]; omega, HPUT.out.1, HPUT.out.2, B3⟩, by simp [intOf]; omega⟩
        have e2 : (r.take k ++ [x] ++ r.drop k).map encStr = List.take k (r.map encStr) ++ encStr x :: List.drop k (r.map encStr) := by simp
        rw [HLEN.out, e2]
        have e : k + 1 + (n - k) = n + 1 := by omega
        rw [e] at o3'
        exact o3'
end Go.Proofs.YtegiingcnhafbaaDoor
