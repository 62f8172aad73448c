/- epoch.Read: a lineage of bytes, or what is amiss. -/
import Derived.Test.YtjhebnjajnjhhaaDoorEpoBytes
import Derived.Test.YtjhebnjajnjhhaaDoorReaderMore
import Derived.Deep.RegionHeld3
namespace Go.Proofs.YtjhebnjajnjhhaaDoor
open Go Go.RowKit Epo Vint

/-- Where a row of a known kind has turned a reader reads on. -/
theorem Rdr.grown {A : Nat → Addr} {w w1 : World} {g : Nat} {s : Rs} (h : Rdr A w g s) {row : Option Nat} (u : w.grownBy w1 row) {t : TypeId} (hr : ∀ k, row = some k → ∃ c f, w.heap[k]? = some (.cells c t f)) (t1 : 147 ≠ t) (t2 : 5 ≠ t) (t3 : 123 ≠ t) : Rdr A w1 g s := by
  cases row with
  | none => exact h.below ⟨u.os, u.tape, u.output, u.size, fun k hk => u.block k hk (by simp)⟩
  | some k =>
    obtain ⟨c, f, hc⟩ := hr k rfl
    exact h.touch (k := k) u hc t1 t2 t3
theorem owns_rowAt {w : World} {base e sz n : Nat} {v : Value} {xs : List Value} (h : w.ownsRow base e sz v n xs) : ∀ k, v.ownBlock = some k → ∃ c f, w.heap[k]? = some (.cells c e f) := by
  intro k hk
  rcases h.2 with ⟨rfl, _⟩ | ⟨g, cap, cur, rfl, _, hg, _⟩
  · simp [Value.ownBlock] at hk
  · simp only [Value.ownBlock, Option.some.injEq] at hk
    subst hk
    exact ⟨_, _, hg⟩
theorem Rdr.rowAt' {A : Nat → Addr} {w : World} {g : Nat} {s : Rs} (h : Rdr A w g s) : ∃ c, w.heap[g]? = some (.cells c 147 (0, 0)) := by
  obtain ⟨_, vb, ve, h1, _⟩ := h; exact ⟨_, h1⟩

theorem valid_range (l : List Pr) : valid l - 101 < 19 := by
  unfold valid; split <;> (try omega); split <;> (try omega); split <;> omega

def ReadPost (A : Nat → Addr) (b : List UInt8) (w : World) (e : Ending) (w' : World) : Prop :=
  Below w.heap.size w w' ∧ ((∃ F g, (readPairs b).1 = .fine ∧ e = .returned (.tuple #[.pointer (some ⟨g, 0, none⟩), .nilIface]) ∧ LineAt w' F g (readPairs b).2 ∧ ∀ k, F k → w.heap.size ≤ k) ∨
    ∃ v, (readPairs b).1 ≠ .fine ∧ e = .returned (.tuple #[.pointer none, v]) ∧ ErRow A w' v (readPairs b).1)

theorem readLoop_go {n : Nat} {s : Rs} (l : List Pr) (hb : s.bad = .fine) : readLoop (n + 1) s l = readLoop n (readOne s).2 (l ++ [(readOne s).1]) := by
  conv => lhs; unfold readLoop
  rw [if_pos hb]

set_option maxRecDepth 100000 in
set_option maxHeartbeats 4000000 in
theorem eread_calls {S : List Nat} {A : Nat → Addr} {w : World} (hS : Sents S w A) (hz : ∀ i ∈ [0, 2, 3, 4], i ∈ S) {v : Value} {bs : List UInt8} (h : Rd w 1 v bs.length (bvs bs)) (hl : bs.length ≤ 1099511627776) :
    Calls Tryd.prog 37 #[v] w (ReadPost A bs w) := by
  obtain ⟨i0, hi, hz0, hz1, hz2⟩ := info_parts info_pair
  obtain ⟨am, cm, rfl⟩ := h.slice
  have hnr := newReader_calls A _ bs w h hl
  go_enter Tryd.func37, Tryd.ntmps37
  go_wp2_with fail
  refine hnr.mono ?_
  rintro e w1 ⟨gr, rfl, hgr, r1, b1⟩
  have haw : Away S A gr := Away.of_new hS hgr
  have hS1 := hS.below b1
  have hnum := num_calls' hS1 (hz 0 (by decide)) (hz 2 (by decide)) (hz 4 (by decide)) haw r1 256
  clear hnr
  go_wp2_with fail
  refine hnum.mono ?_
  rintro e w2 ⟨rfl, r2, t2⟩
  have b2 := t2.new b1 hgr
  have hq : readPairs bs = readPairs bs := rfl
  unfold readPairs at hq
  obtain ⟨n0, hn0⟩ : ∃ n, n = (num 256 (rs0 bs)).1 := ⟨_, rfl⟩
  obtain ⟨s0, hs0⟩ : ∃ s, s = (num 256 (rs0 bs)).2 := ⟨_, rfl⟩
  have hn1 : n0 ≤ 256 := by rw [hn0]; exact (num_val 256).1
  obtain ⟨Q, hQ⟩ : ∃ Q, Q = readLoop n0 s0 [] := ⟨_, rfl⟩
  have HP : Hid (readPairs bs = if Q.2.bad ≠ .fine then (Q.2.bad, []) else if 0 < Q.2.left.length then (.placed 3 Q.2.pos, []) else if valid Q.1 ≠ 0 then (.bare (valid Q.1 - 101), []) else (.fine, Q.1)) := Lib.hid (by
    rw [hQ, hn0, hs0]; rfl)
  rw [← hn0]
  rw [← hs0] at r2
  have HQ := Lib.hid hQ
  clear hq hn0 hs0 hQ hnum
  go_wp2_with fail
  go_loopw [5, 6] (fun lv nv wr => ∃ (n : Nat) (s : Rs) (l : List Pr), nv = .int .u64 n ∧ n ≤ 256 ∧ Hid (readLoop n s l = Q) ∧ l.length + n ≤ 256 ∧ Rdr A wr gr s ∧ wr.ownsRow w.heap.size 50 2 lv l.length (l.flatMap prV) ∧ Below w.heap.size w wr) (fun _ nv _ => (intOf nv).toNat)
  case atStart => exact ⟨n0, s0, [], rfl, hn1, Lib.hid HQ.out.symm, by simpa using hn1, r2, by simpa using World.ownsRow_nil _ _ _ _, b2⟩
  case round =>
    obtain ⟨n, s, l, rfl, hn, HR, hln, hr, ho, hb⟩ := hrel
    have herr := readerErr_calls hr
    by_cases hgo : 0 < n ∧ s.bad = .fine
    · obtain ⟨hpos, hfine⟩ := hgo
      obtain ⟨m, rfl⟩ : ∃ m, n = m + 1 := ⟨n - 1, by omega⟩
      have HR2 := HR.out
      rw [readLoop_go l hfine] at HR2
      have HRR := Lib.hid HR2
      clear HR2 HR
      have hn1c := num_calls' (hS.below hb) (hz 0 (by decide)) (hz 2 (by decide)) (hz 4 (by decide)) haw hr 1073741824
      rw [hfine] at herr
      obtain ⟨ca, hrowa⟩ := hr.rowAt'
      have v1 := (num_val (s := s) 1073741824).1
      have v2 := (num_val (s := (num 1073741824 s).2) 1099511627776).1
      obtain ⟨x, hx⟩ : ∃ x, x = (num 1073741824 s).1 := ⟨_, rfl⟩
      obtain ⟨s1, hs1⟩ : ∃ x, x = (num 1073741824 s).2 := ⟨_, rfl⟩
      rw [← hx, ← hs1] at hn1c
      rw [← hx] at v1
      rw [← hs1] at v2
      have hro : readOne s = (⟨(x : Int), ((num 1099511627776 s1).1 : Nat)⟩, (num 1099511627776 s1).2) := by rw [hx, hs1]; rfl
      obtain ⟨y, hy⟩ : ∃ x, x = (num 1099511627776 s1).1 := ⟨_, rfl⟩
      obtain ⟨s2, hs2⟩ : ∃ x, x = (num 1099511627776 s1).2 := ⟨_, rfl⟩
      have hn2 := fun W (hW : Sents S W A) (k : Rdr A W gr s1) => num_calls' hW (hz 0 (by decide)) (hz 2 (by decide)) (hz 4 (by decide)) haw k 1099511627776
      rw [← hy, ← hs2] at hn2 hro
      rw [← hy] at v2
      have HRO := Lib.hid hro
      clear hx hs1 hy hs2 hro hfine
      obtain ⟨al, cl, rfl⟩ := owns_slice ho
      go_wp2_with fail
      refine herr.mono ?_
      rintro e w3 ⟨v3, rfl, hv3, rfl⟩
      have hv4 : v3 = .nilIface := hv3
      subst hv4
      clear hv3 herr
      go_wp2_with fail
      refine hn1c.mono ?_
      rintro e w4 ⟨rfl, r4, t4⟩
      have b4 := t4.new hb hgr
      have o4 := t4.owns ho hrowa (by decide)
      obtain ⟨cb, hrowb⟩ := r4.rowAt'
      clear hn1c hr
      go_wp2_with fail
      refine (hn2 _ (hS.below b4) r4).mono ?_
      rintro e w5 ⟨rfl, r5, t5⟩
      have b5 := t5.new b4 hgr
      have o5 := t5.owns o4 hrowb (by decide)
      clear hn2 r4
      go_wp2_with (at_builtin; refine wpList_append_own _ rfl _ _ 43 rfl w.heap.size 50 i0 _ 2 16 Tryd.underlying43 hi hz0 hz1 hz2 rfl (by decide) _ _ _ rfl (o5.alloc _) ⟨w5.heap.size, 0, none⟩ 1 1 [.int .i64 x, .int .i64 y] rfl rfl ?c1 ?c2 ?c3 ?c4 ?c5 ?_)
      case c1 => exact cells_new w5 #[.int .i64 (x : Int), .int .i64 (y : Int)] 50
      case c2 => intro u hu; simp at hu; rcases hu with rfl | rfl <;> rfl
      case c3 => unfold maxLen; omega
      case c4 => omega
      case c5 => have := b5.size; simp; omega
      intro v' w' hown' hgrow _
      have B6 : Below w.heap.size w w' := (b5.alloc b5.size _).grown hgrow (by have := b5.size; simp; omega) (fun k hk => (o5.lt k hk).1)
      have r6 := (r5.below (below_alloc w5 (.cells #[.int .i64 (x : Int), .int .i64 (y : Int)] 50))).grown hgrow (owns_rowAt (o5.alloc _)) (by decide) (by decide) (by decide)
      have hgo := HRR.out
      rw [HRO.out] at hgo
      have HGO := Lib.hid hgo
      clear hgo hgrow
      go_wp2_with fail
      refine ⟨⟨m, s2, l ++ [⟨(x : Int), (y : Int)⟩], by go_num, by omega, HGO, by rw [List.length_append, List.length_singleton]; omega, r6, ?_, B6⟩, by simp [intOf]⟩
      rw [List.length_append, List.flatMap_append]
      exact hown'
    · have hq : Q = (l, s) := by
        rw [← HR.out]
        by_cases h0 : 0 < n
        · exact readLoop_bad _ _ _ (fun e => hgo ⟨h0, e⟩)
        · obtain rfl : n = 0 := by omega
          rfl
      rw [hq] at HP
      simp only at HP
      clear hq HR
      have HGO := Lib.hid hgo
      clear hgo
      obtain ⟨al, cl, rfl⟩ := owns_slice ho
      have hnew := fun W (hW : Sents S W A) (k : Rd W 2 (.slice al l.length cl) l.length (l.flatMap prV)) => new_calls S A hW (hz 2 (by decide)) (hz 3 (by decide)) (hz 4 (by decide)) k
      have g3 : ∀ w', Below w.heap.size w w' → w'.cell? ⟨1, 0, none⟩ = some (.iface 172 (.pointer (some (A 3)))) := fun w' b => (hS.below b).cell 3 (hz 3 (by decide))
      by_cases h0 : 0 < n
      all_goals
        first
        | (have hne : s.bad ≠ .fine := fun e => HGO.out ⟨h0, e⟩
           go_wp2_with fail
           refine herr.mono ?_
           rintro e w3 ⟨v3, rfl, hv3, rfl⟩
           obtain ⟨T3, u3, rfl⟩ := hv3.not_nil hne
           go_wp2_with fail
           refine herr.mono ?_
           rintro e w3 ⟨v4, rfl, hv4, rfl⟩)
        | (go_wp2_with fail
           refine herr.mono ?_
           rintro e w3 ⟨v4, rfl, hv4, rfl⟩)
      all_goals
        by_cases hfb : s.bad = .fine
        · first
          | exact absurd hfb hne
          | (rw [hfb] at hv4
             have hv5 : v4 = .nilIface := hv4
             subst hv5
             rw [if_neg (fun e => e hfb)] at HP
             have HFB := Lib.hid hfb
             clear hv4 hfb herr
             by_cases hlf : 0 < s.left.length
             · rw [if_pos hlf] at HP
               have kA : ∀ O m, ((w3.drewN m).alloc O).cell? ⟨1, 0, none⟩ = some (.iface 172 (.pointer (some (A 3)))) := fun O m => g3 _ ((below_drewN hb m).alloc (below_drewN hb m).size _)
               have k3 : ∀ m n, ((w3.drewN m).drewN n).drew.cell? ⟨1, 0, none⟩ = some (.iface 172 (.pointer (some (A 3)))) := fun m n => g3 w3 hb
               go_wp2_with fail
               refine (left_calls hr).mono ?_
               rintro e w5 ⟨rfl, q5, rfl⟩
               go_wp2_with fail
               go_region_held3 (fun w' => w'.cell? ⟨1, 0, none⟩ = some (.iface 172 (.pointer (some (A 3))))) (first | exact k3 0 _ | exact kA _ _ | assumption)
                 ((go_at_call 73; refine (readerAt_calls (hr.drewN _)).mono ?_; rintro e w6 ⟨rfl, rfl⟩))
               go_wp2_with fail
               go_ret2
               unfold ReadPost
               rw [HP.out]
               exact ⟨(below_drewN hb _).alloc (below_drewN hb _).size _, .inr ⟨_, by simp, rfl, by omega, _, rfl, heap_alloc_new _ _⟩⟩
             · rw [if_neg hlf] at HP
               go_wp2_with fail
               refine (left_calls hr).mono ?_
               rintro e w5 ⟨rfl, q5, rfl⟩
               have B5 := below_drewN hb q5
               go_wp2_with fail
               refine (hnew _ (hS.below B5) ((Rd.of_owns ho).below (below_drewN (Below.refl _ _) q5))).mono ?_
               rintro e w6 h6
               unfold NewPost at h6
               obtain ⟨h6, b6⟩ := h6
               rcases h6 with ⟨hv, F, g, rfl, hL, hF⟩ | ⟨hv, rfl⟩
               · rw [if_neg (fun e => e hv)] at HP
                 go_wp2_with fail
                 go_ret2
                 unfold ReadPost
                 rw [HP.out]
                 exact ⟨nxt B5 b6, .inl ⟨F, g, rfl, rfl, hL, fun k hk => Nat.le_trans B5.size (hF k hk)⟩⟩
               · rw [if_pos hv] at HP
                 go_wp2_with fail
                 go_ret2
                 unfold ReadPost
                 rw [HP.out]
                 exact ⟨nxt B5 b6, .inr ⟨_, by simp, rfl, valid_range _, rfl⟩⟩)
        · rw [if_pos hfb] at HP
          obtain ⟨T4, u4, rfl⟩ := hv4.not_nil hfb
          go_wp2_with fail
          refine herr.mono ?_
          rintro e w3 ⟨v5, rfl, hv5, rfl⟩
          go_wp2_with fail
          go_ret2
          unfold ReadPost
          rw [HP.out]
          exact ⟨hb, .inr ⟨_, hfb, rfl, hv5⟩⟩
end Go.Proofs.YtjhebnjajnjhhaaDoor
