/- Line.Has: is a part of a log one of a lineage? -/
import Derived.Test.YtdlcpcpcojpecaaDoorEpoAsk
import Derived.Test.YtdlcpcpcojpecaaDoorHasMath
import Derived.BigQuiet
namespace Go.Proofs.YtdlcpcpcojpecaaDoor
open Go Go.RowKit Epo

def HasPost (e l : List Pr) (en wh : Int) (w : World) (r : Ending) (w' : World) : Prop :=
  ∃ b : Bool, r = .returned (.bool b) ∧ (b = true ↔ HasP e l en wh) ∧ Below w.heap.size w w'
theorem HasPost.no {e l : List Pr} {en wh : Int} {w w' : World} (h : ¬ HasP e l en wh) (b : Below w.heap.size w w') : HasPost e l en wh w (.returned (.bool false)) w' :=
  ⟨false, rfl, ⟨fun h => (by cases h), fun h' => absurd h' h⟩, b⟩

set_option maxRecDepth 100000 in
set_option maxHeartbeats 4000000 in
theorem has_calls (S : List Nat) (A : Nat → Addr) {w : World} {F : Nat → Prop} {g : Nat} {e l : List Pr} {v : Value} (hS : Sents S w A) (h2 : 2 ∈ S) (h3 : 3 ∈ S) (h4 : 4 ∈ S) (h : LineAt w F g e) (hp : Rd w 2 v l.length (l.flatMap prV)) (en wh : Int) :
    Calls Tryd.prog 37 #[.pointer (some ⟨g, 0, none⟩), v, .int .i64 en, .int .i64 wh] w (HasPost e l en wh w) := by
  obtain ⟨a1, c1, rfl⟩ := hp.slice
  have m1 := hp.len_le
  have hn := new_calls S A hS h2 h3 h4 hp
  go_enter Tryd.func37, Tryd.ntmps37
  go_wp2_with fail
  refine hn.mono ?_
  rintro r w1 ⟨hv, b1⟩
  unfold senV at hv
  clear hn
  rcases hv with ⟨hv, _, gn, rfl, _, _⟩ | ⟨hv, rfl⟩
  · rcases Nat.eq_zero_or_pos l.length with h0 | h0
    · have HN := Lib.hid (show ¬ HasP e l en wh by
        rintro ⟨_, ⟨q, hq, _⟩, _⟩
        rw [List.eq_nil_of_length_eq_zero h0] at hq; cases hq)
      rw [h0]
      go_wp2_with fail
      go_ret
      exact HasPost.no HN.out b1
    · obtain ⟨m, hm⟩ : ∃ m, l.length = m + 1 := ⟨l.length - 1, by omega⟩
      obtain ⟨b, o, rfl, hc1, hm1, hx1⟩ := (hp.below b1).at h0
      have hml : m < l.length := by omega
      obtain ⟨q0, q1⟩ := pr_cells hx1 m hml
      have hgl : l.getLast? = some l[m] := by rw [List.getLast?_eq_getElem?, show l.length - 1 = m by omega, List.getElem?_eq_getElem hml]
      obtain ⟨y, hy⟩ : ∃ y, y = l[m] := ⟨_, rfl⟩
      rw [← hy] at q0 q1 hgl
      have HGL := Lib.hid hgl
      have HV := Lib.hid hv
      have hs1 : IntKind.i64.wrap ((l.length : Int) - 1) = (m : Int) := by rw [IntKind.wrap_i64]; omega
      have hl0 : ((l.length : Int) == 0) = false := by rw [beq_eq_false_iff_ne]; omega
      clear hx1 hgl hy hv hm
      by_cases t1 : en ≤ y.st
      · have HN := Lib.hid (show ¬ HasP e l en wh by
          rintro ⟨_, ⟨q, hq, h5⟩, _⟩
          rw [HGL.out] at hq; cases hq; omega)
        have hd : decide (en ≤ y.st) = true := decide_eq_true t1
        go_wp2_with fail
        go_ret
        exact HasPost.no HN.out b1
      have hd1 : decide (en ≤ y.st) = false := decide_eq_false t1
      by_cases t2 : wh < en
      · have HN := Lib.hid (show ¬ HasP e l en wh by
          rintro ⟨_, _, h5, _⟩; omega)
        have hd2 : decide (wh < en) = true := decide_eq_true t2
        go_wp2_with fail
        go_ret
        exact HasPost.no HN.out b1
      have hd2 : decide (wh < en) = false := decide_eq_false t2
      go_wp2_with fail
      go_loopw [45] (fun iv wr => ∃ i : Nat, i ≤ l.length ∧ iv = .int .i64 i ∧ (∀ j (hj : j < l.length), j < i → OkAt e l[j] (toAt en l j)) ∧ Below w.heap.size w wr) (fun iv _ => l.length - (intOf iv).toNat)
      case atStart => exact ⟨0, Nat.zero_le _, rfl, fun j _ hj => by omega, b1⟩
      case round =>
        obtain ⟨i, hi, rfl, hs, hb⟩ := hrel
        have HSS := Lib.hid hs
        clear hs q0 q1 hs1
        by_cases hlt : i < l.length
        · obtain ⟨b', o', he, _, _, hx1⟩ := (hp.below hb).at h0
          simp only [Option.some.injEq, Addr.mk.injEq] at he
          obtain ⟨rfl, rfl, _⟩ := he
          obtain ⟨q0, q1⟩ := pr_cells hx1 i hlt
          have hbl := World.block_lt_of_cell? _ _ q0
          simp only at hbl
          have hlb := lastK_bd (·.st) l[i].st e e.length
          have HNX := Lib.hid (show OkAt e l[i] (toAt en l i) → ∀ j (hj : j < l.length), j < i + 1 → OkAt e l[j] (toAt en l j) from fun h5 j hj hji => by
            by_cases hji2 : j = i
            · subst hji2; exact h5
            · exact HSS.out j hj (by omega))
          have HNO := Lib.hid (show ¬ OkAt e l[i] (toAt en l i) → ¬ HasP e l en wh from fun h5 h6 => h5 (h6.2.2.2 i hlt))
          have hpl := fun W (hW : Below w.heap.size w W) => place_calls (h.below hW) l[i].st
          unfold PlacePost at hpl
          obtain ⟨T, hT⟩ : ∃ T, T = toAt en l i := ⟨_, rfl⟩
          rw [← hT] at HNX HNO
          by_cases h1 : i + 1 < l.length
          case' pos =>
            obtain ⟨p0, p1⟩ := pr_cells hx1 (i + 1) h1
            have hT2 : T = l[i + 1].st := by rw [hT]; unfold toAt; rw [List.getElem?_eq_getElem h1]
            rw [← hT2] at p1
            clear p0 hT2 hT
            have i1 : ((i : Int) + 1).toNat = i + 1 := by omega
          case' neg =>
            have hT2 : T = en := by rw [hT]; unfold toAt; rw [List.getElem?_eq_none (by omega)]
            clear hT
            subst hT2
          all_goals
            generalize l[i] = p at *
            obtain ⟨ep, st⟩ := p
            simp only at q0 q1 hpl hlb
            obtain ⟨K, hK⟩ : ∃ K, K = lastK (·.st) st e e.length := ⟨_, rfl⟩
            rw [← hK] at hpl hlb
            have HK := Lib.hid hK
            have b2 := below_alloc wr (.cells #[.int .i64 ep, .int .i64 st] 46)
            have rowP := heap_alloc_new wr (.cells #[.int .i64 ep, .int .i64 st] 46)
            clear hx1 hK
            go_wp2_with fail
            refine (hpl _ (nxt hb b2)).mono ?_
            rintro r3 w3 ⟨rfl, b3⟩
            have B3 := nxt (nxt hb b2) b3
            have pc0 : w3.cell? ⟨wr.heap.size, 0, none⟩ = some (.int .i64 ep) := cell_of_row w3 _ 0 _ _ _ (heap_below b3 rowP)
            obtain ⟨ve, hLV⟩ := h.below B3
            have re := Rd.of_owns hLV.pairs
            obtain ⟨ae, ce, rfl⟩ := re.slice
            have c3 : w3.cell? ⟨g, 0, none⟩ = some (.slice ae e.length ce) := cell_of_row w3 g 0 _ _ _ hLV.row
            have me := re.len_le
            clear hpl hLV rowP
            by_cases hneg : K < 0
            · obtain rfl : K = -1 := by omega
              have HN := Lib.hid (HNO.out (OkAt.no_neg HK.out.symm))
              go_wp2_with fail
              go_quiet (fail)
              go_wp2_with fail
              go_ret
              exact HasPost.no HN.out (below_drewN B3 nq)
            · obtain ⟨k, rfl⟩ : ∃ k : Nat, K = (k : Int) := ⟨K.toNat, by omega⟩
              have hk : k < e.length := by omega
              obtain ⟨be, oe, rfl, _, _, hxe⟩ := re.at (show 0 < e.length by omega)
              obtain ⟨e0, _⟩ := pr_cells hxe k hk
              have HIFF := Lib.hid (OkAt.iff (p := ⟨ep, st⟩) (t := T) k hk HK.out.symm)
              generalize e[k].ep = xe at *
              have hd0 : decide ((k : Int) < 0) = false := decide_eq_false (by omega)
              by_cases hep : xe = ep
              · have n1 : (xe != ep) = false := by rw [hep]; simp
                have HEP := Lib.hid hep
                by_cases hk1 : k + 1 < e.length
                · obtain ⟨_, f1⟩ := pr_cells hxe (k + 1) hk1
                  have HZ := Lib.hid (show OkAt e ⟨ep, st⟩ T ↔ T ≤ e[k + 1].st from ⟨fun h5 => (HIFF.out.1 h5).2 hk1, fun h5 => HIFF.out.2 ⟨HEP.out, fun _ => h5⟩⟩)
                  generalize e[k + 1].st = z at *
                  have hd1' : decide ((k : Int) + 1 < (e.length : Int)) = true := decide_eq_true (by omega)
                  have k1 : ((k : Int) + 1).toNat = k + 1 := by omega
                  have hs2 : IntKind.i64.wrap ((k : Int) + 1) = (k : Int) + 1 := by rw [IntKind.wrap_i64]; omega
                  clear hxe hep
                  by_cases hz : z < T
                  · have hd2' : decide (z < T) = true := decide_eq_true hz
                    have HN := Lib.hid (HNO.out (fun h5 => by have := HZ.out.1 h5; omega))
                    go_wp2_with fail
                    go_quiet (fail)
                    go_wp2_with fail
                    go_ret
                    exact HasPost.no HN.out (below_drewN B3 nq)
                  · have hd2' : decide (z < T) = false := decide_eq_false hz
                    have HN := Lib.hid (HNX.out (HZ.out.2 (by omega)))
                    go_wp2_with fail
                    go_quiet (fail)
                    go_wp2_with fail
                    exact ⟨⟨i + 1, by omega, by go_num, HN.out, below_drewN B3 nq⟩, by simp [intOf]; omega⟩
                · have hd1' : decide ((k : Int) + 1 < (e.length : Int)) = false := decide_eq_false (by omega)
                  have hs2 : IntKind.i64.wrap ((k : Int) + 1) = (k : Int) + 1 := by rw [IntKind.wrap_i64]; omega
                  have HN := Lib.hid (HNX.out (HIFF.out.2 ⟨hep, fun h5 => absurd h5 hk1⟩))
                  clear hxe hep
                  go_wp2_with fail
                  go_quiet (fail)
                  go_wp2_with fail
                  exact ⟨⟨i + 1, by omega, by go_num, HN.out, below_drewN B3 nq⟩, by simp [intOf]; omega⟩
              · have n1 : (xe != ep) = true := by rw [bne_iff_ne]; exact hep
                have HN := Lib.hid (HNO.out (fun h5 => hep (HIFF.out.1 h5).1))
                clear hxe
                go_wp2_with fail
                go_quiet (fail)
                go_wp2_with fail
                go_ret
                exact HasPost.no HN.out (below_drewN B3 nq)
        · obtain rfl : i = l.length := by omega
          have HY := Lib.hid (show HasP e l en wh from ⟨HV.out, ⟨y, HGL.out, by omega⟩, by omega, fun j hj => HSS.out j hj hj⟩)
          go_wp2_with fail
          go_ret
          exact ⟨true, rfl, ⟨fun _ => HY.out, fun _ => rfl⟩, hb⟩
  · have HN := Lib.hid (show ¬ HasP e l en wh from fun h => hv h.1)
    go_wp2_with fail
    go_ret
    exact HasPost.no HN.out b1
end Go.Proofs.YtdlcpcpcojpecaaDoor
