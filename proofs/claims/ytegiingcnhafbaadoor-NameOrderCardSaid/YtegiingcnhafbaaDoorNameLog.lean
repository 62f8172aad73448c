/- name.Segment, name.Base: a segment's name, and what it says. -/
import Derived.Test.YtegiingcnhafbaaDoorNameNum
import Derived.Shelf.Strings.Prefix
namespace Go.Proofs.YtegiingcnhafbaaDoor
open Go Go.Shelf Go.RowKit

shelf_lay Lays.n99 Nm 99 at Tryd as laysPre

theorem pre_le {l p : List UInt8} (h : Lib.hasPrefix l p = true) : p.length ≤ l.length := by
  unfold Lib.hasPrefix at h
  exact (List.isPrefixOf_iff_prefix.1 h).length_le
def kLog : List UInt8 := [108, 111, 103, 45]
theorem hasPre_calls (s p : ByteArray) (w : World) : Calls Tryd.prog 35 #[.string s, .string p] w (fun e w' => e = .returned (.bool (Lib.hasPrefix s.data.toList p.data.toList)) ∧ w' = w) :=
  Any.strings_HasPrefix laysPre s p w
theorem hasPreL_calls (s p : ByteArray) (w : World) : Calls Tryd.prog 43 #[.string s, .string p] w (fun e w' => e = .returned (.bool (Lib.hasPrefix s.data.toList p.data.toList)) ∧ w' = w) :=
  Any.stringslite_HasPrefix { laysPre with } s p w

set_option maxRecDepth 100000 in
set_option maxHeartbeats 1000000 in
theorem cutPreL_calls (s p : ByteArray) (w : World) : Calls Tryd.prog 39 #[.string s, .string p] w (fun e w' => e = .returned (.tuple #[.string (if Lib.hasPrefix s.data.toList p.data.toList = true then s.extract p.size s.size else s), .bool (Lib.hasPrefix s.data.toList p.data.toList)]) ∧ w' = w) := by
  have hh := fun W => hasPreL_calls s p W
  obtain ⟨B, hB⟩ : ∃ B, B = Lib.hasPrefix s.data.toList p.data.toList := ⟨_, rfl⟩
  have HL : Hid (B = true → p.size ≤ s.size) := Lib.hid (fun h => by
    rw [hB] at h
    have := pre_le h
    rw [Array.length_toList, Array.length_toList] at this
    exact this)
  rw [← hB] at hh ⊢
  clear hB
  go_enter Tryd.func39, Tryd.ntmps39
  go_wp2_with fail
  with_reducible refine (hh _).mono ?_
  rintro e w2 ⟨rfl, hw2⟩
  subst hw2
  clear hh
  cases B
  · go_wp2_with fail
    go_ret2
    exact ⟨rfl, rfl⟩
  · have hle := HL.out rfl
    go_wp2_with fail
    go_ret2
    exact ⟨rfl, rfl⟩

set_option maxRecDepth 100000 in
theorem cutPre_calls (s p : ByteArray) (w : World) : Calls Tryd.prog 24 #[.string s, .string p] w (fun e w' => e = .returned (.tuple #[.string (if Lib.hasPrefix s.data.toList p.data.toList = true then s.extract p.size s.size else s), .bool (Lib.hasPrefix s.data.toList p.data.toList)]) ∧ w' = w) := by
  have hh := cutPreL_calls s p w
  generalize (if Lib.hasPrefix s.data.toList p.data.toList = true then s.extract p.size s.size else s) = R at hh ⊢
  generalize Lib.hasPrefix s.data.toList p.data.toList = B at hh ⊢
  go_enter Tryd.func24, Tryd.ntmps24
  go_wp2_with fail
  with_reducible refine hh.mono ?_
  rintro e w2 ⟨rfl, hw2⟩
  subst hw2
  go_wp2_with fail
  go_ret2
  exact ⟨rfl, rfl⟩

set_option maxRecDepth 100000 in
set_option maxHeartbeats 1000000 in
theorem segment_calls (base : Int) (w : World) (ht : Tens w) :
    Calls Tryd.prog 14 #[.int .i64 base] w (fun e w' => e = .returned (.string (segO base)) ∧ Below w.heap.size w w') := by
  have hr := right_calls base w
  obtain ⟨O, hO⟩ : ∃ O, O = offOk base := ⟨_, rfl⟩
  have HS : Hid (segO base = if O = true then ⟨(segL base.toNat).toArray⟩ else ⟨#[]⟩) := Lib.hid (by rw [hO]; rfl)
  have HO := Lib.hid hO
  rw [← hO] at hr
  clear hO
  generalize segO base = R at HS ⊢
  go_enter Tryd.func14, Tryd.ntmps14
  go_wp2_with fail
  with_reducible refine hr.mono ?_
  rintro e w2 ⟨rfl, hw2⟩
  subst hw2
  clear hr
  cases O
  · go_wp2_with fail
    go_ret
    exact ⟨by rw [HS.out]; rfl, Below.refl _ _⟩
  have ho := HO.out.symm
  unfold offOk at ho
  rw [decide_eq_true_eq] at ho
  obtain ⟨b, rfl⟩ : ∃ b : Nat, base = (b : Int) := ⟨base.toNat, by omega⟩
  have hw1 := wide_calls b 13 (by omega) (by omega) w2 ht
  have l2 := wideL_len b 12 (by omega)
  have HE : Hid (R = ⟨([108, 111, 103, 45] ++ wideL b 13).toArray⟩) := Lib.hid (by rw [HS.out, if_pos rfl]; rfl)
  generalize wideL b 13 = W1 at *
  clear ho
  go_wp2_with fail
  refine hw1.mono ?_
  rintro e w4 ⟨rfl, b4⟩
  clear hw1
  go_wp2_with fail
  go_ret
  refine ⟨?_, b4⟩
  rw [HE.out]
  refine congrArg (fun x => Ending.returned (.string x)) ?_
  apply ByteArray.ext
  simp [ByteArray.data_append]

theorem log_pre (r : List UInt8) : Lib.hasPrefix (kLog ++ r) kLog = true := by
  unfold Lib.hasPrefix kLog
  simp
theorem log_rest {l : List UInt8} (h : Lib.hasPrefix l kLog = true) : l = kLog ++ l.drop 4 := by
  unfold Lib.hasPrefix at h
  obtain ⟨t, rfl⟩ := List.isPrefixOf_iff_prefix.1 h
  rfl

set_option maxRecDepth 100000 in
set_option maxHeartbeats 1000000 in
theorem base_is (s : ByteArray) (w : World) (hm : s.size ≤ 1000000) : Calls Tryd.prog 8 #[.string s] w (fun e w' => ∃ v, e = .returned v ∧ BaseIs s.data.toList v ∧ w' = w) := by
  have hc := cutPre_calls s ⟨#[108, 111, 103, 45]⟩ w
  rw [show (⟨#[108, 111, 103, 45]⟩ : ByteArray).data.toList = kLog from rfl] at hc
  obtain ⟨L, hL⟩ : ∃ L, L = s.data.toList := ⟨_, rfl⟩
  have hLs : L.length = s.size := by rw [hL, kind_len]
  obtain ⟨B, hB⟩ : ∃ B, B = Lib.hasPrefix s.data.toList kLog := ⟨_, rfl⟩
  obtain ⟨R, hR⟩ : ∃ R, R = (if Lib.hasPrefix s.data.toList kLog = true then s.extract (⟨#[108, 111, 103, 45]⟩ : ByteArray).size s.size else s) := ⟨_, rfl⟩
  rw [← hR, ← hB] at hc
  rw [← hL]
  have hRl : B = true → R.data.toList = L.drop 4 := fun h => by
    rw [hR, ← hB, if_pos h, Lib.extract_to_end, ← hL]; rfl
  have hRs : R.size ≤ 1000000 := by
    rw [hR]
    split
    · rw [ByteArray.size_extract]; omega
    · exact hm
  have hnum := number_is R 13 w hRs (by omega)
  obtain ⟨N, hN⟩ : ∃ N, N = (if R.size = 13 then numL R.data.toList else none) := ⟨_, rfl⟩
  rw [← hN] at hnum
  have HNO : Hid (B = false ∨ N = none → BaseIs L (.tuple #[.int .i64 0, .bool false])) := Lib.hid (fun h => .inr ⟨fun n hn e => by
    have hp : B = true := by rw [hB, ← hL, e]; exact log_pre _
    rcases h with h | h
    · rw [hp] at h; cases h
    · have e1 := hRl hp
      have e2 : L.drop 4 = wideL n 13 := by rw [e]; rfl
      rw [e2] at e1
      have e3 : R.size = 13 := by rw [← kind_len, e1]; exact wideL_len n 12 (by omega)
      rw [hN, if_pos e3, e1, numL_wide] at h
      exact absurd h (by simp), rfl⟩)
  have HYES : Hid (∀ n, B = true → N = some n → offOk (n : Int) = true → BaseIs L (.tuple #[.int .i64 (n : Int), .bool true])) := Lib.hid (fun n hp hn ho => by
    unfold offOk at ho
    rw [decide_eq_true_eq] at ho
    rw [hN] at hn
    split at hn
    · next h13 =>
      have e1 := hRl hp
      have := (numL_iff 12 n R.data.toList (by rw [kind_len]; exact h13)).1 hn
      refine .inl ⟨n, by omega, ?_, rfl⟩
      rw [log_rest (l := L) (by rw [hL, ← hB]; exact hp), ← e1, this.2]; rfl
    · cases hn)
  have HBIG : Hid (∀ n, N = some n → offOk (n : Int) = false → BaseIs L (.tuple #[.int .i64 0, .bool false])) := Lib.hid (fun n hn ho => .inr ⟨fun m hm e => by
    have hp : B = true := by rw [hB, ← hL, e]; exact log_pre _
    have e1 := hRl hp
    have e2 : L.drop 4 = wideL m 13 := by rw [e]; rfl
    rw [e2] at e1
    have e3 : R.size = 13 := by rw [← kind_len, e1]; exact wideL_len m 12 (by omega)
    rw [hN, if_pos e3, e1, numL_wide] at hn
    simp only [Option.some.injEq] at hn
    subst hn
    unfold offOk at ho
    exact of_decide_eq_false ho (by omega), rfl⟩)
  clear hL hLs hB hR hRl hN
  go_enter Tryd.func8, Tryd.ntmps8
  go_wp2_with fail
  with_reducible refine hc.mono ?_
  rintro e w2 ⟨rfl, hw2⟩
  subst hw2
  clear hc
  go_wp2_with fail
  refine hnum.mono ?_
  rintro e w3 ⟨rfl, hw3⟩
  subst hw3
  clear hnum
  cases N with
  | none =>
    unfold numV
    cases B
    all_goals
      go_wp2_with fail
      go_ret2
      exact ⟨_, rfl, HNO.out (.inr (by first | rfl | trivial)), rfl⟩
  | some n =>
    unfold numV
    cases B
    · go_wp2_with fail
      go_ret2
      exact ⟨_, rfl, HNO.out (.inl (by first | rfl | trivial)), rfl⟩
    · have hr := right_calls (n : Int) w3
      obtain ⟨O, hO⟩ : ∃ O, O = offOk (n : Int) := ⟨_, rfl⟩
      rw [← hO] at hr
      have HO := Lib.hid hO
      clear hO
      go_wp2_with fail
      with_reducible refine hr.mono ?_
      rintro e w4 ⟨rfl, hw4⟩
      subst hw4
      clear hr
      cases O
      · go_wp2_with fail
        go_ret2
        exact ⟨_, rfl, HBIG.out n (by first | rfl | trivial) HO.out.symm, rfl⟩
      · go_wp2_with fail
        go_ret2
        exact ⟨_, rfl, HYES.out n (by first | rfl | trivial) (by first | rfl | trivial) HO.out.symm, rfl⟩
end Go.Proofs.YtegiingcnhafbaaDoor
