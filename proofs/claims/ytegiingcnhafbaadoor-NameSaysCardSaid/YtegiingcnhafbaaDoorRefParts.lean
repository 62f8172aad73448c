/- The document's Parts: what an object's name says. -/
import Derived.Test.YtegiingcnhafbaaDoorRefNumber
import Derived.Test.YtegiingcnhafbaaDoorRefLog
namespace Go.Proofs.YtegiingcnhafbaaDoor
open Go Go.RowKit

/-- A text cut at the places of an object's name. -/
theorem cut_all (l : List UInt8) (m : Nat) (hm : l.length = m + 14) (h : 16 ≤ m) :
    l = l.take 4 ++ (l.drop 4).take 10 ++ [l[14]'(by omega)] ++ (l.drop 15).take (m - 15) ++ [l[m]'(by omega)] ++ l.drop (m + 1) := by
  have e1 : l.drop 14 = l[14]'(by omega) :: l.drop 15 := List.drop_eq_getElem_cons (by omega)
  have e2 : l.drop m = l[m]'(by omega) :: l.drop (m + 1) := List.drop_eq_getElem_cons (by omega)
  have e3 : (l.drop 15).drop (m - 15) = l.drop m := by rw [List.drop_drop]; congr 1; omega
  have e4 : (l.drop 4).drop 10 = l.drop 14 := by rw [List.drop_drop]
  conv => lhs; rw [← List.take_append_drop 4 l, ← List.take_append_drop 10 (l.drop 4), e4, e1, ← List.take_append_drop (m - 15) (l.drop 15), e3, e2]
  simp only [List.append_assoc, List.cons_append, List.nil_append]

theorem six_inj {a b k e a' b' k' e' : List UInt8} {c d c' d' : UInt8} (ha : a.length = a'.length) (hb : b.length = b'.length) (hk : k.length = k'.length)
    (h : a ++ b ++ [c] ++ k ++ [d] ++ e = a' ++ b' ++ [c'] ++ k' ++ [d'] ++ e') : a = a' ∧ b = b' ∧ c = c' ∧ k = k' ∧ d = d' ∧ e = e' := by
  have h1 := List.append_inj h (by simp only [List.length_append, List.length_cons, List.length_nil]; omega)
  have h2 := List.append_inj h1.1 (by simp only [List.length_append, List.length_cons, List.length_nil]; omega)
  have h3 := List.append_inj h2.1 (by simp only [List.length_append, List.length_cons, List.length_nil]; omega)
  have h4 := List.append_inj h3.1 (by simp only [List.length_append]; omega)
  have h5 := List.append_inj h4.1 ha
  exact ⟨h5.1, h5.2, List.singleton_inj.1 h4.2, h3.2, List.singleton_inj.1 h2.2, h1.2⟩
theorem obj_six (i a : Nat) (k : ByteArray) : objectL i k a = [115, 101, 103, 45] ++ wideL i 10 ++ [45] ++ k.data.toList ++ [45] ++ wideL a 13 := rfl

set_option maxRecDepth 100000 in
set_option maxHeartbeats 2000000 in
theorem refParts_is (s : ByteArray) (w : World) (hm : s.size ≤ 1000000) : Calls Tryd.prog 11 #[.string s] w (fun e w' => ∃ v, e = .returned v ∧ PartsIs s.data.toList v ∧ Below w.heap.size w w') := by
  obtain ⟨L, hL⟩ : ∃ L, L = s.data.toList := ⟨_, rfl⟩
  have hLs : L.length = s.size := by rw [hL, kind_len]
  rw [← hL]
  have HNN : Hid ((∀ i k a, ¬ IsObj L i k a) → PartsIs L (.tuple #[.int .i64 0, .string ⟨#[]⟩, .int .i64 0, .bool false])) := Lib.hid (fun h => .inr ⟨h, rfl⟩)
  have HLEN : Hid (∀ i k a, IsObj L i k a → L.length = 29 + k.size ∧ 1 ≤ k.size ∧ k.size ≤ 8) := Lib.hid (fun i k a ho => by
    have h1 := ho.2.1
    unfold kindOk at h1
    have h2 := of_decide_eq_true h1
    exact ⟨by rw [ho.2.2.2]; exact objectL_len i k a (by have := ho.1; omega) (by have := ho.2.2.1; omega), h2.1, h2.2.1⟩)
  by_cases t1 : s.size < 30
  case pos =>
    have t1' : decide ((s.size : Int) < 30) = true := decide_eq_true (by omega)
    have HN := Lib.hid (HNN.out (fun i k a ho => by have := HLEN.out i k a ho; omega))
    clear hL hLs t1 HNN HLEN
    go_enter Tryd.func11, Tryd.ntmps11
    go_wp2_with fail
    (try simp only [Exit.inBlock, Exit.then])
    refine bodyPost_ret (results_tmp4 rfl _ _ _) rfl ?_
    exact ⟨_, rfl, HN.out, Below.refl _ _⟩
  have t1' : decide ((s.size : Int) < 30) = false := decide_eq_false (by omega)
  by_cases t2 : 37 < s.size
  case pos =>
    have t2' : decide (37 < (s.size : Int)) = true := decide_eq_true (by omega)
    have HN := Lib.hid (HNN.out (fun i k a ho => by have := HLEN.out i k a ho; omega))
    clear hL hLs t1 t2 HNN HLEN
    go_enter Tryd.func11, Tryd.ntmps11
    go_wp2_with fail
    (try simp only [Exit.inBlock, Exit.then])
    refine bodyPost_ret (results_tmp4 rfl _ _ _) rfl ?_
    exact ⟨_, rfl, HN.out, Below.refl _ _⟩
  have t2' : decide (37 < (s.size : Int)) = false := decide_eq_false (by omega)
  have hsz4 : 4 ≤ s.size := by omega
  have hsz14 : 14 < s.size := by omega
  have hsz14' : 14 ≤ s.size := by omega
  obtain ⟨m, hm'⟩ : ∃ m : Nat, s.size = m + 14 := ⟨s.size - 14, by omega⟩
  have hm16 : 16 ≤ m ∧ m ≤ 23 := by omega
  have hms : m < s.size := by omega
  have hms' : m ≤ s.size := by omega
  obtain ⟨m1, hm1⟩ : ∃ m1, m1 = m + 1 := ⟨_, rfl⟩
  have hms1 : m1 ≤ s.size := by omega
  have hw14 : IntKind.i64.wrap ((s.size : Int) - 14) = (m : Int) := by rw [IntKind.wrap_i64]; omega
  have hw13 : IntKind.i64.wrap ((s.size : Int) - 13) = (m1 : Int) := by rw [IntKind.wrap_i64]; omega
  have hw14' : (s.size : Int) - 14 = (m : Int) := by omega
  have hw13' : (s.size : Int) - 13 = (m1 : Int) := by omega
  have hcut := cut_all L m (by omega) hm16.1
  have hLm : m < L.length := by omega
  have hL14 : 14 < L.length := by omega
  have z14 : L[14] = s[14] := by simp only [hL]; rw [Array.getElem_toList]; rfl
  have zm : L[m] = s[m] := by simp only [hL]; rw [Array.getElem_toList]; rfl
  rw [z14, zm] at hcut
  have ht3 := take_is s [115, 101, 103, 45] 4
  rw [← hL] at ht3
  have HO : Hid (∀ i k a, IsObj L i k a → L.take 4 = [115, 101, 103, 45] ∧ (L.drop 4).take 10 = wideL i 10 ∧ s[14] = 45 ∧ (L.drop 15).take (m - 15) = k.data.toList ∧ s[m] = 45 ∧ L.drop (m + 1) = wideL a 13) := Lib.hid (fun i k a ho => by
    have h1 := HLEN.out i k a ho
    have h2 := hcut.symm.trans (ho.2.2.2.trans (obj_six i a k))
    refine six_inj ?_ ?_ ?_ h2
    · rw [List.length_take]; simp; omega
    · rw [List.length_take, List.length_drop, wideL_len i 9 (by have := ho.1; omega)]; omega
    · rw [List.length_take, List.length_drop, kind_len]; omega)
  have r1 : (s.extract 4 14).data.toList = (L.drop 4).take 10 := by rw [hL, Lib.extract_data]
  have r3 : (s.extract m1 s.size).data.toList = L.drop (m + 1) := by rw [Lib.extract_to_end, ← hL, hm1]
  have rk : (s.extract 15 m).data.toList = (L.drop 15).take (m - 15) := by rw [hL, Lib.extract_data]
  have q1 : (s.extract 4 14).size = 10 := by rw [ByteArray.size_extract]; omega
  have q3 : (s.extract m1 s.size).size = 13 := by rw [ByteArray.size_extract]; omega
  have qk : (s.extract 15 m).size ≤ 1000000 := by rw [ByteArray.size_extract]; omega
  have n1 := fun W => refNumber_is (s.extract 4 14) W (by omega)
  have n3 := fun W => refNumber_is (s.extract m1 s.size) W (by omega)
  have nk := fun W => kindly_calls (s.extract 15 m) W qk
  obtain ⟨N1, hN1⟩ : ∃ N, N = numL (s.extract 4 14).data.toList := ⟨_, rfl⟩
  obtain ⟨N3, hN3⟩ : ∃ N, N = numL (s.extract m1 s.size).data.toList := ⟨_, rfl⟩
  obtain ⟨KO, hKO⟩ : ∃ N, N = kindOk (s.extract 15 m) := ⟨_, rfl⟩
  rw [← hN1] at n1
  rw [← hN3] at n3
  rw [← hKO] at nk
  have HF : Hid (∀ i k a, IsObj L i k a → N1 = some i ∧ N3 = some a ∧ s.extract 15 m = k ∧ KO = true) := Lib.hid (fun i k a ho => by
    obtain ⟨-, g1, -, g2, -, g3⟩ := HO.out i k a ho
    have gk : s.extract 15 m = k := ByteArray.ext (Array.ext' (by rw [rk]; exact g2))
    exact ⟨by rw [hN1, r1, g1, numL_wide], by rw [hN3, r3, g3, numL_wide], gk, by rw [hKO, gk]; exact ho.2.1⟩)
  have HY : Hid (L.take 4 = [115, 101, 103, 45] → s[14] = 45 → s[m] = 45 → ∀ i a, N1 = some i → N3 = some a → i ≤ 2147483647 → a ≤ 1099511627776 → KO = true → IsObj L i (s.extract 15 m) a) := Lib.hid (fun h1 h2 h3 i a g1 g3 hi ha hk => by
    refine ⟨hi, by rw [← hKO]; exact hk, ha, ?_⟩
    rw [hN1] at g1
    rw [hN3] at g3
    have y1 := ((numL_iff 9 i _ (by rw [kind_len]; exact q1)).1 g1).2
    have y3 := ((numL_iff 12 a _ (by rw [kind_len]; exact q3)).1 g3).2
    rw [obj_six, hcut, h1, h2, h3, ← r1, ← r3, ← rk, y1, y3])
  have GO : Hid (∀ i k a, IsObj L i k a → L.take 4 = [115, 101, 103, 45] ∧ s[14] = 45 ∧ s[m] = 45) := Lib.hid (fun i k a ho => by
    obtain ⟨g0, -, g1, -, g2, -⟩ := HO.out i k a ho
    exact ⟨g0, g1, g2⟩)
  have hK15 : 15 ≤ m := by omega
  have hm47 : m ≤ 1000000 := by omega
  clear hL hLs t1 t2 hm' hm16 hm1 hcut hLm hL14 z14 zm HO HLEN r1 r3 rk q1 q3 qk hN1 hN3 hKO
  by_cases t3 : L.take 4 = [115, 101, 103, 45]
  case neg =>
    have t3n : (!((s.extract 0 4).toList == ([115, 101, 103, 45] : List UInt8))) = true := by rw [ht3, decide_eq_false t3]; rfl
    have HN := Lib.hid (HNN.out (fun i k a ho => t3 (GO.out i k a ho).1))
    clear ht3 t3 HNN n1 n3 nk
    go_enter Tryd.func11, Tryd.ntmps11
    go_wp2_with fail
    (try simp only [Exit.inBlock, Exit.then])
    refine bodyPost_ret (results_tmp4 rfl _ _ _) rfl ?_
    exact ⟨_, rfl, HN.out, Below.refl _ _⟩
  have t3n : (!((s.extract 0 4).toList == ([115, 101, 103, 45] : List UInt8))) = false := by rw [ht3, decide_eq_true t3]; rfl
  have T3 := Lib.hid t3
  clear t3 ht3
  by_cases t4 : s[14] = 45
  case neg =>
    have t4n : (((s[14]).toNat : Int) != 45) = true := by
      rw [bne_iff_ne]
      intro h
      exact t4 (UInt8.toNat_inj.1 (by have : (45 : UInt8).toNat = 45 := rfl; omega))
    have HN := Lib.hid (HNN.out (fun i k a ho => t4 (GO.out i k a ho).2.1))
    clear t4 HNN n1 n3 nk
    go_enter Tryd.func11, Tryd.ntmps11
    go_wp2_with fail
    (try simp only [Exit.inBlock, Exit.then])
    refine bodyPost_ret (results_tmp4 rfl _ _ _) rfl ?_
    exact ⟨_, rfl, HN.out, Below.refl _ _⟩
  have t4n : (((s[14]).toNat : Int) != 45) = false := by rw [t4]; rfl
  have T4 := Lib.hid t4
  clear t4
  by_cases t5 : s[m] = 45
  case neg =>
    have t5n : (((s[m]).toNat : Int) != 45) = true := by
      rw [bne_iff_ne]
      intro h
      exact t5 (UInt8.toNat_inj.1 (by have : (45 : UInt8).toNat = 45 := rfl; omega))
    have HN := Lib.hid (HNN.out (fun i k a ho => t5 (GO.out i k a ho).2.2))
    clear t5 HNN n1 n3 nk
    go_enter Tryd.func11, Tryd.ntmps11
    go_wp2_with fail
    (try simp only [Exit.inBlock, Exit.then])
    refine bodyPost_ret (results_tmp4 rfl _ _ _) rfl ?_
    exact ⟨_, rfl, HN.out, Below.refl _ _⟩
  have t5n : (((s[m]).toNat : Int) != 45) = false := by rw [t5]; rfl
  have T5 := Lib.hid t5
  clear t5
  go_enter Tryd.func11, Tryd.ntmps11
  go_wp2_with fail
  with_reducible refine (n1 _).mono ?_
  rintro e w4 ⟨rfl, hw4⟩
  subst hw4
  clear n1
  cases N1 with
  | none =>
    unfold numV
    go_wp2_with fail
    with_reducible refine (n3 _).mono ?_
    rintro e w5 ⟨rfl, hw5⟩
    subst hw5
    clear n3 nk
    have HN := Lib.hid (HNN.out (fun i k a ho => by have := (HF.out i k a ho).1; cases this))
    cases N3
    all_goals
      unfold numV
      go_wp2_with fail
      (try simp only [Exit.inBlock, Exit.then])
      refine bodyPost_ret (results_tmp4 rfl _ _ _) rfl ?_
      exact ⟨_, rfl, HN.out, Below.refl _ _⟩
  | some i =>
    unfold numV
    go_wp2_with fail
    with_reducible refine (n3 _).mono ?_
    rintro e w5 ⟨rfl, hw5⟩
    subst hw5
    clear n3
    cases N3 with
    | none =>
      unfold numV
      have HN := Lib.hid (HNN.out (fun i k a ho => by have := (HF.out i k a ho).2.1; cases this))
      clear nk
      go_wp2_with fail
      (try simp only [Exit.inBlock, Exit.then])
      refine bodyPost_ret (results_tmp4 rfl _ _ _) rfl ?_
      exact ⟨_, rfl, HN.out, Below.refl _ _⟩
    | some a =>
      unfold numV
      by_cases hi : i ≤ 2147483647
      case neg =>
        have hi' : decide ((2147483647 : Int) < (i : Int)) = true := decide_eq_true (by omega)
        have HN := Lib.hid (HNN.out (fun j k a ho => by have := (HF.out j k a ho).1; simp only [Option.some.injEq] at this; have := ho.1; omega))
        clear hi nk
        go_wp2_with fail
        (try simp only [Exit.inBlock, Exit.then])
        refine bodyPost_ret (results_tmp4 rfl _ _ _) rfl ?_
        exact ⟨_, rfl, HN.out, Below.refl _ _⟩
      have hi' : decide ((2147483647 : Int) < (i : Int)) = false := decide_eq_false (by omega)
      have hr := refRightN_calls (a : Int) w5
      obtain ⟨O, hO⟩ : ∃ O, O = offOk (a : Int) := ⟨_, rfl⟩
      rw [← hO] at hr
      have HOO := Lib.hid hO
      have HI := Lib.hid hi
      clear hO hi
      go_wp2_with fail
      with_reducible refine hr.mono ?_
      rintro e w6 ⟨rfl, hw6⟩
      subst hw6
      clear hr
      cases O
      · have HN := Lib.hid (HNN.out (fun j k b ho => by
          have := (HF.out j k b ho).2.1
          simp only [Option.some.injEq] at this
          have h1 := ho.2.2.1
          have h2 := HOO.out
          unfold offOk at h2
          exact of_decide_eq_false h2.symm (by omega)))
        clear nk
        go_wp2_with fail
        (try simp only [Exit.inBlock, Exit.then])
        refine bodyPost_ret (results_tmp4 rfl _ _ _) rfl ?_
        exact ⟨_, rfl, HN.out, Below.refl _ _⟩
      have ha : a ≤ 1099511627776 := by
        have h2 := HOO.out
        unfold offOk at h2
        have := of_decide_eq_true h2.symm
        omega
      have HA := Lib.hid ha
      clear ha
      go_wp2_with fail
      with_reducible refine (nk _).mono ?_
      rintro e w7 ⟨rfl, b7⟩
      clear nk
      cases KO
      · have HN := Lib.hid (HNN.out (fun j k b ho => by have := (HF.out j k b ho).2.2.2; cases this))
        go_wp2_with fail
        (try simp only [Exit.inBlock, Exit.then])
        refine bodyPost_ret (results_tmp4 rfl _ _ _) rfl ?_
        exact ⟨_, rfl, HN.out, b7⟩
      · have HYY := Lib.hid (show PartsIs L (.tuple #[.int .i64 (i : Nat), .string (s.extract 15 m), .int .i64 (a : Nat), .bool true]) from .inl ⟨i, s.extract 15 m, a, HY.out T3.out T4.out T5.out i a rfl rfl HI.out HA.out rfl, rfl⟩)
        go_wp2_with fail
        (try simp only [Exit.inBlock, Exit.then])
        refine bodyPost_ret (results_tmp4 rfl _ _ _) rfl ?_
        exact ⟨_, rfl, HYY.out, b7⟩
end Go.Proofs.YtegiingcnhafbaaDoor
