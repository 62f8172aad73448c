/- Plain: batches' bytes, with something behind, cut off, turned; one behind the other. No program in sight. -/
import Derived.Test.YtlfbdcgojbfcaaaDoorRecMath
namespace Go.Proofs.YtlfbdcgojbfcaaaDoor.Rec
open Vint

theorem recL_len (last : Int) (r : RecD) (hl : -1099511627776 ≤ last ∧ last ≤ 1099511627776) (hr : recOk r = true) : (recL last r).length ≤ 606 := by
  unfold recOk at hr
  rw [decide_eq_true_eq] at hr
  unfold recL
  simp only [List.length_append]
  have h1 := putL_len10 (fold (r.time - last)) (fold_lt _ (by omega) (by omega))
  have h2 := putL_len10 r.key.length (by omega)
  have h3 := putL_len10 r.val.length (by omega)
  omega
theorem recsL_len : ∀ (l : List RecD) (last : Int), (-1099511627776 ≤ last ∧ last ≤ 1099511627776) → l.all recOk = true → (recsL last l).length ≤ 606 * l.length := by
  intro l
  induction l with
  | nil => intro last _ _; simp [recsL]
  | cons r l ih =>
    intro last hl hr
    simp only [List.all_cons, Bool.and_eq_true] at hr
    have hr1 := hr.1
    unfold recOk at hr1
    rw [decide_eq_true_eq] at hr1
    have h1 := ih r.time ⟨hr1.1, hr1.2.1⟩ hr.2
    have h2 := recL_len last r hl hr.1
    rw [recsL, List.length_append, List.length_cons]
    omega
theorem body_len {b : BatD} (hv : valid b = 0) : 14 < (bodyL b).length ∧ (bodyL b).length ≤ 40000 := by
  obtain ⟨h1, h2, h3⟩ := (valid_iff b).1 hv
  have hf := first_bd hv
  unfold bodyL
  simp only [List.length_append, lit_length]
  have h4 := putL_len10 (fold (first b)) (fold_lt _ (by omega) (by omega))
  have h5 := putL_pos (fold (first b))
  have h6 := recsL_len b.recs (first b) hf h3
  omega
theorem bytes_len (b : BatD) : (bytesL b).length = 8 + (bodyL b).length := by
  unfold bytesL
  simp only [List.length_append, lit_length]
  omega

/-- The parts of bytes that begin with a head. -/
theorem head_parts {l h c z : List UInt8} (hl : l = h ++ (c ++ z)) (hh : h.length = 4) (hc : c.length = 4) : l.take 4 = h ∧ (l.drop 4).take 4 = c ∧ l.drop 8 = z ∧ l.length = 8 + z.length := by
  subst hl
  refine ⟨List.take_left' hh, ?_, ?_, by simp [hh, hc]; omega⟩
  · rw [List.drop_left' hh, List.take_left' hc]
  · rw [show 8 = 4 + 4 by omega, ← List.drop_drop, List.drop_left' hh, List.drop_left' hc]

theorem sum_lt (l : List UInt8) : (Crc.sum l).toNat < 256 ^ 4 := by have := (Crc.sum l).isLt; omega

theorem readB_put {b : BatD} (hv : valid b = 0) (z : List UInt8) : readB (bytesL b ++ z) = (0, b, (bytesL b).length) := by
  have hb := body_len hv
  obtain ⟨h1, h2, h3, h4⟩ := head_parts (l := bytesL b ++ z) (h := lit (bodyL b).length 4) (c := lit (Crc.sum (bodyL b)).toNat 4) (z := bodyL b ++ z) (by simp [bytesL]) (lit_length _ _) (lit_length _ _)
  have hn : little (lit (bodyL b).length 4) = (bodyL b).length := little_lit 4 _ (by omega)
  unfold readB
  rw [h1, h2, h3, h4, hn, List.length_append, List.take_left' rfl, little_lit 4 _ (sum_lt _), specIn_some.2 ⟨hv, rfl⟩, if_neg (by omega), if_neg (by omega), if_neg (by omega), if_neg (by simp), bytes_len]

theorem readB_cut {b : BatD} (hv : valid b = 0) (k : Nat) (hk : k < (bytesL b).length) : readB ((bytesL b).take k) = (101, b0, 0) := by
  have hb := body_len hv
  rw [bytes_len] at hk
  unfold readB
  rw [List.length_take, bytes_len]
  by_cases h8 : k < 8
  · rw [if_pos (by omega)]
  · rw [if_neg (by omega)]
    obtain ⟨h1, _⟩ := head_parts (l := bytesL b) (h := lit (bodyL b).length 4) (c := lit (Crc.sum (bodyL b)).toNat 4) (z := bodyL b) rfl (lit_length _ _) (lit_length _ _)
    rw [List.take_take, show min 4 k = 4 by omega, h1, little_lit 4 _ (by omega), if_neg (by omega), if_pos (by omega)]

theorem readB_turned {b : BatD} (hv : valid b = 0) {d : UInt8} (hd : d ≠ 0) (z : List UInt8) (j : Nat) (h4 : 4 ≤ j) (hj : j < (bytesL b).length) (y : UInt8) (hy : (bytesL b ++ z)[j]? = some y) : readB ((bytesL b ++ z).set j (y ^^^ d)) = (102, b0, 0) := by
  have hb := body_len hv
  rw [bytes_len] at hj
  have hn : little (lit (bodyL b).length 4) = (bodyL b).length := little_lit 4 _ (by omega)
  have hl : bytesL b ++ z = lit (bodyL b).length 4 ++ (lit (Crc.sum (bodyL b)).toNat 4 ++ (bodyL b ++ z)) := by simp [bytesL]
  have hh := lit_length 4 (bodyL b).length
  have hc := lit_length 4 (Crc.sum (bodyL b)).toNat
  rw [hl] at hy ⊢
  generalize lit (bodyL b).length 4 = h at *
  generalize hcc : lit (Crc.sum (bodyL b)).toNat 4 = c at *
  rw [List.getElem?_append_right (by omega), hh] at hy
  rw [List.set_append_right _ _ (by omega), hh]
  by_cases h8 : j < 8
  · rw [List.getElem?_append_left (by omega)] at hy
    rw [List.set_append_left _ _ (by omega)]
    obtain ⟨e1, e2, e3, e4⟩ := head_parts (l := h ++ (c.set (j - 4) (y ^^^ d) ++ (bodyL b ++ z))) rfl hh (by rw [List.length_set]; exact hc)
    unfold readB
    rw [e1, e2, e3, e4, hn, List.length_append, List.take_left' rfl, if_neg (by omega), if_neg (by omega), if_neg (by omega), if_pos]
    intro he
    have h5 : c.set (j - 4) (y ^^^ d) = c := by
      have h6 := lit_little (c.set (j - 4) (y ^^^ d))
      rw [he, List.length_set, hc, hcc] at h6
      exact h6.symm
    have h7 : (c.set (j - 4) (y ^^^ d))[j - 4]? = c[j - 4]? := by rw [h5]
    rw [List.getElem?_set_self (by omega), hy] at h7
    have h9 := Option.some.inj h7
    exact hd (by
      have : y ^^^ (y ^^^ d) = y ^^^ y := by rw [h9]
      rwa [← UInt8.xor_assoc, UInt8.xor_self, UInt8.zero_xor] at this)
  · rw [List.getElem?_append_right (by omega), hc, List.getElem?_append_left (by omega)] at hy
    rw [List.set_append_right _ _ (by omega), hc, List.set_append_left _ _ (by omega)]
    obtain ⟨e1, e2, e3, e4⟩ := head_parts (l := h ++ (c ++ ((bodyL b).set (j - 4 - 4) (y ^^^ d) ++ z))) rfl hh hc
    unfold readB
    have hjl : j - 4 - 4 < (bodyL b).length := by omega
    have hyv : (bodyL b)[j - 4 - 4] = y := by rw [List.getElem?_eq_getElem hjl] at hy; exact Option.some.inj hy
    rw [e1, e2, e3, e4, hn, List.length_append, List.length_set, List.take_left' (by rw [List.length_set]), if_neg (by omega), if_neg (by omega), if_neg (by omega), if_pos]
    intro he
    rw [← hcc, little_lit 4 _ (sum_lt _)] at he
    rw [← hyv] at he
    exact Crc.sum_turned_ne hd (bodyL b) (j - 4 - 4) hjl (BitVec.eq_of_toNat_eq he).symm

/-! ### One behind the other -/

theorem allB_nil (f : Nat) : allB f [] = ([], 0, 0) := by
  cases f with
  | zero => rfl
  | succ f => rfl

theorem allB_put {b : BatD} (hv : valid b = 0) (f : Nat) (z : List UInt8) : allB (f + 1) (bytesL b ++ z) = (b :: (allB f z).1, (bytesL b).length + (allB f z).2.1, (allB f z).2.2) := by
  have hl := bytes_len b
  conv => lhs; unfold allB
  rw [if_neg (by rw [List.length_append]; omega), readB_put hv z, if_neg (by simp)]
  simp only
  rw [List.drop_left' rfl]

theorem allB_bad {l : List UInt8} {c : Nat} (f : Nat) (hl : l.length ≠ 0) (hc : c ≠ 0) (h : readB l = (c, b0, 0)) : allB (f + 1) l = ([], 0, c) := by
  unfold allB
  rw [if_neg hl, h, if_pos hc]

def lens (bs : List BatD) : Nat := (bs.flatMap bytesL).length
theorem lens_cons (b : BatD) (bs : List BatD) : lens (b :: bs) = (bytesL b).length + lens bs := by unfold lens; rw [List.flatMap_cons, List.length_append]

/-- Batches one behind the other, then what is no batch. -/
theorem allB_rows : ∀ (bs : List BatD) (f : Nat) (z : List UInt8), (∀ b ∈ bs, valid b = 0) → allB (bs.length + f) (bs.flatMap bytesL ++ z) = (bs ++ (allB f z).1, lens bs + (allB f z).2.1, (allB f z).2.2) := by
  intro bs
  induction bs with
  | nil => intro f z _; simp [lens]
  | cons b bs ih =>
    intro f z h
    rw [List.flatMap_cons, List.append_assoc, List.length_cons, show bs.length + 1 + f = (bs.length + f) + 1 by omega, allB_put (h b List.mem_cons_self), ih f z (fun x hx => h x (List.mem_cons_of_mem _ hx)), lens_cons]
    simp [Nat.add_assoc]

/-- More fuel than bytes changes nothing. -/
theorem allB_fuel : ∀ (f : Nat) (l : List UInt8), l.length ≤ f → ∀ g, l.length ≤ g → allB f l = allB g l := by
  intro f
  induction f with
  | zero =>
    intro l hl g _
    obtain rfl := List.eq_nil_of_length_eq_zero (Nat.le_zero.1 hl)
    rw [allB_nil, allB_nil]
  | succ f ih =>
    intro l hl g hg
    cases g with
    | zero =>
      obtain rfl := List.eq_nil_of_length_eq_zero (Nat.le_zero.1 hg)
      rw [allB_nil, allB_nil]
    | succ g =>
      unfold allB
      split
      · rfl
      · split
        · rfl
        · rename_i h1 h2
          have hn := readB_n (Classical.byContradiction h2)
          rw [ih (l.drop (readB l).2.2) (by rw [List.length_drop]; omega) g (by rw [List.length_drop]; omega)]

/-- How many whole batches lie ahead of a cut. -/
def wantN : Nat → List BatD → Nat
  | _, [] => 0
  | k, b :: bs => if (bytesL b).length ≤ k then wantN (k - (bytesL b).length) bs + 1 else 0

theorem allB_cut : ∀ (bs : List BatD) (k f : Nat), (∀ b ∈ bs, valid b = 0) → k ≤ lens bs → bs.length < f →
    allB f ((bs.flatMap bytesL).take k) = (bs.take (wantN k bs), lens (bs.take (wantN k bs)), if lens (bs.take (wantN k bs)) = k then 0 else 101) := by
  intro bs
  induction bs with
  | nil =>
    intro k f _ hk _
    have : k = 0 := Nat.le_zero.1 hk
    subst this
    simp only [List.flatMap_nil, List.take_nil, wantN]
    rw [allB_nil]
    rfl
  | cons b bs ih =>
    intro k f h hk hf
    obtain ⟨f, rfl⟩ : ∃ g, f = g + 1 := ⟨f - 1, by omega⟩
    rw [lens_cons] at hk
    rw [List.flatMap_cons]
    have hb := h b List.mem_cons_self
    unfold wantN
    by_cases hle : (bytesL b).length ≤ k
    · rw [if_pos hle, List.take_append, List.take_of_length_le hle, allB_put hb, ih _ f (fun x hx => h x (List.mem_cons_of_mem _ hx)) (by omega) (by simpa using hf), List.take_succ_cons, lens_cons]
      simp only
      congr 2
      by_cases he : lens (bs.take (wantN (k - (bytesL b).length) bs)) = k - (bytesL b).length
      · rw [if_pos he, if_pos (by omega)]
      · rw [if_neg he, if_neg (by omega)]
    · rw [if_neg hle, List.take_append_of_le_length (by omega), List.take_zero]
      by_cases h0 : k = 0
      · subst h0
        rw [List.take_zero, allB_nil]
        rfl
      · rw [allB_bad f (by rw [List.length_take]; omega) (by decide) (readB_cut hb k (by omega)), if_neg (by simp [lens]; omega)]
        rfl

theorem allB_spoilt (bs : List BatD) (k i f : Nat) (hk : k < bs.length) (h : ∀ b ∈ bs, valid b = 0) {d : UInt8} (hd : d ≠ 0) (h4 : lens (bs.take k) + 4 ≤ i) (hi : i < lens (bs.take (k + 1))) (hf : bs.length < f) (y : UInt8) (hy : (bs.flatMap bytesL)[i]? = some y) :
    allB f ((bs.flatMap bytesL).set i (y ^^^ d)) = (bs.take k, lens (bs.take k), 102) := by
  have hs : bs = bs.take k ++ bs[k] :: bs.drop (k + 1) := by rw [List.getElem_cons_drop, List.take_append_drop]
  have hl1 : lens (bs.take (k + 1)) = lens (bs.take k) + (bytesL bs[k]).length := by
    rw [List.take_succ_eq_append_getElem hk]; unfold lens; rw [List.flatMap_append, List.length_append, List.flatMap_cons, List.flatMap_nil, List.append_nil]
  have hb := h bs[k] (List.getElem_mem hk)
  have hfl : bs.flatMap bytesL = (bs.take k).flatMap bytesL ++ (bytesL bs[k] ++ (bs.drop (k + 1)).flatMap bytesL) := by
    conv => lhs; rw [hs]
    rw [List.flatMap_append, List.flatMap_cons]
  have hlen : ((bs.take k).flatMap bytesL).length = lens (bs.take k) := rfl
  rw [hfl] at hy ⊢
  rw [List.getElem?_append_right (by omega), hlen] at hy
  rw [List.set_append_right _ _ (by omega), hlen]
  have hr := readB_turned hb hd ((bs.drop (k + 1)).flatMap bytesL) (i - lens (bs.take k)) (by omega) (by omega) y hy
  obtain ⟨g, rfl⟩ : ∃ g, f = (bs.take k).length + (g + 1) := ⟨f - k - 1, by rw [List.length_take]; omega⟩
  rw [allB_rows (bs.take k) (g + 1) _ (fun b hb => h b (List.mem_of_mem_take hb)), allB_bad g (by rw [List.length_set, List.length_append, bytes_len]; omega) (by decide) hr]
  simp
end Go.Proofs.YtlfbdcgojbfcaaaDoor.Rec
