/- Plain facts on the sums (CRC-32C): one bit's step, its linearity, what a turned bit does. No program in sight. -/
namespace Go.Proofs.YtegiingcnhafbaaGreatDoor.Crc

def poly : BitVec 32 := 0x82f63b78#32

/-- One bit: the state goes on by a nought. -/
def st (x : BitVec 32) : BitVec 32 := (x >>> 1) ^^^ (if x.getLsbD 0 then poly else 0#32)

theorem st_xor (a b : BitVec 32) : st (a ^^^ b) = st a ^^^ st b := by
  unfold st
  rw [BitVec.ushiftRight_xor_distrib, BitVec.getLsbD_xor]
  generalize a >>> 1 = p
  generalize b >>> 1 = q
  cases a.getLsbD 0 <;> cases b.getLsbD 0 <;> simp only [Bool.xor_false, Bool.xor_true, Bool.not_true, Bool.not_false, if_true, if_false, Bool.false_eq_true, BitVec.xor_zero] 
  · rw [BitVec.xor_assoc]
  · rw [BitVec.xor_assoc, BitVec.xor_assoc, BitVec.xor_comm q poly]
  · rw [BitVec.xor_assoc, ← BitVec.xor_assoc poly, BitVec.xor_comm poly q, BitVec.xor_assoc q, BitVec.xor_self, BitVec.xor_zero]

theorem st_zero : st 0#32 = 0#32 := by decide

def stn : Nat → BitVec 32 → BitVec 32
  | 0, x => x
  | k + 1, x => stn k (st x)

theorem stn_xor (k : Nat) : ∀ a b, stn k (a ^^^ b) = stn k a ^^^ stn k b := by
  induction k with
  | zero => intro a b; rfl
  | succ k ih => intro a b; simp only [stn]; rw [st_xor, ih]

theorem stn_add (j k : Nat) : ∀ x, stn (j + k) x = stn k (stn j x) := by
  induction j with
  | zero => intro x; simp [stn]
  | succ j ih => intro x; rw [show j + 1 + k = (j + k) + 1 by omega]; simp only [stn]; exact ih _

theorem stn_succ (j : Nat) (x : BitVec 32) : stn (j + 1) x = st (stn j x) := by rw [stn_add]; rfl

theorem stn_zero (k : Nat) : stn k 0#32 = 0#32 := by
  induction k with
  | zero => rfl
  | succ k ih => simp only [stn]; rw [st_zero, ih]

/-- Nothing but nothing comes to nothing. -/
theorem st_inj0 (x : BitVec 32) (h : st x = 0#32) : x = 0#32 := by
  unfold st at h
  cases hb : x.getLsbD 0 with
  | false =>
    rw [hb] at h
    simp only [Bool.false_eq_true, if_false, BitVec.xor_zero] at h
    apply BitVec.eq_of_getLsbD_eq
    intro i hi
    rcases i with _ | i
    · rw [hb]; simp
    · have := congrArg (fun y => BitVec.getLsbD y i) h
      simp only [BitVec.getLsbD_ushiftRight, BitVec.getLsbD_zero] at this
      rw [Nat.add_comm i 1, this]; simp
  | true =>
    rw [hb] at h
    simp only [if_true] at h
    have := congrArg (fun y => BitVec.getLsbD y 31) h
    rw [BitVec.getLsbD_xor, BitVec.getLsbD_ushiftRight] at this
    have hp : poly.getLsbD 31 = true := by decide
    rw [hp, BitVec.getLsbD_of_ge x (1 + 31) (by omega)] at this
    simp at this

theorem stn_inj0 (k : Nat) : ∀ x, stn k x = 0#32 → x = 0#32 := by
  induction k with
  | zero => intro x h; exact h
  | succ k ih => intro x h; exact st_inj0 _ (ih _ h)

theorem xor_eq_zero {a b : BitVec 32} (h : a ^^^ b = 0#32) : a = b := by
  have := congrArg (· ^^^ b) h
  simp only [BitVec.xor_assoc, BitVec.xor_self, BitVec.xor_zero, BitVec.zero_xor] at this
  exact this

theorem stn_inj (k : Nat) (a b : BitVec 32) (h : stn k a = stn k b) : a = b := by
  have : stn k (a ^^^ b) = 0#32 := by rw [stn_xor, h, BitVec.xor_self]
  exact xor_eq_zero (stn_inj0 k _ this)

/-- A byte: laid into the lowest eight bits, then eight steps. -/
def byt (s : BitVec 32) (c : UInt8) : BitVec 32 := stn 8 (s ^^^ c.toBitVec.setWidth 32)

/-- The state behind bytes. -/
def run (s : BitVec 32) (l : List UInt8) : BitVec 32 := l.foldl byt s

theorem run_nil (s : BitVec 32) : run s [] = s := rfl
theorem run_cons (s : BitVec 32) (c : UInt8) (l : List UInt8) : run s (c :: l) = run (byt s c) l := rfl
theorem run_append (s : BitVec 32) (a b : List UInt8) : run s (a ++ b) = run (run s a) b := List.foldl_append

/-- The sum of a text with more behind. -/
def more (s : BitVec 32) (l : List UInt8) : BitVec 32 := ~~~ run (~~~ s) l
def sum (l : List UInt8) : BitVec 32 := more 0#32 l

theorem not_not (x : BitVec 32) : ~~~ ~~~ x = x := BitVec.not_not
theorem more_nil (s : BitVec 32) : more s [] = s := by simp [more, run]
theorem more_append (s : BitVec 32) (a b : List UInt8) : more s (a ++ b) = more (more s a) b := by
  simp [more, run_append]

/-- Texts of one length upon one another. -/
def xorl (a b : List UInt8) : List UInt8 := List.zipWith (· ^^^ ·) a b

theorem byt_xor (s t : BitVec 32) (c d : UInt8) : byt (s ^^^ t) (c ^^^ d) = byt s c ^^^ byt t d := by
  unfold byt
  rw [← stn_xor]
  congr 1
  rw [UInt8.toBitVec_xor, BitVec.setWidth_xor]
  rw [BitVec.xor_assoc, BitVec.xor_assoc, ← BitVec.xor_assoc t, BitVec.xor_comm t, BitVec.xor_assoc]

theorem run_xor : ∀ (a b : List UInt8), a.length = b.length → ∀ s t, run (s ^^^ t) (xorl a b) = run s a ^^^ run t b := by
  intro a
  induction a with
  | nil => intro b hb s t; cases b with
    | nil => rfl
    | cons _ _ => simp at hb
  | cons c a ih =>
    intro b hb s t
    cases b with
    | nil => simp at hb
    | cons d b =>
      simp only [List.length_cons, Nat.add_right_cancel_iff] at hb
      simp only [xorl, List.zipWith_cons_cons, run_cons]
      rw [byt_xor]
      exact ih b hb _ _

theorem not_eq (x : BitVec 32) : ~~~ x = x ^^^ BitVec.allOnes 32 := by rw [BitVec.xor_allOnes]

/-- Three texts of one length upon one another have the sums' sum. -/
theorem sum_xor3 (a b c : List UInt8) (hb : b.length = a.length) (hc : c.length = a.length) : sum (xorl (xorl a b) c) = sum a ^^^ sum b ^^^ sum c := by
  unfold sum more
  have h1 := run_xor (xorl a b) c (by simp [xorl]; omega) (~~~ 0#32 ^^^ ~~~ 0#32) (~~~ 0#32)
  have h2 := run_xor a b (by omega) (~~~ 0#32) (~~~ 0#32)
  rw [h2] at h1
  have e : (~~~ 0#32 ^^^ ~~~ 0#32 ^^^ ~~~ 0#32 : BitVec 32) = ~~~ 0#32 := by decide
  rw [e] at h1
  rw [h1]
  simp only [not_eq]
  generalize run (0#32 ^^^ BitVec.allOnes 32) a = x
  generalize run (0#32 ^^^ BitVec.allOnes 32) b = y
  generalize run (0#32 ^^^ BitVec.allOnes 32) c = z
  generalize BitVec.allOnes 32 = o
  apply BitVec.eq_of_getLsbD_eq
  intro i hi
  simp only [BitVec.getLsbD_xor]
  cases x.getLsbD i <;> cases y.getLsbD i <;> cases z.getLsbD i <;> cases o.getLsbD i <;> rfl

theorem run_zero (n : Nat) (s : BitVec 32) : run s (List.replicate n 0) = stn (8 * n) s := by
  induction n generalizing s with
  | zero => rfl
  | succ n ih =>
    rw [List.replicate_succ, run_cons, ih, show 8 * (n + 1) = 8 + 8 * n by omega, stn_add]
    congr 1
    simp [byt]

theorem xorl_zero (a : List UInt8) : xorl a (List.replicate a.length 0) = a := by
  induction a with
  | nil => rfl
  | cons c a ih => simp only [xorl, List.length_cons, List.replicate_succ, List.zipWith_cons_cons] at ih ⊢; rw [ih]; simp

/-- The sum of two texts by theirs, and how long the second is. -/
theorem more_join (s : BitVec 32) (b : List UInt8) : more s b = stn (8 * b.length) s ^^^ sum b := by
  unfold sum more
  have h := run_xor b (List.replicate b.length 0) (by simp) (~~~ 0#32) s
  rw [xorl_zero, run_zero] at h
  have e : ~~~ 0#32 ^^^ s = ~~~ s := by simp [not_eq, BitVec.xor_comm]
  rw [e] at h
  rw [h]
  simp only [not_eq]
  rw [BitVec.xor_comm (stn _ _), BitVec.xor_assoc, BitVec.xor_assoc, BitVec.xor_comm (stn _ _)]

/-! Four bits at once -/

/-- What the sums of four bits are. -/
def half (x : BitVec 32) : BitVec 32 := stn 4 (x &&& 15#32)

theorem st_shift (y : BitVec 32) (h : y.getLsbD 31 = false) : st (y <<< 1) = y := by
  unfold st
  have h0 : (y <<< 1).getLsbD 0 = false := by simp
  rw [h0]
  simp only [Bool.false_eq_true, if_false, BitVec.xor_zero]
  apply BitVec.eq_of_getLsbD_eq
  intro i hi
  simp only [BitVec.getLsbD_ushiftRight, BitVec.getLsbD_shiftLeft]
  by_cases h31 : i = 31
  · subst h31; rw [h]; simp
  · have : decide (1 + i < 32) = true := by simp; omega
    rw [this]; simp

theorem stn4_high (x : BitVec 32) : stn 4 ((x >>> 4) <<< 4) = x >>> 4 := by
  have e : ((x >>> 4) <<< 4) = ((((x >>> 4) <<< 1) <<< 1) <<< 1) <<< 1 := by
    simp only [← BitVec.shiftLeft_add]
  rw [e]
  simp only [stn]
  rw [st_shift _ (by simp), st_shift _ (by simp), st_shift _ (by simp), st_shift _ (by simp)]

theorem split4 (x : BitVec 32) : x = ((x >>> 4) <<< 4) ^^^ (x &&& 15#32) := by
  apply BitVec.eq_of_getLsbD_eq
  intro i hi
  simp only [BitVec.getLsbD_xor, BitVec.getLsbD_and, BitVec.getLsbD_shiftLeft, BitVec.getLsbD_ushiftRight]
  have h15 : (15#32).getLsbD i = decide (i < 4) := by
    rcases Nat.lt_or_ge i 4 with h | h
    · have : i = 0 ∨ i = 1 ∨ i = 2 ∨ i = 3 := by omega
      rcases this with rfl | rfl | rfl | rfl <;> decide
    · have : ∀ i, i < 32 → 4 ≤ i → (15#32).getLsbD i = decide (i < 4) := by decide
      exact this i hi h
  rw [h15]
  by_cases h : i < 4
  · simp [h]
  · have : 4 + (i - 4) = i := by omega
    simp [h, hi, this]

theorem stn4 (x : BitVec 32) : stn 4 x = (x >>> 4) ^^^ half x := by
  conv => lhs; rw [split4 x]
  rw [stn_xor, stn4_high]
  rfl

theorem byt_half (s : BitVec 32) (c : UInt8) : byt s c = stn 4 (stn 4 (s ^^^ c.toBitVec.setWidth 32)) := by
  unfold byt; rw [← stn_add]

/-- The sixteen, written out. -/
def tab : List Nat := [0, 274646895, 549293790, 820201905, 1098587580, 1361435347, 1640403810, 1905808397, 2197175160, 2460548119, 2722870694, 2987750089, 3280807620, 3553878443, 3811616794, 4084100981]

theorem tab_half : ∀ i, i < 16 → (half (BitVec.ofNat 32 i)).toNat = tab.getD i 0 := by decide +kernel

theorem half_tab (x : BitVec 32) : (x &&& 15#32).toNat < 16 ∧ (half x).toNat = tab.getD (x &&& 15#32).toNat 0 := by
  have h : (x &&& 15#32).toNat < 16 := by
    rw [BitVec.toNat_and]
    exact Nat.lt_of_le_of_lt Nat.and_le_right (by decide)
  refine ⟨h, ?_⟩
  rw [← tab_half _ h]
  unfold half
  congr 1
  congr 1
  rw [BitVec.ofNat_toNat, BitVec.setWidth_eq]
  apply BitVec.eq_of_getLsbD_eq
  intro i hi
  simp only [BitVec.getLsbD_and]
  cases x.getLsbD i <;> cases (15#32).getLsbD i <;> rfl

theorem sum_first : sum [49, 50, 51, 52, 53, 54, 55, 56, 57] = 3808858755#32 := by decide +kernel

/-! What a seal is good for -/

/-- The four bytes of a sum, the lowest first. -/
def le4 (s : BitVec 32) : List UInt8 := [⟨s.setWidth 8⟩, ⟨(s >>> 8).setWidth 8⟩, ⟨(s >>> 16).setWidth 8⟩, ⟨(s >>> 24).setWidth 8⟩]
def sealed (b : List UInt8) : List UInt8 := b ++ le4 (sum b)

theorem stn8_high (x : BitVec 32) : stn 8 ((x >>> 8) <<< 8) = x >>> 8 := by
  have e : ((x >>> 8) <<< 8) = ((((((((x >>> 8) <<< 1) <<< 1) <<< 1) <<< 1) <<< 1) <<< 1) <<< 1) <<< 1 := by
    simp only [← BitVec.shiftLeft_add]
  rw [e]
  simp only [stn]
  rw [st_shift _ (by simp), st_shift _ (by simp), st_shift _ (by simp), st_shift _ (by simp), st_shift _ (by simp), st_shift _ (by simp), st_shift _ (by simp), st_shift _ (by simp)]

theorem low8 (x : BitVec 32) (i : Nat) : ((x.setWidth 8).setWidth 32).getLsbD i = (decide (i < 8) && x.getLsbD i) := by
  simp only [BitVec.getLsbD_setWidth]
  by_cases h : i < 8
  · have : i < 32 := by omega
    simp [h, this]
  · simp [h]

theorem split8 (x : BitVec 32) : x = ((x >>> 8) <<< 8) ^^^ (x.setWidth 8).setWidth 32 := by
  apply BitVec.eq_of_getLsbD_eq
  intro i hi
  simp only [BitVec.getLsbD_xor, low8, BitVec.getLsbD_shiftLeft, BitVec.getLsbD_ushiftRight]
  by_cases h : i < 8
  · simp [h]
  · have : 8 + (i - 8) = i := by omega
    simp [h, hi, this]

/-- One byte of a number: eight steps with all of the number laid in are the byte's, with the rest laid in behind. -/
theorem stn8_split (s t : BitVec 32) : stn 8 (s ^^^ t) = byt s ⟨t.setWidth 8⟩ ^^^ (t >>> 8) := by
  conv => lhs; rw [split8 t, ← BitVec.xor_assoc, BitVec.xor_comm s, BitVec.xor_assoc, stn_xor, stn8_high, BitVec.xor_comm]
  rfl

theorem run_le4 (s t : BitVec 32) : run s (le4 t) = stn 32 (s ^^^ t) := by
  have s32 : ∀ y, stn 32 y = stn 8 (stn 8 (stn 8 (stn 8 y))) := fun y => by rw [← stn_add 8 8 (stn 8 (stn 8 y)), ← stn_add 8 16 (stn 8 y), ← stn_add 8 24 y]
  rw [s32, stn8_split, stn8_split, stn8_split, stn8_split]
  have e : ∀ (a b : Nat), (t >>> a) >>> b = t >>> (a + b) := fun a b => by rw [BitVec.shiftRight_add]
  rw [e, e, e]
  have z : t >>> 32 = 0#32 := by
    apply BitVec.eq_of_getLsbD_eq; intro i hi; simp
  rw [show 8 + 8 + 8 + 8 = 32 from rfl, z, BitVec.xor_zero]
  rfl

/-- What the state is behind whatever is sealed. -/
def kept : BitVec 32 := stn 32 (BitVec.allOnes 32)

theorem run_sealed (b : List UInt8) : run (~~~ 0#32) (sealed b) = kept := by
  unfold sealed kept
  rw [run_append, run_le4]
  congr 1
  unfold sum more
  generalize run (~~~ 0#32) b = x
  rw [not_eq, ← BitVec.xor_assoc, BitVec.xor_self, BitVec.zero_xor]

theorem sum_sealed (b : List UInt8) : sum (sealed b) = ~~~ kept := by
  unfold sum more; rw [run_sealed]

/-- The number of four bytes. -/
def of4 (a b c d : UInt8) : BitVec 32 := (((d.toBitVec.setWidth 32) <<< 8 ^^^ c.toBitVec.setWidth 32) <<< 8 ^^^ b.toBitVec.setWidth 32) <<< 8 ^^^ a.toBitVec.setWidth 32

theorem shr8_of (x : BitVec 32) (a : UInt8) (h : x >>> 24 = 0#32) : ((x <<< 8) ^^^ a.toBitVec.setWidth 32) >>> 8 = x ∧ ((x <<< 8) ^^^ a.toBitVec.setWidth 32).setWidth 8 = a.toBitVec := by
  constructor
  · apply BitVec.eq_of_getLsbD_eq
    intro i hi
    simp only [BitVec.getLsbD_ushiftRight, BitVec.getLsbD_xor, BitVec.getLsbD_shiftLeft, BitVec.getLsbD_setWidth]
    have e : 8 + i - 8 = i := by omega
    rw [e]
    by_cases h24 : i < 24
    · have h1 : 8 + i < 32 := by omega
      simp [h1]
    · have h1 : ¬ 8 + i < 32 := by omega
      have h2 : x.getLsbD i = false := by
        have := congrArg (fun y => BitVec.getLsbD y (i - 24)) h
        simp only [BitVec.getLsbD_ushiftRight, BitVec.getLsbD_zero] at this
        rwa [show 24 + (i - 24) = i by omega] at this
      simp [h1, h2]
  · apply BitVec.eq_of_getLsbD_eq
    intro i hi
    simp only [BitVec.getLsbD_setWidth, BitVec.getLsbD_xor, BitVec.getLsbD_shiftLeft]
    have h1 : i < 32 := by omega
    simp [hi, h1]

theorem shr24_step (x : BitVec 32) (a : UInt8) (n : Nat) (h : x >>> n = 0#32) (hn : n + 8 ≤ 24) : ((x <<< 8) ^^^ a.toBitVec.setWidth 32) >>> (n + 8) = 0#32 := by
  apply BitVec.eq_of_getLsbD_eq
  intro i hi
  simp only [BitVec.getLsbD_ushiftRight, BitVec.getLsbD_xor, BitVec.getLsbD_shiftLeft, BitVec.getLsbD_setWidth, BitVec.getLsbD_zero]
  have h2 : a.toBitVec.getLsbD (n + 8 + i) = false := BitVec.getLsbD_of_ge _ _ (by omega)
  have h3 : x.getLsbD (n + 8 + i - 8) = false := by
    have := congrArg (fun y => BitVec.getLsbD y i) h
    simp only [BitVec.getLsbD_ushiftRight, BitVec.getLsbD_zero] at this
    rwa [show n + 8 + i - 8 = n + i by omega]
  simp [h2, h3]

theorem shr_byte (d : UInt8) : (d.toBitVec.setWidth 32) >>> 8 = 0#32 := by
  apply BitVec.eq_of_getLsbD_eq
  intro i hi
  simp only [BitVec.getLsbD_ushiftRight, BitVec.getLsbD_setWidth, BitVec.getLsbD_zero]
  simp

theorem shr_more (x : BitVec 32) (n m : Nat) (h : x >>> n = 0#32) (hm : n ≤ m) : x >>> m = 0#32 := by
  obtain ⟨k, rfl⟩ : ∃ k, m = n + k := ⟨m - n, by omega⟩
  rw [BitVec.shiftRight_add, h]
  apply BitVec.eq_of_getLsbD_eq; intro i hi; simp

theorem le4_of4 (a b c d : UInt8) : le4 (of4 a b c d) = [a, b, c, d] := by
  unfold le4 of4
  have d0 := shr_byte d
  have d1 := shr8_of (d.toBitVec.setWidth 32) c (shr_more _ 8 24 d0 (by omega))
  have d1' := shr24_step (d.toBitVec.setWidth 32) c 8 d0 (by omega)
  have d2 := shr8_of _ b (shr_more _ 16 24 d1' (by omega))
  have d2' := shr24_step _ b 16 d1' (by omega)
  have d3 := shr8_of _ a d2'
  have e : ∀ (x : BitVec 32) (m n : Nat), x >>> (m + n) = (x >>> m) >>> n := fun x m n => BitVec.shiftRight_add x m n
  rw [show (24 : Nat) = 8 + 16 from rfl, show (16 : Nat) = 8 + 8 from rfl, e _ 8 (8 + 8), e _ 8 8, d3.1, d3.2]
  rw [e _ 8 8, d2.1, d2.2, d1.1, d1.2]
  have : (d.toBitVec.setWidth 32).setWidth 8 = d.toBitVec := by
    apply BitVec.eq_of_getLsbD_eq; intro i hi
    simp only [BitVec.getLsbD_setWidth]
    have h1 : i < 32 := by omega
    simp [hi, h1]
  rw [this]

theorem le4_inj (x y : BitVec 32) (h : le4 x = le4 y) : x = y := by
  have hx := run_le4 0#32 x
  have hy := run_le4 0#32 y
  rw [h] at hx
  have := hx.symm.trans hy
  have := stn_inj 32 _ _ this
  simpa using this

theorem le4_all (q : List UInt8) (h : q.length = 4) : ∃ x, q = le4 x := by
  match q, h with
  | [a, b, c, d], _ => exact ⟨of4 a b c d, (le4_of4 a b c d).symm⟩

/-- It opens just where the state behind it is that of what is sealed. -/
theorem opens_iff (p q : List UInt8) (h : q.length = 4) : sealed p = p ++ q ↔ run (~~~ 0#32) (p ++ q) = kept := by
  constructor
  · intro e; rw [← e, run_sealed]
  · intro e
    obtain ⟨x, rfl⟩ := le4_all q h
    unfold sealed
    rw [run_append, run_le4] at e
    have := stn_inj 32 _ _ e
    have hx : x = sum p := by
      unfold sum more
      generalize run (~~~ 0#32) p = y at this
      have h2 : y ^^^ (y ^^^ x) = y ^^^ BitVec.allOnes 32 := by rw [this]
      rw [← BitVec.xor_assoc, BitVec.xor_self, BitVec.zero_xor] at h2
      rw [h2, BitVec.xor_allOnes]
    rw [hx]

theorem run_left (l : List UInt8) : ∀ s t, run (s ^^^ t) l = run s l ^^^ stn (8 * l.length) t := by
  intro s t
  have h := run_xor l (List.replicate l.length 0) (by simp) s t
  rw [xorl_zero, run_zero] at h
  exact h

/-- One byte turned. -/
theorem run_turned (d : UInt8) : ∀ (l : List UInt8) (j : Nat) (hj : j < l.length) (s : BitVec 32),
    run s (l.set j (l[j] ^^^ d)) = run s l ^^^ stn (8 * (l.length - j)) (d.toBitVec.setWidth 32) := by
  intro l
  induction l with
  | nil => intro j hj; simp at hj
  | cons c l ih =>
    intro j hj s
    rcases j with _ | j
    · simp only [List.set_cons_zero, List.getElem_cons_zero, run_cons, List.length_cons, Nat.sub_zero]
      have := byt_xor s 0#32 c d
      rw [BitVec.xor_zero] at this
      rw [this, run_left]
      congr 1
      unfold byt
      rw [BitVec.zero_xor, ← stn_add]
      congr 1
      omega
    · simp only [List.set_cons_succ, List.getElem_cons_succ, run_cons, List.length_cons]
      have hj' : j < l.length := by simpa using hj
      rw [ih j hj', show l.length + 1 - (j + 1) = l.length - j by omega]

theorem byte_ne_zero {d : UInt8} (h : d ≠ 0) : d.toBitVec.setWidth 32 ≠ 0#32 := by
  intro e
  apply h
  have := congrArg (fun y => BitVec.setWidth 8 y) e
  have e2 : (d.toBitVec.setWidth 32).setWidth 8 = d.toBitVec := by
    apply BitVec.eq_of_getLsbD_eq; intro i hi
    simp only [BitVec.getLsbD_setWidth]
    have h1 : i < 32 := by omega
    simp [hi, h1]
  simp only [e2] at this
  apply UInt8.toBitVec_inj.1
  rw [this]; rfl

/-- A byte that is turned is told. -/
theorem run_turned_ne {d : UInt8} (hd : d ≠ 0) (l : List UInt8) (j : Nat) (hj : j < l.length) (s : BitVec 32) : run s (l.set j (l[j] ^^^ d)) ≠ run s l := by
  rw [run_turned d l j hj s]
  intro e
  have h0 : stn (8 * (l.length - j)) (d.toBitVec.setWidth 32) = 0#32 := by
    have h2 := congrArg (run s l ^^^ ·) e
    simp only [← BitVec.xor_assoc, BitVec.xor_self, BitVec.zero_xor] at h2
    exact h2
  exact byte_ne_zero hd (stn_inj0 _ _ h0)

theorem sum_turned_ne {d : UInt8} (hd : d ≠ 0) (l : List UInt8) (j : Nat) (hj : j < l.length) : sum (l.set j (l[j] ^^^ d)) ≠ sum l := by
  unfold sum more
  intro e
  have := congrArg (~~~ ·) e
  simp only [not_not] at this
  exact run_turned_ne hd l j hj _ this

/-! Bits -/

theorem stn_one : ∀ r, r < 32 → stn r (1#32 <<< r) = 1#32 := by
  intro r hr
  induction r with
  | zero => simp [stn]
  | succ r ih =>
    have e : (1#32 <<< (r + 1)) = (1#32 <<< r) <<< 1 := by rw [BitVec.shiftLeft_add]
    rw [e]
    simp only [stn]
    rw [st_shift]
    · exact ih (by omega)
    · simp only [BitVec.getLsbD_shiftLeft]
      have : (1#32).getLsbD (31 - r) = false := by
        have : ∀ i, i < 32 → 0 < i → (1#32).getLsbD i = false := by decide
        exact this _ (by omega) (by omega)
      simp [this]

/-- One bit of a text: bit p is bit p % 8 of byte p / 8. -/
def flipped (l : List UInt8) (p : Nat) : List UInt8 := l.set (p / 8) (l.getD (p / 8) 0 ^^^ (1 <<< UInt8.ofNat (p % 8)))

theorem flipped_length (l : List UInt8) (p : Nat) : (flipped l p).length = l.length := by simp [flipped]

theorem bit_byte : ∀ r, r < 8 → ((1 : UInt8) <<< UInt8.ofNat r).toBitVec.setWidth 32 = 1#32 <<< r := by decide

theorem run_flipped (l : List UInt8) (p : Nat) (hp : p < 8 * l.length) (s : BitVec 32) : run s (flipped l p) = run s l ^^^ stn (8 * l.length - p) 1#32 := by
  have hj : p / 8 < l.length := by omega
  unfold flipped
  rw [List.getD_eq_getElem?_getD, List.getElem?_eq_getElem hj, Option.getD_some, run_turned _ _ _ hj, bit_byte _ (by omega)]
  congr 1
  rw [show 8 * (l.length - p / 8) = p % 8 + (8 * l.length - p) by omega, stn_add, stn_one _ (by omega)]

/-- The parity of the lowest bits. -/
def par (x : BitVec 32) : Nat → Bool
  | 0 => false
  | k + 1 => par x k ^^ x.getLsbD k

theorem par_xor (a b : BitVec 32) (k : Nat) : par (a ^^^ b) k = (par a k ^^ par b k) := by
  induction k with
  | zero => rfl
  | succ k ih =>
    simp only [par, ih, BitVec.getLsbD_xor]
    cases par a k <;> cases par b k <;> cases a.getLsbD k <;> cases b.getLsbD k <;> rfl

theorem par_shr (x : BitVec 32) (k : Nat) : (x.getLsbD 0 ^^ par (x >>> 1) k) = par x (k + 1) := by
  induction k with
  | zero => simp [par]
  | succ k ih =>
    rw [par, ← Bool.xor_assoc, ih]
    conv => rhs; rw [par]
    rw [BitVec.getLsbD_ushiftRight, Nat.add_comm 1 k]

theorem par_st (x : BitVec 32) : par (st x) 32 = par x 32 := by
  unfold st
  have h := par_shr x 32
  have h33 : par x 33 = par x 32 := by rw [par, BitVec.getLsbD_of_ge x 32 (by omega)]; simp
  rw [h33] at h
  rw [par_xor, ← h]
  have hp : par poly 32 = true := by decide
  have hz : par 0#32 32 = false := by decide
  cases x.getLsbD 0
  · simp [hz]
  · simp [hp]

theorem par_stn (k : Nat) : ∀ x, par (stn k x) 32 = par x 32 := by
  induction k with
  | zero => intro x; rfl
  | succ k ih => intro x; simp only [stn]; rw [ih, par_st]

/-- Three bits turned, wherever they are. -/
theorem run_three (l : List UInt8) (p q r : Nat) (hp : p < 8 * l.length) (hq : q < 8 * l.length) (hr : r < 8 * l.length) (s : BitVec 32) :
    run s (flipped (flipped (flipped l p) q) r) ≠ run s l := by
  rw [run_flipped _ r (by simpa [flipped_length] using hr), run_flipped _ q (by simpa [flipped_length] using hq), run_flipped _ p hp]
  intro e
  have := congrArg (fun x => par (run s l ^^^ x) 32) e
  simp only [BitVec.xor_self, ← BitVec.xor_assoc, BitVec.zero_xor] at this
  rw [par_xor, par_xor, par_stn, par_stn, par_stn] at this
  revert this
  decide

/-- A burst: bits i of 'bits' for i below m, turned from bit k on. -/
def burst (l : List UInt8) (k : Nat) (bits : BitVec 32) : Nat → List UInt8
  | 0 => l
  | m + 1 => if bits.getLsbD m then flipped (burst l k bits m) (k + m) else burst l k bits m

theorem burst_length (l : List UInt8) (k : Nat) (bits : BitVec 32) (m : Nat) : (burst l k bits m).length = l.length := by
  induction m with
  | zero => rfl
  | succ m ih => unfold burst; split <;> simp [flipped_length, ih]

/-- The lowest bits of a number. -/
def lows (bits : BitVec 32) : Nat → BitVec 32
  | 0 => 0#32
  | m + 1 => if bits.getLsbD m then lows bits m ^^^ (1#32 <<< m) else lows bits m

theorem run_burst (l : List UInt8) (k : Nat) (bits : BitVec 32) (s : BitVec 32) (m : Nat) (hm : m ≤ 32) (hk : k + m ≤ 8 * l.length) :
    run s (burst l k bits m) = run s l ^^^ stn (8 * l.length - k) (lows bits m) := by
  induction m with
  | zero => simp [burst, lows, stn_zero]
  | succ m ih =>
    unfold burst lows
    split
    · rw [run_flipped _ _ (by rw [burst_length]; omega), ih (by omega) (by omega), burst_length, stn_xor, BitVec.xor_assoc]
      congr 2
      rw [show 8 * l.length - k = m + (8 * l.length - (k + m)) by omega, stn_add, stn_one _ (by omega)]
    · exact ih (by omega) (by omega)

theorem lows_low (bits : BitVec 32) (m i : Nat) (hi : m ≤ i) : (lows bits m).getLsbD i = false := by
  induction m with
  | zero => simp [lows]
  | succ m ih =>
    unfold lows
    split
    · rw [BitVec.getLsbD_xor, ih (by omega)]
      have : (1#32 <<< m).getLsbD i = false := by
        rw [BitVec.getLsbD_shiftLeft]
        by_cases h32 : i < 32
        · have : ∀ i, i < 32 → 0 < i → (1#32).getLsbD i = false := by decide
          rw [this (i - m) (by omega) (by omega)]; simp
        · simp [h32]
      rw [this]; rfl
    · exact ih (by omega)

theorem lows_bit (x : BitVec 32) (m i : Nat) (hi : i < 32) : (lows x m).getLsbD i = (decide (i < m) && x.getLsbD i) := by
  induction m with
  | zero => simp [lows]
  | succ m ih =>
    have hone : (1#32 <<< m).getLsbD i = decide (i = m) := by
      rw [BitVec.getLsbD_shiftLeft]
      by_cases h : i < m
      · have : i ≠ m := by omega
        simp [h, this]
      · have h1 : ∀ j, j < 32 → (1#32).getLsbD j = decide (j = 0) := by decide
        rw [h1 (i - m) (by omega)]
        have : (i - m = 0) ↔ (i = m) := by omega
        simp [hi, h, this]
    unfold lows
    split
    · rename_i hb
      rw [BitVec.getLsbD_xor, ih, hone]
      by_cases e : i = m
      · subst e; simp [hb]
      · have : (i < m + 1) ↔ (i < m) := by omega
        simp [e, this]
    · rename_i hb
      rw [ih]
      by_cases e : i = m
      · subst e
        have hb' : x.getLsbD i = false := by simpa using hb
        simp [hb']
      · have : (i < m + 1) ↔ (i < m) := by omega
        simp [this]

theorem lows_all (x : BitVec 32) : lows x 32 = x := by
  apply BitVec.eq_of_getLsbD_eq
  intro i hi
  rw [lows_bit x 32 i hi]; simp [hi]

/-- A map that bears sums. -/
structure Lin (L : BitVec 32 → BitVec 32) : Prop where
  xor : ∀ a b, L (a ^^^ b) = L a ^^^ L b
  zero : L 0#32 = 0#32

theorem lin_stn (k : Nat) : Lin (stn k) := ⟨stn_xor k, stn_zero k⟩

theorem lin_step {L : BitVec 32 → BitVec 32} (h : Lin L) (x : BitVec 32) (i : Nat) : L (lows x (i + 1)) = if x.getLsbD i then L (lows x i) ^^^ L (1#32 <<< i) else L (lows x i) := by
  have e : lows x (i + 1) = if x.getLsbD i then lows x i ^^^ (1#32 <<< i) else lows x i := rfl
  rw [e]
  split
  · rw [h.xor]
  · rfl

theorem st_pow (i : Nat) (h : i + 1 < 32) : st (1#32 <<< (i + 1)) = 1#32 <<< i := by
  have e : (1#32 <<< (i + 1)) = (1#32 <<< i) <<< 1 := by rw [BitVec.shiftLeft_add]
  rw [e]
  apply st_shift
  rw [BitVec.getLsbD_shiftLeft]
  have : ∀ j, j < 32 → 0 < j → (1#32).getLsbD j = false := by decide
  rw [this (31 - i) (by omega) (by omega)]; simp

theorem st_one : st (1#32 <<< 0) = poly := by decide

/-- A burst that turns nothing is none. -/
theorem burst_none (l : List UInt8) (k : Nat) (bits : BitVec 32) (m : Nat) (hm : m ≤ 32) (h : lows bits m = 0#32) : burst l k bits m = l := by
  induction m with
  | zero => rfl
  | succ m ih =>
    unfold lows at h
    unfold burst
    split
    · rename_i hb
      rw [if_pos hb] at h
      have := congrArg (fun y => BitVec.getLsbD y m) h
      simp only [BitVec.getLsbD_xor, lows_low bits m m (Nat.le_refl _), BitVec.getLsbD_shiftLeft, BitVec.getLsbD_zero] at this
      have hm' : m < 32 := by omega
      simp [hm'] at this
    · rename_i hb
      rw [if_neg hb] at h
      exact ih (by omega) h

/-- A burst that turns something is told. -/
theorem burst_told (l : List UInt8) (k : Nat) (bits : BitVec 32) (s : BitVec 32) (m : Nat) (hm : m ≤ 32) (hk : k + m ≤ 8 * l.length) (h : burst l k bits m ≠ l) : run s (burst l k bits m) ≠ run s l := by
  rw [run_burst l k bits s m hm hk]
  intro e
  have h0 : stn (8 * l.length - k) (lows bits m) = 0#32 := by
    have h2 := congrArg (run s l ^^^ ·) e
    simp only [← BitVec.xor_assoc, BitVec.xor_self, BitVec.zero_xor] at h2
    exact h2
  exact h (burst_none l k bits m hm (stn_inj0 _ _ h0))

end Go.Proofs.YtegiingcnhafbaaGreatDoor.Crc
