/- Plain: an object checks its bytes, and no others of their length; for ManiMakes. -/
import Derived.Test.YtegiingcnhafbaaGreatDoorManMake
import Derived.Test.YtegiingcnhafbaaGreatDoorCrcMath
namespace Go.Proofs.YtegiingcnhafbaaGreatDoor
open Go Go.RowKit Man Crc Vint

theorem sum_turned_ne {d : UInt8} (hd : d ≠ 0) (l : List UInt8) (j : Nat) (hj : j < l.length) : sum (l.set j (l[j] ^^^ d)) ≠ sum l := by
  unfold sum more
  intro h
  have h1 := congrArg (fun x => ~~~ x) h
  simp only [BitVec.not_not] at h1
  exact run_turned_ne hd l j hj _ h1
theorem chk_of (id : Int) (kind : ByteArray) (base : Int) (l : List UInt8) : chk (objectOf id kind base l) l = .fine := by
  unfold chk objectOf
  simp
theorem chk_turned (id : Int) (kind : ByteArray) (base : Int) (l : List UInt8) (j : Nat) (hj : j < l.length) {d : UInt8} (hd : d ≠ 0) : chk (objectOf id kind base l) (l.set j (l[j] ^^^ d)) = .bare 1 := by
  unfold chk objectOf
  simp only [List.length_set]
  rw [if_neg (by simp), if_pos (fun h => sum_turned_ne hd l j hj (BitVec.eq_of_toNat_eq h))]
theorem chk_short (id : Int) (kind : ByteArray) (base : Int) (l x : List UInt8) (h : x.length < l.length) : chk (objectOf id kind base l) x = .bare 2 := by
  unfold chk objectOf
  simp only
  rw [if_pos (by omega)]
theorem made_Ok {id base fin time : Int} {eps : List Epo.Pr} {ld lm : List UInt8} (h1 : I64 id) (h2 : I64 base) (h3 : I64 fin) (h4 : I64 time) (he : ∀ p ∈ eps, I64 p.ep ∧ I64 p.st) (hd : ld.length ≤ 1000000) (hm : lm.length ≤ 1000000) : Man.Ok (makeM id base fin time eps ld lm) := by
  refine ⟨h1, h2, h3, h4, he, fun o ho => ?_⟩
  unfold makeM at ho
  simp only [List.mem_cons, List.not_mem_nil, or_false] at ho
  rcases ho with rfl | rfl
  · exact ⟨by unfold objectOf I64; simp only; omega, by unfold objectOf; exact (sum ld).isLt⟩
  · exact ⟨by unfold objectOf I64; simp only; omega, by unfold objectOf; exact (sum lm).isLt⟩
end Go.Proofs.YtegiingcnhafbaaGreatDoor
