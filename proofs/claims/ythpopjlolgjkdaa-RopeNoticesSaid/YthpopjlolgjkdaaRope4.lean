/- rope and ref38 agree; agree and awake answer true. No condition of its own. -/
import Derived.Test.YthpopjlolgjkdaaRope3
set_option linter.all false
namespace Go.Proofs.Ythpopjlolgjkdaa
open Go.Pv
set_option maxHeartbeats 4000000

theorem rvalid_iff {a b c x y : Int} : rvalid a b c x y = true ↔ 0 ≤ a ∧ a < b ∧ b ≤ 1073741824 ∧ 0 ≤ c ∧ c ≤ 100000 ∧ 0 ≤ y ∧ y ≤ 2147483648 ∧ -1 ≤ x ∧ x ≤ y := by
  simp only [rvalid, inB, Bool.and_eq_true, decide_eq_true_eq]; omega
theorem enough_eq {a lo hi : Int} (h : 0 ≤ a) : enough' a lo hi = enough a lo hi := by
  rw [Bool.eq_iff_iff]; simp only [enough', enough, known, Bool.and_eq_true, Bool.or_eq_true, decide_eq_true_eq]; omega
theorem fine_eq {b lo hi : Int} (h : b ≤ 1073741824) : fine' b lo hi = light b lo hi := by
  rw [Bool.eq_iff_iff]; simp only [fine', light, known, Bool.and_eq_true, Bool.or_eq_true, decide_eq_true_eq]; omega
theorem when_eq {t y : Int} (h : 0 ≤ y) : (decide (t < 0) || decide (2147483648 < t) || decide (t < y)) = !inB t y 2147483648 := by
  rw [Bool.eq_iff_iff]; simp only [inB, Bool.not_eq_true', Bool.and_eq_false_iff, Bool.or_eq_true, decide_eq_true_eq, decide_eq_false_iff_not]; omega
theorem slack_eq (a b c x y t : Int) : slackV' a b c x y t = slackV a b c x y t := by
  unfold slackV' slackV
  rw [rvalid_eq]
  cases hv : rvalid a b c x y
  · rfl
  · have h := rvalid_iff.1 hv
    have e : (x == -1) = decide (x < 0) := by rw [Bool.eq_iff_iff]; simp only [beq_iff_eq, decide_eq_true_eq]; omega
    rw [e]
theorem tick_eq (a b c x y lo hi t : Int) (z dn : Bool) : tickV' a b c x y lo hi t z dn = tickV a b c x y lo hi t z dn := by
  unfold tickV' tickV
  rw [rvalid_eq]
  cases hv : rvalid a b c x y
  · rfl
  · have h := rvalid_iff.1 hv
    rw [when_eq h.2.2.2.2.2.1]
    cases ht : inB t y 2147483648
    · rfl
    · have h2 : y ≤ t ∧ t ≤ 2147483648 := by simpa only [inB, Bool.and_eq_true, decide_eq_true_eq] using ht
      have e : (x == -1) = decide (x < 0) := by rw [Bool.eq_iff_iff]; simp only [beq_iff_eq, decide_eq_true_eq]; omega
      have s1 : since' a x lo hi t = since a x lo hi t := by unfold since' since; rw [enough_eq h.1, e]
      have s2 : -1 ≤ since a x lo hi t := by
        unfold since; cases enough a lo hi
        · cases hx : decide (x < 0)
          · simp only [cond_false]; omega
          · simp only [cond_false, cond_true]; omega
        · exact Int.le_refl _
      have s3 : (since a x lo hi t != -1) = decide (0 ≤ since a x lo hi t) := by rw [Bool.eq_iff_iff]; simp only [bne_iff_ne, decide_eq_true_eq, ne_eq]; omega
      have s4 : trip' b c (since a x lo hi t) lo hi t z dn = bif trip b c (since a x lo hi t) lo hi t dn then true else z := by
        unfold trip' trip; rw [fine_eq h.2.2.1, s3]; cases z <;> cases (light b lo hi) <;> cases dn <;> cases (decide (0 ≤ since a x lo hi t)) <;> cases (decide (c < IntKind.i64.wrap (t - since a x lo hi t))) <;> rfl
      rw [s1, s4]
theorem reset_eq (a b c x y lo hi v t : Int) (z : Bool) : resetV' a b c x y lo hi v t z = resetV a b c x y lo hi v t z := by
  unfold resetV' resetV
  rw [rvalid_eq]
  cases hv : rvalid a b c x y
  · rfl
  · have h := rvalid_iff.1 hv
    rw [when_eq h.2.2.2.2.2.1, enough_eq h.1, fine_eq h.2.2.1]

def tk1 (a b c x y lo hi t : Int) : Int := bif !rvalid a b c x y then x else bif !inB t y 2147483648 then x else since a x lo hi t
def tk2 (a b c x y t : Int) : Int := bif !rvalid a b c x y then y else bif !inB t y 2147483648 then y else t
def tk3 (a b c x y lo hi t : Int) (z dn : Bool) : Bool := bif !rvalid a b c x y then z else bif !inB t y 2147483648 then z else bif trip b c (since a x lo hi t) lo hi t dn then true else z
def tkE (a b c x y t : Int) : Int := bif !rvalid a b c x y then 6 else bif !inB t y 2147483648 then 8 else 0
theorem tickV_eq (a b c x y lo hi t : Int) (z dn : Bool) : tickV a b c x y lo hi t z dn = .tup [pull (tk1 a b c x y lo hi t) (tk2 a b c x y t) (tk3 a b c x y lo hi t z dn), I (tkE a b c x y t)] := by
  unfold tickV tk1 tk2 tk3 tkE; cases rvalid a b c x y <;> cases inB t y 2147483648 <;> rfl
def rs1 (a b c x y lo hi v t : Int) (z : Bool) : Bool := !rvalid a b c x y || !inB t y 2147483648 || !z || (v != 0 || !enough a lo hi || !light b lo hi)
def rsE (a b c x y lo hi v t : Int) (z : Bool) : Int := bif !rvalid a b c x y then 6 else bif !inB t y 2147483648 then 8 else bif !z then 10 else bif v != 0 || !enough a lo hi || !light b lo hi then 51 else 0
theorem resetV_eq (a b c x y lo hi v t : Int) (z : Bool) : resetV a b c x y lo hi v t z = .tup [pull (bif rs1 a b c x y lo hi v t z then x else -1) (bif rs1 a b c x y lo hi v t z then y else t) (bif rs1 a b c x y lo hi v t z then z else false), I (rsE a b c x y lo hi v t z)] := by
  unfold resetV rs1 rsE; cases rvalid a b c x y <;> cases inB t y 2147483648 <;> cases z <;> cases (v != 0 || !enough a lo hi || !light b lo hi) <;> rfl

theorem tickA (a b c x y lo hi t : Int) (z dn : Bool) (nb : Nat) : CallOK Try.prog 18 [.agg [I a, I b, I c], .agg [I x, I y, B z], .agg [I lo, I hi], B dn, I t] [] nb (.tup [pull (tk1 a b c x y lo hi t) (tk2 a b c x y t) (tk3 a b c x y lo hi t z dn), I (tkE a b c x y t)]) [] nb := by
  rw [← tickV_eq]; exact tick_ok _ _ _ _ _ _ _ _ _ _ _
theorem tickB (a b c x y lo hi t : Int) (z dn : Bool) (nb : Nat) : CallOK Try.prog 16 [.agg [I a, I b, I c], .agg [I x, I y, B z], .agg [I lo, I hi], B dn, I t] [] nb (.tup [pull (tk1 a b c x y lo hi t) (tk2 a b c x y t) (tk3 a b c x y lo hi t z dn), I (tkE a b c x y t)]) [] nb := by
  rw [← tickV_eq, ← tick_eq]; exact tick'_ok _ _ _ _ _ _ _ _ _ _ _
theorem resetA (a b c x y lo hi v t : Int) (z : Bool) (nb : Nat) : CallOK Try.prog 17 [.agg [I a, I b, I c], .agg [I x, I y, B z], .agg [I lo, I hi], I v, I t] [] nb (.tup [pull (bif rs1 a b c x y lo hi v t z then x else -1) (bif rs1 a b c x y lo hi v t z then y else t) (bif rs1 a b c x y lo hi v t z then z else false), I (rsE a b c x y lo hi v t z)]) [] nb := by
  rw [← resetV_eq]; exact reset_ok _ _ _ _ _ _ _ _ _ _ _
theorem resetB (a b c x y lo hi v t : Int) (z : Bool) (nb : Nat) : CallOK Try.prog 15 [.agg [I a, I b, I c], .agg [I x, I y, B z], .agg [I lo, I hi], I v, I t] [] nb (.tup [pull (bif rs1 a b c x y lo hi v t z then x else -1) (bif rs1 a b c x y lo hi v t z then y else t) (bif rs1 a b c x y lo hi v t z then z else false), I (rsE a b c x y lo hi v t z)]) [] nb := by
  rw [← resetV_eq, ← reset_eq]; exact reset'_ok _ _ _ _ _ _ _ _ _ _ _
theorem slackB (a b c x y t : Int) (z : Bool) (nb : Nat) : CallOK Try.prog 20 [.agg [I a, I b, I c], .agg [I x, I y, B z], I t] [] nb (I (slackV a b c x y t)) [] nb := by
  rw [← slack_eq]; exact slack'_ok _ _ _ _ _ _ _ _
theorem validB (a b c x y : Int) (z : Bool) (nb : Nat) : CallOK Try.prog 22 [.agg [I a, I b, I c], .agg [I x, I y, B z]] [] nb (B (rvalid a b c x y)) [] nb := by
  rw [← rvalid_eq]; exact valid'_ok _ _ _ _ _ _ _
end Go.Proofs.Ythpopjlolgjkdaa
