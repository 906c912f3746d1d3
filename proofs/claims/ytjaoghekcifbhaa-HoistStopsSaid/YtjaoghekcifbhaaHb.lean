/- Hoists: what a tick makes of a ride; the reference's tick makes the same. No condition of its own. -/
import Derived.Test.YtjaoghekcifbhaaHa
set_option linter.all false
namespace Go.Proofs.Ytjaoghekcifbhaa
open Go.Pv M

def newS (tp dc sp ac : Int) (t : Bool) : Int := bif t then sp - max (-dc) (min sp dc) else max (-tp) (min (sp + max (-dc) (min ac dc)) tp)
def newA (dp at_ sp sp' : Int) : Int := max (-1000) (min (at_ + (sp + sp').tdiv 2) (dp + 1000))
theorem td2 {x : Int} (h : -80000 ≤ x ∧ x ≤ 80000) : -40000 ≤ x.tdiv 2 ∧ x.tdiv 2 ≤ 40000 := by
  rcases Int.le_total 0 x with h1 | h1
  · rw [Int.tdiv_eq_ediv_of_nonneg h1]; omega
  · have := Int.tdiv_eq_ediv_of_nonneg (a := -x) (b := 2) (by omega)
    rw [Int.neg_tdiv] at this; omega
theorem clamp_eq (N : Nat) (a b c : Int) : hoist_clamp N a b c = some (max b (min a c)) := rfl
theorem newS_bd {tp dc sp ac : Int} {t : Bool} (h1 : 1 ≤ tp ∧ tp ≤ 20000) (h2 : 1 ≤ dc ∧ dc ≤ 5000) (h3 : -40000 ≤ sp ∧ sp ≤ 40000) : -40000 ≤ newS tp dc sp ac t ∧ newS tp dc sp ac t ≤ 40000 := by
  unfold newS; cases t <;> simp only [cond_true, cond_false] <;> omega

theorem j1 {dp tp dc cr mg at_ sp ac x15 x16 x18 x19 : Int} {x14 x17 t : Bool} (h : vH dp tp dc cr mg) (hr : vR dp at_ sp) : hoist_Tick_J1 1000 ac dp tp dc cr mg at_ sp x14 x15 x16 x17 x18 x19 t = some ((newA dp at_ sp (newS tp dc sp ac t), (newS tp dc sp ac t, t)), 0) := by
  obtain ⟨h1, h2, h3, h4, h5⟩ := h
  obtain ⟨r1, r2⟩ := hr
  rw [hoist_Tick_J1_eq]
  have e1 : W (0 - dc) = -dc := by rw [W_eq (by omega) (by omega)]; omega
  have e2 : W (0 - tp) = -tp := by rw [W_eq (by omega) (by omega)]; omega
  have e3 : W (dp + 1000) = dp + 1000 := W_eq (by omega) (by omega)
  have bd := newS_bd (t := t) (ac := ac) h2 h3 r2
  have fin : W (at_ + (W ((W (sp + newS tp dc sp ac t)).tdiv 2))) = at_ + (sp + newS tp dc sp ac t).tdiv 2 := by
    have := td2 (x := sp + newS tp dc sp ac t) (by omega)
    rw [W_eq (n := sp + newS tp dc sp ac t) (by omega) (by omega), W_eq (n := (sp + newS tp dc sp ac t).tdiv 2) (by omega) (by omega), W_eq (by omega) (by omega)]
  cases t with
  | true =>
    simp only [cond_true, clamp_eq, bind_some', e1, e3]
    have e4 : W (sp - max (-dc) (min sp dc)) = newS tp dc sp ac true := by rw [W_eq (by omega) (by omega)]; rfl
    rw [e4, fin]; rfl
  | false =>
    simp only [cond_false, clamp_eq, bind_some', e1, e2, e3]
    have e4 : W (sp + max (-dc) (min ac dc)) = sp + max (-dc) (min ac dc) := W_eq (by omega) (by omega)
    rw [e4, show max (-tp) (min (sp + max (-dc) (min ac dc)) tp) = newS tp dc sp ac false from rfl, fin]; rfl
theorem j2 {dp tp dc cr mg at_ sp ac x15 x16 : Int} {x17 t : Bool} (h : vH dp tp dc cr mg) (hr : vR dp at_ sp) : ref37_Tick_J1 1000 ac dp tp dc cr mg at_ sp t x15 x16 x17 = some ((newA dp at_ sp (newS tp dc sp ac t), (newS tp dc sp ac t, t)), 0) := by
  obtain ⟨h1, h2, h3, h4, h5⟩ := h
  obtain ⟨r1, r2⟩ := hr
  rw [ref37_Tick_J1_eq]
  have e1 : W (0 - dc) = -dc := by rw [W_eq (by omega) (by omega)]; omega
  have e2 : W (0 - tp) = -tp := by rw [W_eq (by omega) (by omega)]; omega
  have e3 : W (dp + 1000) = dp + 1000 := W_eq (by omega) (by omega)
  have bd := newS_bd (t := t) (ac := ac) h2 h3 r2
  have fin : W (at_ + (W ((W (sp + newS tp dc sp ac t)).tdiv 2))) = at_ + (sp + newS tp dc sp ac t).tdiv 2 := by
    have := td2 (x := sp + newS tp dc sp ac t) (by omega)
    rw [W_eq (n := sp + newS tp dc sp ac t) (by omega) (by omega), W_eq (n := (sp + newS tp dc sp ac t).tdiv 2) (by omega) (by omega), W_eq (by omega) (by omega)]
  cases t with
  | true =>
    simp only [cond_true, e3]
    have en : newS tp dc sp ac true = sp - max (-dc) (min sp dc) := rfl
    by_cases hs : sp > 0
    · have e4 : max 0 (W (sp - dc)) = newS tp dc sp ac true := by rw [W_eq (by omega) (by omega), en]; omega
      simp only [hs, decide_true, cond_true]
      rw [e4, fin, Int.min_comm]; rfl
    · have e4 : min 0 (W (sp + dc)) = newS tp dc sp ac true := by rw [W_eq (by omega) (by omega), en]; omega
      simp only [hs, decide_false, cond_false]
      rw [e4, fin, Int.min_comm]; rfl
  | false =>
    simp only [cond_false, e1, e2, e3]
    have e4 : max (-tp) (min tp (W (sp + max (-dc) (min dc ac)))) = newS tp dc sp ac false := by
      rw [W_eq (by omega) (by omega)]
      show _ = max (-tp) (min (sp + max (-dc) (min ac dc)) tp)
      omega
    rw [e4, fin, Int.min_comm]; rfl

def rmV (dp at_ sp : Int) : Int := if 0 < sp then max 0 (dp - at_) else max 0 at_
theorem rm_pos {dp at_ sp : Int} (h : sp > 0) : rmV dp at_ sp = max 0 (dp - at_) := if_pos h
theorem rm_neg {dp at_ sp : Int} (h : ¬ sp > 0) : rmV dp at_ sp = max 0 at_ := if_neg h
/-- Whether a ride has tripped. -/
def trp (dp tp dc cr mg at_ sp : Int) (z : Bool) : Bool := z || (decide (max sp (-sp) > limitV tp dc cr (rmV dp at_ sp) * (100 + mg) / 100) || !(decide (0 ≤ at_) && decide (at_ ≤ dp)))

theorem lim_w {tp mg L : Int} (h2 : 1 ≤ tp ∧ tp ≤ 20000) (h5 : 0 ≤ mg ∧ mg ≤ 20) (hL : 0 ≤ L ∧ L ≤ tp) : W ((W (L * (W (100 + mg)))).tdiv 100) = L * (100 + mg) / 100 ∧ 0 ≤ L * (100 + mg) / 100 := by
  have p := mul_bd (a := L) (b := 100 + mg) (A := 20000) (B := 120) (by omega) (by omega)
  rw [W_eq (n := 100 + mg) (by omega) (by omega), W_eq (n := L * (100 + mg)) (by omega) (by omega), Int.tdiv_eq_ediv_of_nonneg p.1, W_eq (by omega) (by omega)]
  exact ⟨rfl, by omega⟩

theorem tick_bad (N : Nat) {dp tp dc cr mg at_ sp ac : Int} {z : Bool} (h : ¬ (vH dp tp dc cr mg ∧ vR dp at_ sp)) : hoist_Tick N (dp, tp, dc, cr, mg) (at_, sp, z) ac = some ((at_, sp, z), 6) := by
  unfold hoist_Tick
  rw [valid_eq1, show vF dp tp dc cr mg at_ sp = false from decide_eq_false h]; rfl
theorem tick_bad2 (N : Nat) {dp tp dc cr mg at_ sp ac : Int} {z : Bool} (h : ¬ (vH dp tp dc cr mg ∧ vR dp at_ sp)) : ref37_Tick N (dp, tp, dc, cr, mg) (at_, sp, z) ac = some ((at_, sp, z), 6) := by
  unfold ref37_Tick
  rw [valid_eq2, show vF dp tp dc cr mg at_ sp = false from decide_eq_false h]; rfl

theorem tick_spec {dp tp dc cr mg at_ sp ac : Int} {z : Bool} (h : vH dp tp dc cr mg) (hr : vR dp at_ sp) : hoist_Tick 1000 (dp, tp, dc, cr, mg) (at_, sp, z) ac = some ((newA dp at_ sp (newS tp dc sp ac (trp dp tp dc cr mg at_ sp z)), (newS tp dc sp ac (trp dp tp dc cr mg at_ sp z), trp dp tp dc cr mg at_ sp z)), 0) := by
  have hh := h
  have hhr := hr
  obtain ⟨h1, h2, h3, h4, h5⟩ := h
  obtain ⟨r1, r2⟩ := hr
  unfold hoist_Tick
  rw [valid_eq1, show vF dp tp dc cr mg at_ sp = true from decide_eq_true ⟨hh, hhr⟩, bind_some']
  simp only [Bool.not_true, cond_false]
  have hroom : ∃ R, hoist_room 1000 (dp, tp, dc, cr, mg) (at_, sp, z) = some R ∧ (sp ≠ 0 → R = rmV dp at_ sp) := by
    unfold hoist_room
    by_cases c1 : sp > 0
    · simp only [c1, decide_true, cond_true]
      rw [W_eq (by omega) (by omega)]
      exact ⟨_, rfl, fun _ => (rm_pos c1).symm⟩
    · by_cases c2 : sp < 0
      · simp only [c1, c2, decide_true, decide_false, cond_true, cond_false]
        exact ⟨_, rfl, fun _ => (rm_neg c1).symm⟩
      · simp only [c1, c2, decide_false, cond_false]
        exact ⟨_, rfl, fun hn => absurd (show sp = 0 by omega) hn⟩
  obtain ⟨R, eR, hR⟩ := hroom
  rw [eR, bind_some', limit_eq 1000 hh, bind_some']
  have hL := limitV_bd (tp := tp) (dc := dc) (cr := cr) (rm := R) h2.1 h4.1
  have hL' := limitV_bd (tp := tp) (dc := dc) (cr := cr) (rm := rmV dp at_ sp) h2.1 h4.1
  obtain ⟨w1, w2⟩ := lim_w h2 h5 hL
  obtain ⟨w1', w2'⟩ := lim_w h2 h5 hL'
  have hf : (decide (max sp (W (0 - sp)) > W ((W (limitV tp dc cr R * (W (100 + mg)))).tdiv 100))) = decide (max sp (-sp) > limitV tp dc cr (rmV dp at_ sp) * (100 + mg) / 100) := by
    rw [w1, W_eq (n := 0 - sp) (by omega) (by omega)]
    by_cases hs : sp = 0
    · rw [decide_eq_false (by omega), decide_eq_false (by omega)]
    · rw [hR hs, show (0 : Int) - sp = -sp by omega]
  cases z with
  | true =>
    simp only [cond_true]
    rw [j1 hh hhr]; rfl
  | false =>
    simp only [cond_false]
    rw [hf, in_eq, bind_some', j1 hh hhr, j1 hh hhr]
    unfold trp
    cases decide (max sp (-sp) > limitV tp dc cr (rmV dp at_ sp) * (100 + mg) / 100) <;> simp only [cond_true, cond_false, Bool.false_or, Bool.true_or]

theorem tick_spec2 {dp tp dc cr mg at_ sp ac : Int} {z : Bool} (h : vH dp tp dc cr mg) (hr : vR dp at_ sp) : ref37_Tick 1000 (dp, tp, dc, cr, mg) (at_, sp, z) ac = some ((newA dp at_ sp (newS tp dc sp ac (trp dp tp dc cr mg at_ sp z)), (newS tp dc sp ac (trp dp tp dc cr mg at_ sp z), trp dp tp dc cr mg at_ sp z)), 0) := by
  have hh := h
  have hhr := hr
  obtain ⟨h1, h2, h3, h4, h5⟩ := h
  obtain ⟨r1, r2⟩ := hr
  unfold ref37_Tick
  rw [valid_eq2, show vF dp tp dc cr mg at_ sp = true from decide_eq_true ⟨hh, hhr⟩, bind_some']
  simp only [Bool.not_true, cond_false]
  have hroom : ref37_room 1000 (dp, tp, dc, cr, mg) (at_, sp, z) = some (rmV dp at_ sp) := by
    unfold ref37_room
    by_cases c1 : sp > 0
    · simp only [c1, decide_true, cond_true]
      rw [W_eq (by omega) (by omega), rm_pos c1]
    · simp only [c1, decide_false, cond_false]
      rw [rm_neg c1]
  have hsz : ref37_size 1000 sp = some (max sp (-sp)) := by
    unfold ref37_size
    rw [W_eq (by omega) (by omega), show (0 : Int) - sp = -sp by omega]
  rw [hsz, bind_some', hroom, bind_some', limit_eq2 hh, bind_some']
  have hL' := limitV_bd (tp := tp) (dc := dc) (cr := cr) (rm := rmV dp at_ sp) h2.1 h4.1
  rw [(lim_w h2 h5 hL').1, j2 hh hhr, j2 hh hhr]
  unfold trp
  by_cases a1 : at_ < 0
  · have a2 : ¬ 0 ≤ at_ := by omega
    simp only [a1, a2, decide_true, decide_false, cond_true, Bool.false_and, Bool.not_false, Bool.or_true]
    cases decide (max sp (-sp) > limitV tp dc cr (rmV dp at_ sp) * (100 + mg) / 100) <;> rfl
  · by_cases a3 : at_ > dp
    · have a2 : ¬ at_ ≤ dp := by omega
      simp only [a1, a2, a3, decide_true, decide_false, cond_true, cond_false, Bool.and_false, Bool.not_false, Bool.or_true]
      cases decide (max sp (-sp) > limitV tp dc cr (rmV dp at_ sp) * (100 + mg) / 100) <;> rfl
    · have a2 : 0 ≤ at_ := by omega
      have a4 : at_ ≤ dp := by omega
      simp only [a1, a2, a3, a4, decide_true, decide_false, cond_false, Bool.and_true, Bool.not_true, Bool.or_false]
      cases decide (max sp (-sp) > limitV tp dc cr (rmV dp at_ sp) * (100 + mg) / 100) <;> simp only [cond_true, cond_false, Bool.or_true, Bool.or_false]

theorem reset_same (N : Nat) (h : T_Hoist) (r : T_Ride) : hoist_Reset N h r = ref37_Reset N h r := by
  obtain ⟨dp, tp, dc, cr, mg⟩ := h
  obtain ⟨at_, sp, z⟩ := r
  unfold hoist_Reset ref37_Reset
  rw [valid_eq1, valid_eq2]
theorem reset_some (N : Nat) (h : T_Hoist) (r : T_Ride) : ∃ y, ref37_Reset N h r = some y := by
  obtain ⟨dp, tp, dc, cr, mg⟩ := h
  obtain ⟨at_, sp, z⟩ := r
  unfold ref37_Reset
  rw [valid_eq2, bind_some']
  simp only
  cases vF dp tp dc cr mg at_ sp <;> cases (sp != 0) <;> cases z <;> exact ⟨_, rfl⟩
theorem tick_same (h : T_Hoist) (r : T_Ride) (ac : Int) : ∃ y, hoist_Tick 1000 h r ac = some y ∧ ref37_Tick 1000 h r ac = some y := by
  obtain ⟨dp, tp, dc, cr, mg⟩ := h
  obtain ⟨at_, sp, z⟩ := r
  by_cases hv : vH dp tp dc cr mg ∧ vR dp at_ sp
  · exact ⟨_, tick_spec hv.1 hv.2, tick_spec2 hv.1 hv.2⟩
  · exact ⟨_, tick_bad 1000 hv, tick_bad2 1000 hv⟩
theorem agree_true (h : T_Hoist) (r : T_Ride) (ac : Int) : law37_agree 1000 h r ac = some true := by
  unfold law37_agree
  obtain ⟨y, e1, e2⟩ := tick_same h r ac
  obtain ⟨w, e4⟩ := reset_some 1000 h r
  rw [reset_same, e1, e2, e4]
  have e5 : ∀ a, hoist_Valid 1000 h r = some a → ref37_Valid 1000 h r = some a := fun a => by
    obtain ⟨dp, tp, dc, cr, mg⟩ := h
    obtain ⟨at_, sp, z⟩ := r
    rw [valid_eq1, valid_eq2]; exact id
  have e6 : ∃ a, hoist_Valid 1000 h r = some a := by
    obtain ⟨dp, tp, dc, cr, mg⟩ := h
    obtain ⟨at_, sp, z⟩ := r
    exact ⟨_, valid_eq1 ..⟩
  obtain ⟨a, e6⟩ := e6
  simp only [bind_some', beq_self_eq_true, Bool.and_self, cond_true, e6, e5 a e6]

/-! ### The example -/
theorem limX_is {m : Int} {t x : Nat} (h1 : x ≤ t) (h2 : (x : Int) * x ≤ m) (h3 : m < ((x : Int) + 1) * (x + 1)) : limX m t = x := by
  have a := limX_max t x h1 h2
  have b := limX_sq (m := m) (by have := Int.mul_nonneg (show (0 : Int) ≤ x by omega) (show (0 : Int) ≤ x by omega); omega) t
  rcases Nat.lt_or_ge x (limX m t) with h | h
  · have := sq_mono (a := (x : Int) + 1) (b := limX m t) (by omega) (by omega)
    omega
  · omega
theorem awake_eq : law37_awake 1000 = some true := by
  have hv : vH 500000 15000 1000 300 10 := by decide
  have l1 : limitV 15000 1000 300 50000 = 10300 := by
    unfold limitV
    rw [show (15000 : Int).toNat = 15000 from rfl, show 2 * 1000 * min 50000 ((15000 : Int) * 15000) = 100000000 by decide, limX_is (x := 10000) (by omega) (by decide) (by decide)]
    decide
  have l2 : limitV 15000 1000 300 0 = 300 := by
    unfold limitV
    rw [decide_eq_true (by decide)]; decide
  have l3 : limitV 15000 1000 300 (rmV 500000 499000 9000) = 1714 := by
    unfold limitV
    rw [show rmV 500000 499000 9000 = 1000 by decide, show (15000 : Int).toNat = 15000 from rfl, show 2 * 1000 * min 1000 ((15000 : Int) * 15000) = 2000000 by decide, limX_is (x := 1414) (by omega) (by decide) (by decide)]
    decide
  have ht : trp 500000 15000 1000 300 10 499000 9000 false = true := by
    unfold trp
    rw [l3]; decide
  unfold law37_awake
  rw [show law37_shaft 1000 = some (500000, (15000, (1000, (300, 10)))) from rfl, bind_some', tick_spec hv (by decide), bind_some', bind_some', limit_eq 1000 hv, bind_some', l1]
  simp only [bind_some', limit_eq 1000 hv, l2, ht]
  decide

theorem raw_true (h : T_Hoist) (r : T_Ride) (ac : Int) : law37_HoistRaw 1000 h r ac = some true := by
  unfold law37_HoistRaw
  rw [awake_eq, bind_some', cond_true, agree_true, bind_some', cond_true]
  rw [show law37_shaft 1000 = some (500000, (15000, (1000, (300, 10)))) from rfl, bind_some', agree_true]; rfl
end Go.Proofs.Ytjaoghekcifbhaa
