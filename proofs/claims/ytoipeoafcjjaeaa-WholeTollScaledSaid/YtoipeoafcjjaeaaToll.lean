/- BLOCKS HAVE NO SIZE, AND TICKS ADD UP: the walks of the toll's functions, and the plain law. No conditions. -/
import Derived.Test.YtoipeoafcjjaeaaCode
import Derived.Test.YtoipeoafcjjaeaaDamD
namespace Go.Dam.S
open Go Go.Dam
/-! ### fill -/
def fillP (l e m t : Int) : Int := if m ≤ l + e * t then m else l + e * t
theorem ceil_iff {l e m t : Int} (he : 0 < e) (hl : l ≤ m) : t ≥ (m - l + e - 1).tdiv e ↔ m ≤ l + e * t := by
  rw [Int.tdiv_eq_ediv_of_nonneg (by omega)]
  have h := Int.ediv_lt_iff_lt_mul (a := m - l + e - 1) (b := t + 1) he
  rw [Int.add_mul, Int.one_mul, Int.mul_comm t e] at h
  omega
theorem mul_le {a b c d : Int} (h0 : 0 ≤ a) (h1 : a ≤ c) (h2 : 0 ≤ b) (h3 : b ≤ d) : a * b ≤ c * d := Int.mul_le_mul h1 h3 h2 (Int.le_trans h0 h1)
theorem fill_ok {l e m t : Int} {h : H} (hl : 0 ≤ l) (hm : l ≤ m) (hm1 : m ≤ 1073741824) (he : 0 ≤ e) (he1 : e ≤ 1073741824) (ht : 0 ≤ t) (ht1 : t ≤ 4294967296) {K : AV → H → Prop} (hK : K (.int .i64 (fillP l e m t)) h) :
    Cw T 137 [.int .i64 l, .int .i64 e, .int .i64 m, .int .i64 t] h K := by
  refine cw_intro 100 (ex137 _) fn137 ?_
  have w1 : IntKind.i64.wrap (m - l) = m - l := i64_id (by omega) (by omega)
  have w2 : IntKind.i64.wrap (m - l + e) = m - l + e := i64_id (by omega) (by omega)
  have w3 : IntKind.i64.wrap (m - l + e - 1) = m - l + e - 1 := i64_id (by omega) (by omega)
  have p := mul_le he he1 ht ht1
  have p0 : 0 ≤ e * t := Int.mul_nonneg he ht
  have w5 : IntKind.i64.wrap (e * t) = e * t := i64_id (by omega) (by omega)
  have w6 : IntKind.i64.wrap (l + e * t) = l + e * t := i64_id (by omega) (by omega)
  unfold fillP at hK
  refine sel_intro (fun c1 => ?_) (fun c1 => ?_)
  · have c1' : e > 0 := by simpa using c1
    have hq : ((m - l + e - 1).tdiv e) ≤ m - l + e - 1 := by
      rw [Int.tdiv_eq_ediv_of_nonneg (by omega)]
      exact Int.ediv_le_self _ (by omega)
    have hq0 : 0 ≤ ((m - l + e - 1).tdiv e) := Int.tdiv_nonneg (by omega) (by omega)
    have w4 : IntKind.i64.wrap ((m - l + e - 1).tdiv e) = (m - l + e - 1).tdiv e := i64_id (by omega) (by omega)
    refine And.intro ⟨rfl, by omega⟩ ?_
    refine sel_intro (fun c2 => ?_) (fun c2 => ?_)
    · have c2 : decide (t ≥ IntKind.i64.wrap ((IntKind.i64.wrap (IntKind.i64.wrap (IntKind.i64.wrap (m - l) + e) - 1)).tdiv e)) = true := c2
      rw [w1, w2, w3, w4, decide_eq_true_eq] at c2
      rw [if_pos ((ceil_iff c1' hm).1 c2)] at hK
      exact And.intro rfl hK
    · have c2 : decide (t ≥ IntKind.i64.wrap ((IntKind.i64.wrap (IntKind.i64.wrap (IntKind.i64.wrap (m - l) + e) - 1)).tdiv e)) = false := c2
      rw [w1, w2, w3, w4, decide_eq_false_iff_not] at c2
      rw [if_neg (fun h => c2 ((ceil_iff c1' hm).2 h))] at hK
      refine And.intro rfl ?_
      show K (.int .i64 (IntKind.i64.wrap (l + IntKind.i64.wrap (e * t)))) h
      rw [w5, w6]
      exact hK
  · have c1' : ¬ e > 0 := by simpa using c1
    have e0 : e = 0 := by omega
    have : (if m ≤ l + e * t then m else l + e * t) = l + e * t := by
      rw [e0, Int.zero_mul]
      split <;> omega
    rw [this] at hK
    refine And.intro rfl ?_
    show K (.int .i64 (IntKind.i64.wrap (l + IntKind.i64.wrap (e * t)))) h
    rw [w5, w6]
    exact hK

/-! ### rates -/
def RightP (F FT B BT : Int) : Prop := (0 ≤ F ∧ F ≤ 1073741824) ∧ (0 ≤ FT ∧ FT ≤ 1073741824) ∧ (0 ≤ B ∧ B ≤ 1073741824) ∧ (0 ≤ BT ∧ BT ≤ 1073741824) ∧ 1 ≤ F ∧ 1 ≤ B
def rates (F FT B BT : Int) : AV := .agg 73 [.int .i64 F, .int .i64 FT, .int .i64 B, .int .i64 BT]
theorem right_ok {F FT B BT : Int} {h : H} {K : AV → H → Prop} (h1 : RightP F FT B BT → ∀ h', Keep h h' → K (.bool true) h') (h0 : ¬ RightP F FT B BT → ∀ h', Keep h h' → K (.bool false) h') : Cw T 35 [rates F FT B BT] h K := by
  refine cw_intro 100 (ex35 _) fn35 ?_
  unfold RightP at h1 h0
  refine And.intro rfl (fun g1 m1 => ?_)
  have a1 := m1.at
  have k1 : Keep h g1 := (Keep.refl h).new m1 (Nat.le_refl _)
  refine And.intro rfl ⟨_, _, _, a1, ?_⟩
  refine And.intro rfl ⟨_, _, _, a1, ?_⟩
  refine And.intro rfl ⟨_, _, _, a1, ?_⟩
  refine And.intro rfl ⟨_, _, _, a1, ?_⟩
  refine wp_loopA (px_sound T 100 _ _ _ _ ?_)
  refine And.intro ⟨rfl, by decide, by decide⟩ ?_
  refine sel_intro (fun c1a => ?_) (fun c1a => ?_)
  · exact And.intro rfl (h0 (by simp only [decide_eq_true_eq] at c1a; omega) _ k1)
  refine sel_intro (fun c1b => ?_) (fun c1b => ?_)
  · exact And.intro rfl (h0 (by simp only [decide_eq_true_eq] at c1b; omega) _ k1)
  refine wp_inLoop (px_sound T 100 _ _ _ _ ?_)
  refine And.intro ⟨rfl, by decide, by decide⟩ ?_
  refine sel_intro (fun c2a => ?_) (fun c2a => ?_)
  · exact And.intro rfl (h0 (by simp only [decide_eq_true_eq] at c2a; omega) _ k1)
  refine sel_intro (fun c2b => ?_) (fun c2b => ?_)
  · exact And.intro rfl (h0 (by simp only [decide_eq_true_eq] at c2b; omega) _ k1)
  refine wp_inLoop (px_sound T 100 _ _ _ _ ?_)
  refine And.intro ⟨rfl, by decide, by decide⟩ ?_
  refine sel_intro (fun c3a => ?_) (fun c3a => ?_)
  · exact And.intro rfl (h0 (by simp only [decide_eq_true_eq] at c3a; omega) _ k1)
  refine sel_intro (fun c3b => ?_) (fun c3b => ?_)
  · exact And.intro rfl (h0 (by simp only [decide_eq_true_eq] at c3b; omega) _ k1)
  refine wp_inLoop (px_sound T 100 _ _ _ _ ?_)
  refine And.intro ⟨rfl, by decide, by decide⟩ ?_
  refine sel_intro (fun c4a => ?_) (fun c4a => ?_)
  · exact And.intro rfl (h0 (by simp only [decide_eq_true_eq] at c4a; omega) _ k1)
  refine sel_intro (fun c4b => ?_) (fun c4b => ?_)
  · exact And.intro rfl (h0 (by simp only [decide_eq_true_eq] at c4b; omega) _ k1)
  refine wp_inLoop (px_sound T 100 _ _ _ _ ?_)
  refine And.intro rfl ⟨_, _, _, a1, ?_⟩
  simp only [decide_eq_false_iff_not] at c1a c1b c2a c2b c3a c3b c4a c4b
  refine sel_intro (fun c5 => ?_) (fun c5 => ?_)
  · refine And.intro rfl ⟨_, _, _, a1, ?_⟩
    simp only [decide_eq_true_eq] at c5
    refine And.intro rfl ?_
    show K (.bool (decide (B ≥ 1))) g1
    by_cases hB : B ≥ 1
    · rw [decide_eq_true hB]
      exact h1 (by omega) _ k1
    · rw [decide_eq_false hB]
      exact h0 (by omega) _ k1
  · simp only [decide_eq_false_iff_not] at c5
    exact And.intro rfl (h0 (by omega) _ k1)

/-! ### tolls -/
def tollB (F FT B BT fr bl ow : Int) : Blk := .row .fixed 182 [.agg 182 [rates F FT B BT, .int .i64 fr, .int .i64 bl, .int .i64 ow]]
theorem tnew_ok {F FT B BT : Int} {h : H} {K : AV → H → Prop} (h1 : RightP F FT B BT → ∀ h' b, Keep h h' → h.next ≤ b → b < h'.next → h'.get b = some (tollB F FT B BT F B 0) → K (.tup [.ptr b [0] 182, .int .i64 0]) h')
    (h0 : ¬ RightP F FT B BT → ∀ h', Keep h h' → K (.tup [.nilp, .int .i64 1]) h') : Cw T 36 [rates F FT B BT] h K := by
  refine cw_intro 100 (ex36 _) fn36 ?_
  refine And.intro rfl (fun g1 m1 => ?_)
  have a1 := m1.at
  have k1 : Keep h g1 := (Keep.refl h).new m1 (Nat.le_refl _)
  refine And.intro rfl ⟨_, _, _, a1, ?_⟩
  refine right_ok (fun hr g2 k2 => ?_) (fun hr g2 k2 => ?_)
  · have q1 := m1.nx
    have a2 := k2.to a1 (by omega)
    refine And.intro rfl ⟨_, _, _, a2, ?_⟩
    refine And.intro rfl ⟨_, _, _, a2, ?_⟩
    refine And.intro rfl ⟨_, _, _, a2, ?_⟩
    refine And.intro rfl (fun g3 m3 => ?_)
    have q2 := k2.1
    exact And.intro rfl (And.intro rfl (h1 hr g3 g2.next ((k1.trans k2).new m3 (by omega)) (by omega) (by rw [m3.nx]; omega) m3.at))
  · exact And.intro rfl (And.intro rfl (h0 hr g2 (k1.trans k2)))
theorem left_ok {b : Nat} {F FT B BT fr bl ow : Int} {h : H} (hb : h.get b = some (tollB F FT B BT fr bl ow)) {K : AV → H → Prop} (hK : ∀ h', Keep h h' → K (.tup [.int .i64 fr, .int .i64 bl]) h') : Cw T 38 [.ptr b [0] 182] h K := by
  refine cw_intro 100 (ex38 _) fn38 ?_
  refine And.intro rfl ⟨_, _, _, hb, ?_⟩
  refine And.intro rfl ⟨_, _, _, hb, ?_⟩
  exact And.intro rfl (And.intro rfl (hK _ (Keep.bump _ _)))
theorem most_ok {F FT B BT n : Int} (hr : RightP F FT B BT) (h0 : 0 ≤ n) (h1 : n ≤ 1073741824) {h : H} {K : AV → H → Prop} (hK : ∀ h', Keep h h' → K (.int .i64 (B + BT * n)) h') : Cw T 39 [rates F FT B BT, .int .i64 n] h K := by
  refine cw_intro 100 (ex39 _) fn39 ?_
  refine And.intro rfl (fun g1 m1 => ?_)
  have a1 := m1.at
  have k1 : Keep h g1 := (Keep.refl h).new m1 (Nat.le_refl _)
  have q1 := m1.nx
  refine And.intro rfl ⟨_, _, _, a1, ?_⟩
  refine right_ok (fun _ g2 k2 => ?_) (fun hn => (hn hr).elim)
  have a2 := k2.to a1 (by omega)
  refine sel_intro (fun c1 => ?_) (fun c1 => ?_)
  · exfalso; simp only [decide_eq_true_eq] at c1; omega
  refine sel_intro (fun c2 => ?_) (fun c2 => ?_)
  · exfalso; simp only [decide_eq_true_eq] at c2; omega
  refine And.intro rfl ⟨_, _, _, a2, ?_⟩
  refine And.intro rfl ⟨_, _, _, a2, ?_⟩
  refine And.intro rfl ?_
  show K (.int .i64 (IntKind.i64.wrap (B + IntKind.i64.wrap (BT * n)))) g2
  unfold RightP at hr
  have p := mul_le hr.2.2.2.1.1 hr.2.2.2.1.2 h0 h1
  have p0 : 0 ≤ BT * n := Int.mul_nonneg hr.2.2.2.1.1 h0
  rw [i64_id (a := BT * n) (by omega) (by omega), i64_id (by omega) (by omega)]
  exact hK g2 (k1.trans k2)

/-- what a toll is: the rates, what is left, what is owed -/
structure TollP (F FT B BT fr bl ow : Int) : Prop where
  r : RightP F FT B BT
  f0 : 0 ≤ fr
  f1 : fr ≤ F
  b0 : 0 ≤ bl
  b1 : bl ≤ B
  o0 : 0 ≤ ow
  o1 : ow ≤ 1073741824 * 200
def frameP (fr bl ow n : Int) : Int × Int × Int × Int := if n < 0 then (1, fr, bl, ow) else if fr < 1 ∨ bl < n then (26, fr, bl, ow) else (0, fr - 1, bl - n, ow)
def holdP (fr bl ow n : Int) : Int × Int × Int × Int := if n < 0 then (1, fr, bl, ow) else if bl < n then (26, fr, bl, ow) else (0, fr, bl - n, ow + n)
def settleP (B fr bl ow n : Int) : Int × Int × Int × Int := if n < 0 ∨ n > ow then (1, fr, bl, ow) else (0, fr, (if bl + ow - n < B then bl + ow - n else B), 0)
def tickP (F FT B BT fr bl ow n : Int) : Int × Int × Int × Int := if n < 0 then (1, fr, bl, ow) else (0, fillP fr FT F n, fillP bl BT B n, ow)
/-- how a call on a toll may end -/
def Did (b : Nat) (F FT B BT : Int) (h : H) (p : Int × Int × Int × Int) (K : AV → H → Prop) : Prop := ∀ h', Fr (fun c => c = b) h h' → h'.get b = some (tollB F FT B BT p.2.1 p.2.2.1 p.2.2.2) → K (.int .i64 p.1) h'
section
variable {b : Nat} {F FT B BT fr bl ow n : Int} {h : H} (hb : h.get b = some (tollB F FT B BT fr bl ow)) (t : TollP F FT B BT fr bl ow) {K : AV → H → Prop}
include hb t
theorem frame_ok (hK : Did b F FT B BT h (frameP fr bl ow n) K) : Cw T 80 [.ptr b [0] 182, .int .i64 n] h K := by
  obtain ⟨r, f0, f1, b0, b1, o0, o1⟩ := t
  unfold RightP at r
  refine cw_intro 100 (ex80 _) fn80 ?_
  unfold frameP Did at hK
  refine sel_intro (fun c1 => ?_) (fun c1 => ?_)
  · rw [if_pos (by simpa using c1)] at hK
    exact And.intro rfl (hK _ (Fr.refl _ _) hb)
  rw [if_neg (by simpa using c1)] at hK
  refine And.intro rfl ⟨_, _, _, hb, ?_⟩
  refine sel_intro (fun c2 => ?_) (fun c2 => ?_)
  · rw [if_pos (.inl (by simpa using c2))] at hK
    exact And.intro rfl (hK _ (Fr.refl _ _) hb)
  refine And.intro rfl ⟨_, _, _, hb, ?_⟩
  refine sel_intro (fun c3 => ?_) (fun c3 => ?_)
  · rw [if_pos (.inr (by simpa using c3))] at hK
    exact And.intro rfl (hK _ (Fr.refl _ _) hb)
  simp only [decide_eq_false_iff_not] at c1 c2 c3
  rw [if_neg (by omega)] at hK
  refine And.intro rfl ⟨_, _, _, hb, ?_⟩
  refine And.intro ⟨rfl, rfl⟩ ⟨_, _, _, hb, by decide, fun g1 u1 => ?_⟩
  refine And.intro rfl ⟨_, _, _, u1.at, ?_⟩
  refine And.intro ⟨rfl, rfl⟩ ⟨_, _, _, u1.at, by decide, fun g2 u2 => ?_⟩
  refine And.intro rfl (hK _ (((Fr.refl (fun c => c = b) _).upd u1 (.inl rfl)).upd u2 (.inl rfl)) ?_)
  have a2 := u2.at
  rw [i64_id (a := fr - 1) (by omega) (by omega), i64_id (a := bl - n) (by omega) (by omega)] at a2
  exact a2
theorem hold_ok (hn : n ≤ 1073741824 * 100) (ho : ow ≤ 1073741824 * 100) (hK : Did b F FT B BT h (holdP fr bl ow n) K) : Cw T 86 [.ptr b [0] 182, .int .i64 n] h K := by
  obtain ⟨r, f0, f1, b0, b1, o0, o1⟩ := t
  unfold RightP at r
  refine cw_intro 100 (ex86 _) fn86 ?_
  unfold holdP Did at hK
  refine sel_intro (fun c1 => ?_) (fun c1 => ?_)
  · rw [if_pos (by simpa using c1)] at hK
    exact And.intro rfl (hK _ (Fr.refl _ _) hb)
  rw [if_neg (by simpa using c1)] at hK
  refine And.intro rfl ⟨_, _, _, hb, ?_⟩
  refine sel_intro (fun c2 => ?_) (fun c2 => ?_)
  · rw [if_pos (by simpa using c2)] at hK
    exact And.intro rfl (hK _ (Fr.refl _ _) hb)
  simp only [decide_eq_false_iff_not] at c1 c2
  rw [if_neg (by omega)] at hK
  refine And.intro rfl ⟨_, _, _, hb, ?_⟩
  refine And.intro ⟨rfl, rfl⟩ ⟨_, _, _, hb, by decide, fun g1 u1 => ?_⟩
  refine And.intro rfl ⟨_, _, _, u1.at, ?_⟩
  refine And.intro ⟨rfl, rfl⟩ ⟨_, _, _, u1.at, by decide, fun g2 u2 => ?_⟩
  refine And.intro rfl (hK _ (((Fr.refl (fun c => c = b) _).upd u1 (.inl rfl)).upd u2 (.inl rfl)) ?_)
  have a2 := u2.at
  rw [i64_id (a := ow + n) (by omega) (by omega), i64_id (a := bl - n) (by omega) (by omega)] at a2
  exact a2
theorem settle_ok (hK : Did b F FT B BT h (settleP B fr bl ow n) K) : Cw T 87 [.ptr b [0] 182, .int .i64 n] h K := by
  obtain ⟨r, f0, f1, b0, b1, o0, o1⟩ := t
  unfold RightP at r
  refine cw_intro 100 (ex87 _) fn87 ?_
  unfold settleP Did at hK
  refine sel_intro (fun c1 => ?_) (fun c1 => ?_)
  · rw [if_pos (.inl (by simpa using c1))] at hK
    exact And.intro rfl (hK _ (Fr.refl _ _) hb)
  refine And.intro rfl ⟨_, _, _, hb, ?_⟩
  refine sel_intro (fun c2 => ?_) (fun c2 => ?_)
  · rw [if_pos (.inr (by simpa using c2))] at hK
    exact And.intro rfl (hK _ (Fr.refl _ _) hb)
  simp only [decide_eq_false_iff_not] at c1 c2
  rw [if_neg (by omega)] at hK
  refine And.intro rfl ⟨_, _, _, hb, ?_⟩
  refine And.intro rfl ⟨_, _, _, hb, ?_⟩
  refine And.intro rfl ⟨_, _, _, hb, ?_⟩
  refine And.intro ⟨rfl, rfl⟩ ⟨_, _, _, hb, by decide, fun g1 u1 => ?_⟩
  refine And.intro ⟨rfl, rfl⟩ ⟨_, _, _, u1.at, by decide, fun g2 u2 => ?_⟩
  refine And.intro rfl (hK _ ((((Fr.refl (fun c => c = b) _).bump).upd u1 (.inl rfl)).upd u2 (.inl rfl)) ?_)
  have a2 := u2.at
  rw [i64_id (a := bl + ow) (by omega) (by omega), i64_id (a := bl + ow - n) (by omega) (by omega)] at a2
  exact a2
theorem tick_ok (hn : n ≤ 4294967296) (hK : Did b F FT B BT h (tickP F FT B BT fr bl ow n) K) : Cw T 85 [.ptr b [0] 182, .int .i64 n] h K := by
  obtain ⟨r, f0, f1, b0, b1, o0, o1⟩ := t
  unfold RightP at r
  refine cw_intro 200 (ex85 _) fn85 ?_
  unfold tickP Did at hK
  refine sel_intro (fun c1 => ?_) (fun c1 => ?_)
  · rw [if_pos (by simpa using c1)] at hK
    exact And.intro rfl (hK _ (Fr.refl _ _) hb)
  rw [if_neg (by simpa using c1)] at hK
  simp only [decide_eq_false_iff_not] at c1
  refine And.intro rfl ⟨_, _, _, hb, ?_⟩
  refine And.intro rfl ⟨_, _, _, hb, ?_⟩
  refine And.intro rfl ⟨_, _, _, hb, ?_⟩
  refine fill_ok (by omega) (by omega) (by omega) (by omega) (by omega) (by omega) (by omega) ?_
  refine And.intro ⟨rfl, rfl⟩ ⟨_, _, _, hb, by decide, fun g1 u1 => ?_⟩
  refine And.intro rfl ⟨_, _, _, u1.at, ?_⟩
  refine And.intro rfl ⟨_, _, _, u1.at, ?_⟩
  refine And.intro rfl ⟨_, _, _, u1.at, ?_⟩
  refine fill_ok (by omega) (by omega) (by omega) (by omega) (by omega) (by omega) (by omega) ?_
  refine And.intro ⟨rfl, rfl⟩ ⟨_, _, _, u1.at, by decide, fun g2 u2 => ?_⟩
  exact And.intro rfl (hK _ (((((Fr.refl (fun c => c = b) _).bump).upd u1 (.inl rfl)).bump).upd u2 (.inl rfl)) u2.at)
end

theorem fill_add {l e m a c : Int} (he : 0 ≤ e) (ha : 0 ≤ a) (hc : 0 ≤ c) (_ : l ≤ m) : fillP (fillP l e m a) e m c = fillP l e m (a + c) := by
  have h1 := Int.mul_nonneg he ha
  have h2 := Int.mul_nonneg he hc
  unfold fillP
  rw [Int.mul_add]
  generalize e * a = x at *
  generalize e * c = y at *
  split <;> split <;> (try split) <;> omega
theorem fill_range {l e m t : Int} (he : 0 ≤ e) (ht : 0 ≤ t) (h0 : 0 ≤ l) (_ : l ≤ m) : 0 ≤ fillP l e m t ∧ fillP l e m t ≤ m := by
  have h1 := Int.mul_nonneg he ht
  unfold fillP
  split <;> omega
theorem TollP.fill {F FT B BT fr bl ow n : Int} (t : TollP F FT B BT fr bl ow) (hn : 0 ≤ n) : TollP F FT B BT (fillP fr FT F n) (fillP bl BT B n) ow := by
  have r := t.r
  unfold RightP at r
  have h1 := fill_range (l := fr) (e := FT) (m := F) (t := n) (by omega) hn t.f0 t.f1
  have h2 := fill_range (l := bl) (e := BT) (m := B) (t := n) (by omega) hn t.b0 t.b1
  exact ⟨t.r, h1.1, h1.2, h2.1, h2.2, t.o0, t.o1⟩
theorem tickP_of {F FT B BT fr bl ow n : Int} (hn : 0 ≤ n) : tickP F FT B BT fr bl ow n = (0, fillP fr FT F n, fillP bl BT B n, ow) := by
  unfold tickP
  rw [if_neg (by omega)]
def doesP (F FT B BT fr bl ow kind n times : Int) : Int × Int × Int × Int :=
  if kind = 0 then tickP F FT B BT fr bl ow n else if kind = 1 then frameP fr bl ow (n * times) else if kind = 2 then holdP fr bl ow (n * times) else if kind = 3 then settleP B fr bl ow (n * times) else (0, fr, bl, ow)
def charge (p : Int × Int) : AV := .agg 80 [.int .u8 p.1, .int .i32 p.2]
theorem does_ok {b : Nat} {F FT B BT fr bl ow n kind times first : Int} {h : H} (hb : h.get b = some (tollB F FT B BT fr bl ow)) (hlt : b < h.next) (t : TollP F FT B BT fr bl ow) (hn : -2147483648 ≤ n ∧ n ≤ 2147483647) (ht : 1 ≤ times ∧ times ≤ 9) (hf : 0 ≤ first ∧ first ≤ 255) (ho : ow ≤ 1073741824 * 100) {K : AV → H → Prop}
    (hK : Did b F FT B BT h (doesP F FT B BT fr bl ow kind n times) K) : Cw T 37 [charge (kind, n), .ptr b [0] 182, .int .i64 times, .int .i64 first] h K := by
  refine cw_intro 200 (ex37 _) fn37 ?_
  unfold doesP at hK
  have wn : IntKind.i64.wrap n = n := i64_id (by omega) (by omega)
  have hnt : -2147483648 * 9 ≤ n * times ∧ n * times ≤ 2147483647 * 9 := by
    have : times = 1 ∨ times = 2 ∨ times = 3 ∨ times = 4 ∨ times = 5 ∨ times = 6 ∨ times = 7 ∨ times = 8 ∨ times = 9 := by omega
    rcases this with rfl | rfl | rfl | rfl | rfl | rfl | rfl | rfl | rfl <;> omega
  have wm : IntKind.i64.wrap (n * times) = n * times := i64_id (by omega) (by omega)
  refine And.intro rfl (fun g1 m1 => ?_)
  have a1 := m1.at
  have f1 : Fr (fun c => c = b) h g1 := (Fr.refl _ _).new m1 (Nat.le_refl _)
  have q1 := m1.nx
  have b1 := f1.1
  have hb1 := m1.ne hb (by omega)
  have fin : ∀ p, Did b F FT B BT h p K → Did b F FT B BT g1 p K := fun p hp h' f a => hp h' (f1.trans f) a
  refine And.intro rfl ⟨_, _, _, a1, ?_⟩
  refine And.intro rfl ⟨_, _, _, a1, ?_⟩
  refine sel_intro (fun c1 => ?_) (fun c1 => ?_)
  · rw [if_pos (by simpa using c1)] at hK
    rw [show IntKind.i64.wrap (kind, n).2 = n from wn]
    have hmin : ∀ k : Int, k = (if n < first then n else first) → (k ≤ n ∧ k ≤ first ∧ (k = n ∨ k = first)) := by
      intro k hk
      split at hk <;> omega
    have hmin := hmin _ rfl
    refine sel_intro (fun c2 => ?_) (fun c2 => ?_)
    · have c2 : decide ((if n < first then n else first) > 0) = true := c2
      rw [decide_eq_true_eq] at c2
      generalize hk : (if n < first then n else first) = k at hmin c2
      rw [show (if false = true then if n > first then n else first else k) = k from rfl]
      refine tick_ok (by exact hb1) t (by omega) ?_
      rw [tickP_of (by omega)]
      intro g2 f2 a2
      refine tick_ok (by exact a2) (t.fill (by omega)) (n := IntKind.i64.wrap (n - k)) ?_ ?_
      · rw [i64_id (by omega) (by omega)]; omega
      rw [i64_id (by omega) (by omega), tickP_of (by omega)]
      have r := t.r
      unfold RightP at r
      rw [fill_add (by omega) (by omega) (by omega) t.f1, fill_add (by omega) (by omega) (by omega) t.b1, show k + (n - k) = n by omega]
      rw [tickP_of (by omega)] at hK
      intro g3 f3 a3
      exact And.intro rfl (hK g3 ((f1.trans f2).trans f3) a3)
    · refine tick_ok (by exact hb1) t (by omega) ?_
      intro g3 f3 a3
      exact And.intro rfl (hK g3 (f1.trans f3) a3)
  rw [if_neg (by simpa using c1)] at hK
  refine sel_intro (fun c2 => ?_) (fun c2 => ?_)
  · rw [if_pos (by simpa using c2)] at hK
    rw [show IntKind.i64.wrap (kind, n).2 = n from wn]
    refine frame_ok (by exact hb1) t (n := IntKind.i64.wrap (n * times)) ?_
    rw [wm]
    intro g3 f3 a3
    exact And.intro rfl (hK g3 (f1.trans f3) a3)
  rw [if_neg (by simpa using c2)] at hK
  refine sel_intro (fun c3 => ?_) (fun c3 => ?_)
  · rw [if_pos (by simpa using c3)] at hK
    rw [show IntKind.i64.wrap (kind, n).2 = n from wn]
    refine hold_ok (by exact hb1) t (n := IntKind.i64.wrap (n * times)) (by rw [wm]; omega) ho ?_
    rw [wm]
    intro g3 f3 a3
    exact And.intro rfl (hK g3 (f1.trans f3) a3)
  rw [if_neg (by simpa using c3)] at hK
  refine sel_intro (fun c4 => ?_) (fun c4 => ?_)
  · rw [if_pos (by simpa using c4)] at hK
    rw [show IntKind.i64.wrap (kind, n).2 = n from wn]
    refine settle_ok (by exact hb1) t (n := IntKind.i64.wrap (n * times)) ?_
    rw [wm]
    intro g3 f3 a3
    exact And.intro rfl (hK g3 (f1.trans f3) a3)
  rw [if_neg (by simpa using c4)] at hK
  exact And.intro rfl (hK g1 f1 hb1)
end Go.Dam.S

namespace Go.Dam.S
open Go Go.Dam
/-! ### the plain law -/
theorem k_cases {k : Int} (hk : 1 ≤ k ∧ k ≤ 9) : k = 1 ∨ k = 2 ∨ k = 3 ∨ k = 4 ∨ k = 5 ∨ k = 6 ∨ k = 7 ∨ k = 8 ∨ k = 9 := by omega
theorem fill_scale {l e m t k : Int} (hk : 1 ≤ k ∧ k ≤ 9) : fillP (l * k) (e * k) (m * k) t = fillP l e m t * k := by
  unfold fillP
  rw [Int.mul_right_comm]
  generalize e * t = x
  rcases k_cases hk with rfl | rfl | rfl | rfl | rfl | rfl | rfl | rfl | rfl <;> (split <;> split <;> omega)
def scaleP (k : Int) (p : Int × Int × Int × Int) : Int × Int × Int × Int := (p.1, p.2.1, p.2.2.1 * k, p.2.2.2 * k)
theorem mk0 {n k : Int} (hk : 1 ≤ k ∧ k ≤ 9) : n * k < 0 ↔ n < 0 := by
  rcases k_cases hk with rfl | rfl | rfl | rfl | rfl | rfl | rfl | rfl | rfl <;> omega
theorem mkl {a c k : Int} (hk : 1 ≤ k ∧ k ≤ 9) : a * k < c * k ↔ a < c := by
  rcases k_cases hk with rfl | rfl | rfl | rfl | rfl | rfl | rfl | rfl | rfl <;> omega
theorem does_scale {F FT B BT fr bl ow kind n k : Int} (hk : 1 ≤ k ∧ k ≤ 9) : doesP F FT (B * k) (BT * k) fr (bl * k) (ow * k) kind n k = scaleP k (doesP F FT B BT fr bl ow kind n 1) := by
  unfold doesP
  rw [Int.mul_one]
  split
  · unfold tickP
    rw [fill_scale hk]
    split <;> rfl
  split
  · unfold frameP
    simp only [mk0 hk, mkl hk]
    split
    · rfl
    split
    · rfl
    · simp only [scaleP, Int.sub_mul]
  split
  · unfold holdP
    simp only [mk0 hk, mkl hk]
    split
    · rfl
    split
    · rfl
    · simp only [scaleP, Int.sub_mul, Int.add_mul]
  split
  · unfold settleP
    simp only [gt_iff_lt, ← Int.add_mul, ← Int.sub_mul, mk0 hk, mkl hk]
    split
    · rfl
    · simp only [scaleP, Int.zero_mul]
      split <;> rfl
  · rfl
theorem does_inv {F FT B BT fr bl ow kind n times : Int} (t : TollP F FT B BT fr bl ow) (ho : ow ≤ 1073741824 * 100) :
    TollP F FT B BT (doesP F FT B BT fr bl ow kind n times).2.1 (doesP F FT B BT fr bl ow kind n times).2.2.1 (doesP F FT B BT fr bl ow kind n times).2.2.2 ∧ (doesP F FT B BT fr bl ow kind n times).2.2.2 ≤ ow + 1073741824 := by
  have r := t.r
  unfold RightP at r
  have f0 := t.f0
  have f1 := t.f1
  have b0 := t.b0
  have b1 := t.b1
  have o0 := t.o0
  have o1 := t.o1
  unfold doesP
  split
  · unfold tickP
    split
    · exact ⟨t, by show ow ≤ _; omega⟩
    · exact ⟨t.fill (by omega), by show ow ≤ _; omega⟩
  split
  · unfold frameP
    split
    · exact ⟨t, by show ow ≤ _; omega⟩
    split
    · exact ⟨t, by show ow ≤ _; omega⟩
    · exact ⟨⟨t.r, by show 0 ≤ fr - 1; omega, by show fr - 1 ≤ F; omega, by show 0 ≤ bl - _; omega, by show bl - _ ≤ B; omega, t.o0, t.o1⟩, by show ow ≤ _; omega⟩
  split
  · unfold holdP
    split
    · exact ⟨t, by show ow ≤ _; omega⟩
    split
    · exact ⟨t, by show ow ≤ _; omega⟩
    · exact ⟨⟨t.r, t.f0, t.f1, by show 0 ≤ bl - _; omega, by show bl - _ ≤ B; omega, by show 0 ≤ ow + _; omega, by show ow + _ ≤ _; omega⟩, by show ow + _ ≤ _; omega⟩
  split
  · unfold settleP
    split
    · exact ⟨t, by show ow ≤ _; omega⟩
    · refine ⟨⟨t.r, t.f0, t.f1, ?_, ?_, by show (0 : Int) ≤ 0; omega, by show (0 : Int) ≤ _; omega⟩, by show (0 : Int) ≤ _; omega⟩
      · show (0 : Int) ≤ (if bl + ow - n * times < B then bl + ow - n * times else B)
        generalize n * times = x at *
        split <;> omega
      · show (if bl + ow - n * times < B then bl + ow - n * times else B) ≤ B
        generalize n * times = x at *
        split <;> omega
  · exact ⟨t, by show ow ≤ _; omega⟩
end Go.Dam.S

namespace Go.Dam.S
open Go Go.Dam
def body6 : ACode := (.seq (.reg f6r14) (.seq (.cond (.t 105) .skip (.exit 0)) (.seq (.block 1 (.seq (.reg f6r15) (.seq (.reg f6r16) (.seq (.seq (.reg f6r17) (.cond (.t 126) (.seq (.reg f6r18) .ret) .skip)) (.seq (.reg f6r19) (.seq (.reg f6r20) (.seq (.reg f6r21) (.seq (.draw f6r22) (.cond (.t 172) (.seq (.reg f6r23) .ret) .skip))))))))) (.reg f6r24))))
structure HInv6 (bR bQ bs bt bu : Nat) (F FT B BT k : Int) (i : Nat) (ls : AV) (xs : List AV) (h : H) : Prop where
  lt : bR < bQ ∧ bQ < bs ∧ bs < bt ∧ bt < bu ∧ bu < h.next
  st : ∃ fr bl ow, h.get bs = some (tollB F FT B BT fr bl ow) ∧ h.get bt = some (tollB F FT (B * k) (BT * k) fr (bl * k) (ow * k)) ∧ h.get bu = some (tollB F FT B BT fr bl ow) ∧
    TollP F FT B BT fr bl ow ∧ TollP F FT (B * k) (BT * k) fr (bl * k) (ow * k) ∧ ow * k ≤ 1073741824 * i
  r : h.get bR = some (.row .fixed 73 [rates F FT B BT])
  q : h.get bQ = some (.row .fixed 73 [rates F FT (B * k) (BT * k)])
  ro : IsRo h ls 80 xs
structure Inv6 (bR bQ bs bt bu : Nat) (F FT B BT k first : Int) (ls : AV) (xs : List AV) (i : Nat) (r : Env) (h : H) : Prop where
  r102 : r 102 = ls
  r103 : r 103 = .int .i64 xs.length
  r104 : r 104 = .int .i64 i
  r11 : r 11 = .ptr bs [0] 182
  r13 : r 13 = .ptr bt [0] 182
  r15 : r 15 = .ptr bu [0] 182
  r4 : r 4 = .ptr bR [0] 73
  r10 : r 10 = .ptr bQ [0] 73
  r9 : r 9 = .int .i64 k
  r3 : r 3 = .int .u8 first
  hi : HInv6 bR bQ bs bt bu F FT B BT k i ls xs h
set_option maxRecDepth 4000 in
theorem loop6 {bR bQ bs bt bu : Nat} {F FT B BT k first : Int} {ls : AV} {l : List (Int × Int)} (hk : 1 ≤ k ∧ k ≤ 9) (hf : 0 ≤ first ∧ first ≤ 255) (hlen : l.length ≤ 100) (hpos : ∀ p ∈ l, -2147483648 ≤ p.2 ∧ p.2 ≤ 2147483647)
    {K : AV → H → Prop} (hQ : ∀ h, K (.bool true) h) :
    ∀ (d i : Nat) (r : Env) (h : H), i + d = l.length → Inv6 bR bQ bs bt bu F FT B BT k first ls (l.map charge) i r h → Wp T [.inLoop body6, .inBlock 0, .code (.seq (.reg f6r25) .ret)] r h fun r1 h1 => resW r1 h1 f6.results fun vs => forceA (tupOf vs) fun v => K v h1 := by
  intro d
  induction d with
  | zero =>
    intro i r h hi v
    refine wp_inLoop ?_
    rw [← know_set v.r103, ← know_set v.r104]
    refine px_sound T 30 _ _ _ _ ?_
    unfold body6
    refine sel_intro (fun c1 => ?_) (fun c1 => ?_)
    · exfalso; simp at c1; omega
    · exact And.intro rfl (hQ _)
  | succ d ih =>
    intro i r h hi v
    refine wp_inLoop ?_
    obtain ⟨fr, bl, ow, gs, gt, gu, ts, tt, how⟩ := v.hi.st
    obtain ⟨l1, l2, l3, l4, l5⟩ := v.hi.lt
    have gr := v.hi.r
    have gq := v.hi.q
    have hil : i < l.length := by omega
    rcases v.hi.ro with ⟨_, he⟩ | ⟨b, rfl, hb, gb⟩
    · simp at he; subst he; simp at hil
    have how1 : ow ≤ 1073741824 * 100 := by
      have := ts.o0
      have : ow ≤ ow * k := by rcases k_cases hk with rfl | rfl | rfl | rfl | rfl | rfl | rfl | rfl | rfl <;> omega
      omega
    rw [← know_set v.r102, ← know_set v.r103, ← know_set v.r104, ← know_set v.r11, ← know_set v.r13, ← know_set v.r15, ← know_set v.r4, ← know_set v.r10, ← know_set v.r9, ← know_set v.r3]
    refine px_sound T 400 _ _ _ _ ?_
    unfold body6
    refine sel_intro (fun c1 => ?_) (fun c1 => ?_)
    · have hx : (l.map charge)[i]? = some (charge l[i]) := by simp [hil]
      generalize hp : l[i] = p at hx
      have hpp := hpos p (by rw [← hp]; exact List.getElem_mem hil)
      obtain ⟨kind, n⟩ := p
      refine And.intro ⟨rfl, by omega, by simpa using hil⟩ ?_
      refine And.intro rfl ⟨_, _, _, gb, ?_⟩
      refine optW_of (v := charge (kind, n)) (by simpa [at?] using hx) ?_
      refine fun g1 m1 => ?_
      refine And.intro ⟨rfl, rfl⟩ ⟨_, _, _, m1.at, by decide, fun g2 u2 => ?_⟩
      have q2 : g2.next = h.next + 1 := by rw [u2.next, m1.nx]
      have k2 : Keep h g2 := ((Keep.refl h).new m1 (Nat.le_refl _)).upd u2 (Nat.le_refl _)
      have a2 := u2.at
      refine And.intro rfl ⟨_, _, _, a2, ?_⟩
      have P := does_inv (kind := kind) (n := n) (times := 1) ts how1
      have P' := does_inv (kind := kind) (n := n) (times := k) tt (by omega)
      have E := does_scale (F := F) (FT := FT) (B := B) (BT := BT) (fr := fr) (bl := bl) (ow := ow) (kind := kind) (n := n) hk
      rw [E] at P'
      generalize hD : doesP F FT B BT fr bl ow kind n 1 = D at P P' E
      refine does_ok (by exact k2.to gs (by omega)) (by omega) ts hpp (by omega) (by omega) how1 ?_
      rw [hD]
      intro g3 f3 a3
      have q3 := f3.1
      refine And.intro rfl ⟨_, _, _, f3.to a2 (by omega) (by omega), ?_⟩
      refine does_ok (by exact f3.to (k2.to gt (by omega)) (by omega) (by omega)) (by omega) tt hpp hk (by omega) (by omega) ?_
      rw [E]
      intro g4 f4 a4
      have q4 := f4.1
      refine sel_intro (fun c2 => ?_) (fun c2 => ?_)
      · exfalso
        simp [scaleP] at c2
      refine And.intro rfl ⟨_, _, _, f4.to (f3.to a2 (by omega) (by omega)) (by omega) (by omega), ?_⟩
      refine does_ok (by exact f4.to (f3.to (k2.to gu (by omega)) (by omega) (by omega)) (by omega) (by omega)) (by omega) ts hpp (by omega) (by rw [i64_id (by omega) (by omega)]; exact hf) how1 ?_
      rw [hD]
      intro g5 f5 a5
      have q5 := f5.1
      refine sel_intro (fun c3 => ?_) (fun c3 => ?_)
      · exfalso
        simp at c3
      have b3 := f5.to (f4.to a3 (by omega) (by omega)) (by omega) (by omega)
      have b4 := f5.to a4 (by omega) (by omega)
      refine left_ok (by exact b3) (fun g6 k6 => ?_)
      refine left_ok (by exact k6.to b4 (by omega)) (fun g7 k7 => ?_)
      have q6 := k6.1
      have q7 := k7.1
      refine left_ok (by exact k7.to (k6.to a5 (by omega)) (by omega)) (fun g8 k8 => ?_)
      have q8 := k8.1
      refine sel_intro (fun c4 => ?_) (fun c4 => ?_)
      · exfalso
        simp [scaleP] at c4
      have hb0 := P.1.b0
      have hb1 := P.1.b1
      have hB := ts.r
      unfold RightP at hB
      have hbk : 0 ≤ D.2.2.1 * k ∧ D.2.2.1 * k ≤ 1073741824 := ⟨P'.1.b0, by have h1 := P'.1.b1; have h2 := tt.r; unfold RightP at h2; simp only [scaleP] at h1; omega⟩
      refine sel_intro (fun c5 => ?_) (fun c5 => ?_)
      · exfalso
        have c5 : (IntKind.i64.wrap (D.2.2.1 * k) != D.2.2.1 * k) = true := c5
        rw [i64_id (by omega) (by omega)] at c5
        simp at c5
      refine sel_intro (fun c6 => ?_) (fun c6 => ?_)
      · exfalso
        simp at c6
      refine sel_intro (fun c7 => ?_) (fun c7 => ?_)
      · exfalso
        simp at c7
      have F28 : Fr (fun c => c = bs ∨ c = bt ∨ c = bu) h g8 := ((((((k2.fr).then f3 (fun i _ e => .inl e)).then f4 (fun i _ e => .inr (.inl e))).then f5 (fun i _ e => .inr (.inr e))).keep k6).keep k7).keep k8
      have gr8 := F28.to gr (by omega) (by omega)
      have gq8 := F28.to gq (by omega) (by omega)
      refine And.intro rfl ⟨_, _, _, gr8, ?_⟩
      refine most_ok ts.r (by omega) (by omega) (fun g9 k9 => ?_)
      have q9 : g8.next ≤ g9.next := Nat.le_trans (Nat.le_add_right _ _) k9.1
      have k9 : Keep g8 g9 := k9.unbump
      refine And.intro rfl ⟨_, _, _, k9.to gq8 (by omega), ?_⟩
      refine And.intro ⟨rfl, _, _, _, gq8, rfl⟩ ?_
      refine most_ok tt.r (by omega) (by omega) (fun g10 k10 => ?_)
      refine sel_intro (fun c8 => ?_) (fun c8 => ?_)
      · exfalso
        have c8 : (IntKind.i64.wrap ((B + BT * i) * k) != B * k + BT * k * i) = true := c8
        have h2 := tt.r
        unfold RightP at h2
        have p1 := mul_le h2.2.2.2.1.1 h2.2.2.2.1.2 (show (0 : Int) ≤ i by omega) (show (i : Int) ≤ 100 by omega)
        have p0 : 0 ≤ BT * k * i := Int.mul_nonneg h2.2.2.2.1.1 (by omega)
        rw [Int.add_mul, Int.mul_right_comm, i64_id (by omega) (by omega)] at c8
        simp at c8
      have k10' := k9.trans k10
      have q10 := k10.1
      refine ih (i + 1) _ _ (by omega) ⟨rfl, rfl, inc_ok (by omega), rfl, rfl, rfl, rfl, rfl, rfl, rfl, ⟨by omega, ?_, ?_, ?_, ?_⟩⟩
      · refine ⟨_, _, _, k10'.to (k8.to (k7.to (k6.to b3 (by omega)) (by omega)) (by omega)) (by omega), k10'.to (k8.to (k7.to (k6.to b4 (by omega)) (by omega)) (by omega)) (by omega), k10'.to (k8.to (k7.to (k6.to a5 (by omega)) (by omega)) (by omega)) (by omega), P.1, P'.1, ?_⟩
        have h1 := P'.2
        simp only [scaleP] at h1
        omega
      · exact k10'.to gr8 (by omega)
      · exact k10'.to gq8 (by omega)
      · refine IsRo.keep k10' (IsRo.fr F28 (.inr ⟨b, rfl, hb, gb⟩) ?_)
        rintro c kk xs (rfl | rfl | rfl) hc
        · rw [gs] at hc; cases hc
        · rw [gt] at hc; cases hc
        · rw [gu] at hc; cases hc
    · exfalso; simp at c1; omega
end Go.Dam.S

namespace Go.Dam.S
open Go Go.Dam
theorem wakes_ok {h : H} {K : AV → H → Prop} (hK : K (.bool true) h) : Cw T 11 [] h K := ⟨by unfold CwD; rw [exw]; exact hK⟩
def chargeShp : Shp := .agg 80 [.int .u8, .int .i32]
def ratesShp : Shp := .agg 73 [.int .i64, .int .i64, .int .i64, .int .i64]
set_option maxRecDepth 4000 in
theorem law6 (h : H) (avs : List AV) (ha : ArgsOf h [ratesShp, .slice 80 chargeShp, .int .u8, .int .u8] avs) : Cw T 6 avs h fun v _ => v = .bool true := by
  obtain ⟨_, r0, rfl, ⟨_, rfl, _, _, rfl, ⟨F, rfl, _⟩, _, _, rfl, ⟨FT, rfl, _⟩, _, _, rfl, ⟨B, rfl, _⟩, _, _, rfl, ⟨BT, rfl, _⟩, hr⟩, w, r1, rfl, hls, _, r2, rfl, ⟨times, rfl, t0, t1⟩, _, r3, rfl, ⟨first, rfl, hf0, hf1⟩, hr'⟩ := ha
  simp only [ArgsOf] at hr hr'
  subst hr hr'
  obtain ⟨l, ro, hmax, hpos⟩ := slice_arg (f := charge) (p := fun p => -2147483648 ≤ p.2 ∧ p.2 ≤ 2147483647) hls (fun x hx => by
    obtain ⟨_, rfl, _, _, rfl, ⟨a, rfl, _⟩, _, _, rfl, ⟨b, rfl, b0, b1⟩, hx⟩ := hx
    simp only [ArgsOf] at hx
    subst hx
    exact ⟨(a, b), rfl, b0, b1⟩)
  have ht1 : times ≤ 255 := t1
  have ht0 : 0 ≤ times := t0
  have hf : 0 ≤ first ∧ first ≤ 255 := ⟨hf0, hf1⟩
  have hrem : 0 ≤ times.tmod 9 ∧ times.tmod 9 ≤ 8 := by
    rw [Int.tmod_eq_emod_of_nonneg ht0]
    omega
  refine cw_intro 600 (ex6 _) fn6 ?_
  refine And.intro rfl (fun g1 m1 => ?_)
  have k1 : Keep h g1 := (Keep.refl h).new m1 (Nat.le_refl _)
  have q1 := m1.nx
  have a1 := m1.at
  refine wakes_ok ?_
  refine And.intro ⟨rfl, by decide⟩ ?_
  have wk : IntKind.i64.wrap (1 + IntKind.i64.wrap (times.tmod 9)) = 1 + times.tmod 9 := by
    rw [i64_id (a := times.tmod 9) (by omega) (by omega), i64_id (by omega) (by omega)]
  obtain ⟨k, hk⟩ : ∃ k, k = 1 + times.tmod 9 := ⟨_, rfl⟩
  have hk9 : 1 ≤ k ∧ k ≤ 9 := by omega
  rw [← hk] at wk
  refine And.intro rfl ⟨_, _, _, a1, ?_⟩
  rw [wk]
  clear wk hk
  refine right_ok (fun hr g2 k2 => ?_) (fun _ g2 k2 => And.intro rfl rfl)
  have a2 := k2.to a1 (by omega)
  have hr2 := hr
  unfold RightP at hr2
  have wB : IntKind.i64.wrap (B * k) = B * k := by
    have := mul_le hr2.2.2.1.1 hr2.2.2.1.2 (show 0 ≤ k by omega) hk9.2
    have := Int.mul_nonneg hr2.2.2.1.1 (show 0 ≤ k by omega)
    exact i64_id (by omega) (by omega)
  have wBT : IntKind.i64.wrap (BT * k) = BT * k := by
    have := mul_le hr2.2.2.2.1.1 hr2.2.2.2.1.2 (show 0 ≤ k by omega) hk9.2
    have := Int.mul_nonneg hr2.2.2.2.1.1 (show 0 ≤ k by omega)
    exact i64_id (by omega) (by omega)
  refine And.intro rfl ⟨_, _, _, a2, ?_⟩
  refine sel_intro (fun c1 => And.intro rfl rfl) (fun c1 => ?_)
  refine And.intro rfl ⟨_, _, _, a2, ?_⟩
  refine sel_intro (fun c2 => And.intro rfl rfl) (fun c2 => ?_)
  have c1 : decide (IntKind.i64.wrap (B * k) > 1073741824) = false := c1
  have c2 : decide (IntKind.i64.wrap (BT * k) > 1073741824) = false := c2
  rw [wB, decide_eq_false_iff_not] at c1
  rw [wBT, decide_eq_false_iff_not] at c2
  have hrq : RightP F FT (B * k) (BT * k) := by
    have p0 := Int.mul_nonneg hr2.2.2.2.1.1 (show 0 ≤ k by omega)
    have p1 : 1 ≤ B * k := by rcases k_cases hk9 with rfl | rfl | rfl | rfl | rfl | rfl | rfl | rfl | rfl <;> omega
    unfold RightP
    omega
  have k2' := k1.trans k2
  have q2 := k2.1
  have ro' := ro
  rcases ro with ⟨rfl, hnil⟩ | ⟨b0, rfl, hb0, gb0⟩
  · have hnil : l = [] := by simpa using hnil
    subst hnil
    have hlen : ([] : List (Int × Int)).length ≤ 100 := by simp
    refine And.intro rfl ⟨_, _, _, a2, ?_⟩
    refine fun g3 m3 => ?_
    refine And.intro ⟨rfl, rfl⟩ ⟨_, _, _, m3.at, by decide, fun g4 u4 => ?_⟩
    have q4 : g4.next = g2.next + 1 := by rw [u4.next, m3.nx]
    have k4 : Keep g2 g4 := ((Keep.refl _).new m3 (Nat.le_refl _)).upd u4 (Nat.le_refl _)
    have a4 := k4.to a2 (by omega)
    refine And.intro rfl ⟨_, _, _, a4, ?_⟩
    refine And.intro rfl ⟨_, _, _, a4, ?_⟩
    refine And.intro ⟨rfl, rfl⟩ ⟨_, _, _, u4.at, by decide, fun g5 u5 => ?_⟩
    refine And.intro ⟨rfl, _, _, _, u5.ne a4 (by omega), rfl⟩ ?_
    refine And.intro ⟨rfl, rfl⟩ ⟨_, _, _, u5.at, by decide, fun g6 u6 => ?_⟩
    have a6 := u6.at
    rw [wB, wBT] at a6
    have k6 : Keep g2 g6 := (((k4.trans (Keep.bump _ _)).upd u5 (Nat.le_refl _)).upd u6 (Nat.le_refl _))
    have q6 : g6.next = g4.next + 12 := by rw [u6.next, u5.next]; rfl
    have ar := k6.to a2 (by omega)
    refine And.intro rfl ⟨_, _, _, ar, ?_⟩
    refine tnew_ok (fun _ g7 bs k7 p7 p7' a7 => ?_) (fun hn => (hn hr).elim)
    refine And.intro rfl ⟨_, _, _, k7.to a6 (by omega), ?_⟩
    refine tnew_ok (fun _ g8 bt k8 p8 p8' a8 => ?_) (fun hn => (hn hrq).elim)
    have q7 := k7.1
    have q8 := k8.1
    refine And.intro rfl ⟨_, _, _, k8.to (k7.to ar (by omega)) (by omega), ?_⟩
    refine tnew_ok (fun _ g9 bu k9 p9 p9' a9 => ?_) (fun hn => (hn hr).elim)
    have q9 := k9.1
    refine wp_loop_of (loop6 (F := F) (FT := FT) (B := B) (BT := BT) (l := []) hk9 hf hlen hpos (fun _ => rfl) 0 0 _ _ rfl ⟨rfl, rfl, rfl, rfl, rfl, rfl, rfl, rfl, rfl, rfl, ?_⟩)
    have k69 : Keep g6 g9 := (k7.trans k8).trans k9
    refine ⟨⟨by omega, by omega, by omega, by omega, by omega⟩, ⟨F, B, 0, k9.to (k8.to a7 (by omega)) (by omega), ?_, a9, ?_, ?_, ?_⟩, k69.to ar (by omega), k69.to a6 (by omega), ro'.keep (k2'.trans (k6.trans k69))⟩
    · rw [Int.zero_mul]
      exact k9.to a8 (by omega)
    · exact ⟨hr, by omega, by omega, by omega, by omega, by omega, by omega⟩
    · rw [Int.zero_mul]
      unfold RightP at hrq
      exact ⟨hrq, by omega, by omega, by omega, by omega, by omega, by omega⟩
    · rw [Int.zero_mul]
      exact Int.le_refl _
  · refine sel_intro (fun c3 => And.intro rfl rfl) (fun c3 => ?_)
    have hlen : l.length ≤ 100 := by
      simp only [List.length_map, decide_eq_false_iff_not] at c3
      omega
    refine And.intro rfl ⟨_, _, _, a2, ?_⟩
    refine fun g3 m3 => ?_
    refine And.intro ⟨rfl, rfl⟩ ⟨_, _, _, m3.at, by decide, fun g4 u4 => ?_⟩
    have q4 : g4.next = g2.next + 1 := by rw [u4.next, m3.nx]
    have k4 : Keep g2 g4 := ((Keep.refl _).new m3 (Nat.le_refl _)).upd u4 (Nat.le_refl _)
    have a4 := k4.to a2 (by omega)
    refine And.intro rfl ⟨_, _, _, a4, ?_⟩
    refine And.intro rfl ⟨_, _, _, a4, ?_⟩
    refine And.intro ⟨rfl, rfl⟩ ⟨_, _, _, u4.at, by decide, fun g5 u5 => ?_⟩
    refine And.intro ⟨rfl, _, _, _, u5.ne a4 (by omega), rfl⟩ ?_
    refine And.intro ⟨rfl, rfl⟩ ⟨_, _, _, u5.at, by decide, fun g6 u6 => ?_⟩
    have a6 := u6.at
    rw [wB, wBT] at a6
    have k6 : Keep g2 g6 := (((k4.trans (Keep.bump _ _)).upd u5 (Nat.le_refl _)).upd u6 (Nat.le_refl _))
    have q6 : g6.next = g4.next + 12 := by rw [u6.next, u5.next]; rfl
    have ar := k6.to a2 (by omega)
    refine And.intro rfl ⟨_, _, _, ar, ?_⟩
    refine tnew_ok (fun _ g7 bs k7 p7 p7' a7 => ?_) (fun hn => (hn hr).elim)
    refine And.intro rfl ⟨_, _, _, k7.to a6 (by omega), ?_⟩
    refine tnew_ok (fun _ g8 bt k8 p8 p8' a8 => ?_) (fun hn => (hn hrq).elim)
    have q7 := k7.1
    have q8 := k8.1
    refine And.intro rfl ⟨_, _, _, k8.to (k7.to ar (by omega)) (by omega), ?_⟩
    refine tnew_ok (fun _ g9 bu k9 p9 p9' a9 => ?_) (fun hn => (hn hr).elim)
    have q9 := k9.1
    refine wp_loop_of (loop6 (F := F) (FT := FT) (B := B) (BT := BT) hk9 hf hlen hpos (fun _ => rfl) l.length 0 _ _ (by omega) ⟨rfl, rfl, rfl, rfl, rfl, rfl, rfl, rfl, rfl, rfl, ?_⟩)
    have k69 : Keep g6 g9 := (k7.trans k8).trans k9
    refine ⟨⟨by omega, by omega, by omega, by omega, by omega⟩, ⟨F, B, 0, k9.to (k8.to a7 (by omega)) (by omega), ?_, a9, ?_, ?_, ?_⟩, k69.to ar (by omega), k69.to a6 (by omega), ro'.keep (k2'.trans (k6.trans k69))⟩
    · rw [Int.zero_mul]
      exact k9.to a8 (by omega)
    · exact ⟨hr, by omega, by omega, by omega, by omega, by omega, by omega⟩
    · rw [Int.zero_mul]
      unfold RightP at hrq
      exact ⟨hrq, by omega, by omega, by omega, by omega, by omega, by omega⟩
    · rw [Int.zero_mul]
      exact Int.le_refl _
end Go.Dam.S
