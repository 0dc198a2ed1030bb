/- BOOTS ARE ONLY AHEAD OR BEHIND: the walks of the window's functions, and the plain law. No conditions. -/
import Derived.Test.YtoipeoafcjjaeaaCode
import Derived.Test.YtoipeoafcjjaeaaDamD
namespace Go.Dam.S
open Go Go.Dam
def win (sz bo to se : Int) (any : Bool) : Blk := .row .fixed 167 [.agg 167 [.int .i64 sz, .int .u64 bo, .int .u64 to, .int .u64 se, .bool any]]
def back (to co : Int) : Int := IntKind.u64.wrap (to - co)
def seenB (se back : Int) : Int := IntKind.u64.wrap (BitVec.ofInt 64 (se.fdiv (2 ^ min back.toNat 64)) &&& BitVec.ofInt 64 1).toNat
def freshS (sz bo to se : Int) (any : Bool) (bc co : Int) : Bool :=
  if (bc == 0) = true then false else if (co == 0) = true then false else if (!any) = true then true else if decide (bc > bo) = true then true else if decide (bc < bo) = true then false else
  if decide (co > to) = true then true else if decide (back to co < IntKind.u64.wrap sz) = true then seenB se (back to co) == 0 else false
theorem wrap_nonneg (a : Int) : ¬ IntKind.u64.wrap a < 0 := by
  simp only [IntKind.wrap, IntKind.signed, IntKind.bits, Bool.false_and, Bool.false_eq_true, if_false]
  omega
theorem fresh_ok {b : Nat} {sz bo to se bc co : Int} {any : Bool} {h : H} (hb : h.get b = some (win sz bo to se any)) {K : AV → H → Prop} (hK : K (.bool (freshS sz bo to se any bc co)) h) :
   Cw T 14 [.ptr b [0] 167, .int .u64 bc, .int .u64 co] h K := by
  refine cw_intro 200 (ex14 _) fn14 ?_
  unfold freshS at hK
  refine sel_intro (fun c1 => ?_) (fun c1 => ?_) <;> simp only [c1, if_true, if_false, Bool.false_eq_true] at hK
  · exact And.intro rfl hK
  refine sel_intro (fun c2 => ?_) (fun c2 => ?_) <;> simp only [c2, if_true, if_false, Bool.false_eq_true] at hK
  · exact And.intro rfl hK
  refine And.intro rfl ⟨_, _, _, hb, ?_⟩
  refine sel_intro (fun c3 => ?_) (fun c3 => ?_) <;> simp only [c3, if_true, if_false, Bool.false_eq_true] at hK
  · exact And.intro rfl hK
  refine And.intro rfl ⟨_, _, _, hb, ?_⟩
  refine sel_intro (fun c4 => ?_) (fun c4 => ?_) <;> simp only [c4, if_true, if_false, Bool.false_eq_true] at hK
  · exact And.intro rfl hK
  refine And.intro rfl ⟨_, _, _, hb, ?_⟩
  refine sel_intro (fun c5 => ?_) (fun c5 => ?_) <;> simp only [c5, if_true, if_false, Bool.false_eq_true] at hK
  · exact And.intro rfl hK
  refine And.intro rfl ⟨_, _, _, hb, ?_⟩
  refine sel_intro (fun c6 => ?_) (fun c6 => ?_) <;> simp only [c6, if_true, if_false, Bool.false_eq_true] at hK
  · exact And.intro rfl hK
  refine And.intro rfl ⟨_, _, _, hb, ?_⟩
  refine And.intro rfl ⟨_, _, _, hb, ?_⟩
  refine sel_intro (fun c7 => ?_) (fun c7 => ?_)
  · refine And.intro rfl ⟨_, _, _, hb, ?_⟩
    refine And.intro (wrap_nonneg _) ?_
    refine And.intro rfl ?_
    have c7' : decide (back to co < IntKind.u64.wrap sz) = true := c7
    simp only [c7', if_true] at hK
    exact hK
  · have c7' : decide (back to co < IntKind.u64.wrap sz) = false := c7
    simp only [c7', if_false, Bool.false_eq_true] at hK
    exact And.intro rfl hK
def u64 (a : Int) : Int := IntKind.u64.wrap a
def or64 (a b : Int) : Int := u64 (BitVec.ofInt 64 a ||| BitVec.ofInt 64 b).toNat
/-- what Take gives, and what the window is then -/
def takeS (sz bo to se : Int) (any : Bool) (bc co : Int) : Int × Blk :=
  if (bc == 0) = true then (1, win sz bo to se any) else if (co == 0) = true then (1, win sz bo to se any) else if (!freshS sz bo to se any bc co) = true then (25, win sz bo to se any) else
  if (!any) = true then (0, win sz bc co 1 true) else if decide (bc > bo) = true then (0, win sz bc co 1 true) else
  if decide (co > to) = true then (if decide (u64 (co - to) < 64) = true then (0, win sz bo co (or64 (u64 (se * 2 ^ (min (u64 (co - to)).toNat 64))) 1) any) else (0, win sz bo co 1 any)) else
  (0, win sz bo to (or64 se (u64 (1 * 2 ^ (min (u64 (to - co)).toNat 64)))) any)
theorem take_ok {b : Nat} {sz bo to se bc co : Int} {any : Bool} {h : H} (hb : h.get b = some (win sz bo to se any)) {K : AV → H → Prop} (hK : ∀ h', Set1 h b (takeS sz bo to se any bc co).2 h' → K (.int .i64 (takeS sz bo to se any bc co).1) h') :
   Cw T 15 [.ptr b [0] 167, .int .u64 bc, .int .u64 co] h K := by
  refine cw_intro 300 (ex15 _) fn15 ?_
  unfold takeS at hK
  refine sel_intro (fun c1 => ?_) (fun c1 => ?_) <;> simp only [c1, if_true, if_false, Bool.false_eq_true] at hK
  · exact And.intro rfl (hK h (Set1.refl hb))
  refine sel_intro (fun c2 => ?_) (fun c2 => ?_) <;> simp only [c2, if_true, if_false, Bool.false_eq_true] at hK
  · exact And.intro rfl (hK h (Set1.refl hb))
  refine fresh_ok hb ?_
  refine sel_intro (fun c3 => ?_) (fun c3 => ?_) <;> simp only [c3, if_true, if_false, Bool.false_eq_true] at hK
  · exact And.intro rfl (hK h (Set1.refl hb))
  refine And.intro rfl ⟨_, _, _, hb, ?_⟩
  refine sel_intro (fun c4 => ?_) (fun c4 => ?_) <;> simp only [c4, if_true, if_false, Bool.false_eq_true] at hK
  · refine And.intro ⟨rfl, rfl⟩ ⟨_, _, _, hb, (by decide), fun g1 u1 => ?_⟩
    refine And.intro ⟨rfl, rfl⟩ ⟨_, _, _, u1.at, (by decide), fun g2 u2 => ?_⟩
    refine And.intro ⟨rfl, rfl⟩ ⟨_, _, _, u2.at, (by decide), fun g3 u3 => ?_⟩
    refine And.intro ⟨rfl, rfl⟩ ⟨_, _, _, u3.at, (by decide), fun g4 u4 => ?_⟩
    exact And.intro rfl (hK _ ((((Set1.of u1).then u2).then u3).then u4))
  refine And.intro rfl ⟨_, _, _, hb, ?_⟩
  refine sel_intro (fun c5 => ?_) (fun c5 => ?_) <;> simp only [c5, if_true, if_false, Bool.false_eq_true] at hK
  · refine And.intro ⟨rfl, rfl⟩ ⟨_, _, _, hb, (by decide), fun g1 u1 => ?_⟩
    refine And.intro ⟨rfl, rfl⟩ ⟨_, _, _, u1.at, (by decide), fun g2 u2 => ?_⟩
    refine And.intro ⟨rfl, rfl⟩ ⟨_, _, _, u2.at, (by decide), fun g3 u3 => ?_⟩
    refine And.intro ⟨rfl, rfl⟩ ⟨_, _, _, u3.at, (by decide), fun g4 u4 => ?_⟩
    exact And.intro rfl (hK _ ((((Set1.of u1).then u2).then u3).then u4))
  refine And.intro rfl ⟨_, _, _, hb, ?_⟩
  refine sel_intro (fun c6 => ?_) (fun c6 => ?_) <;> simp only [c6, if_true, if_false, Bool.false_eq_true] at hK
  · refine And.intro rfl ⟨_, _, _, hb, ?_⟩
    refine sel_intro (fun c7 => ?_) (fun c7 => ?_)
    · have c7' : decide (u64 (co - to) < 64) = true := c7
      simp only [c7', if_true] at hK
      refine And.intro rfl ⟨_, _, _, hb, ?_⟩
      refine And.intro (wrap_nonneg _) ?_
      refine And.intro ⟨rfl, rfl⟩ ⟨_, _, _, hb, (by decide), fun g1 u1 => ?_⟩
      refine And.intro ⟨rfl, rfl⟩ ⟨_, _, _, u1.at, (by decide), fun g2 u2 => ?_⟩
      exact And.intro rfl (hK _ ((Set1.of u1).then u2))
    · have c7' : decide (u64 (co - to) < 64) = false := c7
      simp only [c7', if_false, Bool.false_eq_true] at hK
      refine And.intro ⟨rfl, rfl⟩ ⟨_, _, _, hb, (by decide), fun g1 u1 => ?_⟩
      refine And.intro ⟨rfl, rfl⟩ ⟨_, _, _, u1.at, (by decide), fun g2 u2 => ?_⟩
      exact And.intro rfl (hK _ ((Set1.of u1).then u2))
  · refine And.intro rfl ⟨_, _, _, hb, ?_⟩
    refine And.intro rfl ⟨_, _, _, hb, ?_⟩
    refine And.intro (wrap_nonneg _) ?_
    refine And.intro ⟨rfl, rfl⟩ ⟨_, _, _, hb, (by decide), fun g1 u1 => ?_⟩
    exact And.intro rfl (hK _ (Set1.bump u1))
theorem new_ok {n : Int} {h : H} {K : AV → H → Prop} (h1 : n < 1 ∨ 64 < n → K (.tup [.nilp, .int .i64 1]) h)
   (h2 : ¬ (n < 1 ∨ 64 < n) → ∀ h', New h h.next (win n 0 0 0 false) h' → K (.tup [.ptr h.next [0] 167, .int .i64 0]) h') : Cw T 12 [.int .i64 n] h K := by
  refine cw_intro 100 (ex12 _) fn12 ?_
  refine sel_intro (fun c1 => ?_) (fun c1 => ?_)
  · refine And.intro rfl (And.intro rfl ?_)
    simp at c1
    exact h1 (.inl (by omega))
  · refine sel_intro (fun c2 => ?_) (fun c2 => ?_)
    · refine And.intro rfl (And.intro rfl ?_)
      simp at c2
      exact h1 (.inr (by omega))
    · refine And.intro rfl fun g1 n1 => ?_
      refine And.intro rfl (And.intro rfl ?_)
      simp at c1 c2
      exact h2 (by omega) g1 n1

theorem top_ok {b : Nat} {sz bo to se : Int} {any : Bool} {h : H} (hb : h.get b = some (win sz bo to se any)) {K : AV → H → Prop} (hK : ∀ h', Keep h h' → K (.tup [.int .u64 bo, .int .u64 to]) h') : Cw T 16 [.ptr b [0] 167] h K := by
  refine cw_intro 100 (ex16 _) fn16 ?_
  refine And.intro rfl ⟨_, _, _, hb, ?_⟩
  refine And.intro rfl ⟨_, _, _, hb, ?_⟩
  refine And.intro rfl (And.intro rfl ?_)
  exact hK (h.bump 10) ⟨Nat.le_add_right _ _, fun _ _ => rfl⟩

/-- a number, moved -/
def movedS (later bc co : Int) : Int × Int := (if decide (bc > 0) = true then u64 (u64 (2 * bc) + 1) else bc, if decide (co > 0) = true then u64 (co + u64 later) else co)
theorem moved_ok {b : Nat} {e : TypeId} {later bc co : Int} {h : H} (hb : h.get b = some (.row .fixed e [.int .u32 later])) (hlt : b < h.next) {K : AV → H → Prop} (hK : ∀ h', Keep h h' → K (.agg 30 [.int .u64 (movedS later bc co).1, .int .u64 (movedS later bc co).2]) h') :
    Cw T 13 [.agg 30 [.int .u64 bc, .int .u64 co], .ptr b [0] 23] h K := by
  refine cw_intro 100 (ex13 _) fn13 ?_
  unfold movedS at hK
  refine And.intro rfl fun g1 n1 g2 n2 => ?_
  have k1 : Keep h g1 := (Keep.refl h).new n1 (Nat.le_refl _)
  have hg1 := n1.nx
  have k2 : Keep h g2 := k1.new n2 (by omega)
  have a2 := n2.at
  have b2 := n2.ne n1.at (by omega)
  have c2 := n2.ne (n1.ne hb (by omega)) (by omega)
  refine And.intro rfl ⟨_, _, _, b2, ?_⟩
  refine sel_intro (fun c1 => ?_) (fun c1 => ?_) <;> simp only [c1, if_true, if_false, Bool.false_eq_true] at hK
  · refine And.intro rfl ⟨_, _, _, b2, ?_⟩
    refine And.intro ⟨rfl, rfl⟩ ⟨_, _, _, b2, (by decide), fun g3 u3 => ?_⟩
    have k3 : Keep h g3 := k2.upd u3 (Nat.le_refl _)
    have a3 := u3.ne a2 (by omega)
    have b3 := u3.at
    have c3 := u3.ne c2 (by omega)
    refine And.intro rfl ⟨_, _, _, b3, ?_⟩
    refine sel_intro (fun d1 => ?_) (fun d1 => ?_) <;> simp only [d1, if_true, if_false, Bool.false_eq_true] at hK
    · refine And.intro rfl ⟨_, _, _, b3, ?_⟩
      refine And.intro rfl ⟨_, _, _, c3, ?_⟩
      refine And.intro ⟨rfl, rfl⟩ ⟨_, _, _, b3, (by decide), fun g4 u4 => ?_⟩
      refine And.intro rfl ⟨_, _, _, u4.at, ?_⟩
      refine And.intro ⟨rfl, rfl⟩ ⟨_, _, _, u4.ne a3 (by omega), (by decide), fun g5 u5 => ?_⟩
      refine And.intro rfl ⟨_, _, _, u5.at, ?_⟩
      exact hK _ ((k3.upd u4 (Nat.le_refl _)).upd u5 (by omega))
    · refine And.intro rfl ⟨_, _, _, b3, ?_⟩
      refine And.intro ⟨rfl, rfl⟩ ⟨_, _, _, a3, (by decide), fun g5 u5 => ?_⟩
      refine And.intro rfl ⟨_, _, _, u5.at, ?_⟩
      exact hK _ (k3.upd u5 (by omega))
  · refine And.intro rfl ⟨_, _, _, b2, ?_⟩
    refine sel_intro (fun d1 => ?_) (fun d1 => ?_) <;> simp only [d1, if_true, if_false, Bool.false_eq_true] at hK
    · refine And.intro rfl ⟨_, _, _, b2, ?_⟩
      refine And.intro rfl ⟨_, _, _, c2, ?_⟩
      refine And.intro ⟨rfl, rfl⟩ ⟨_, _, _, b2, (by decide), fun g4 u4 => ?_⟩
      refine And.intro rfl ⟨_, _, _, u4.at, ?_⟩
      refine And.intro ⟨rfl, rfl⟩ ⟨_, _, _, u4.ne a2 (by omega), (by decide), fun g5 u5 => ?_⟩
      refine And.intro rfl ⟨_, _, _, u5.at, ?_⟩
      exact hK _ ((k2.upd u4 (Nat.le_refl _)).upd u5 (by omega))
    · refine And.intro rfl ⟨_, _, _, b2, ?_⟩
      refine And.intro ⟨rfl, rfl⟩ ⟨_, _, _, a2, (by decide), fun g5 u5 => ?_⟩
      refine And.intro rfl ⟨_, _, _, u5.at, ?_⟩
      exact hK _ (k2.upd u5 (by omega))
/-! the plain law -/
theorem u64_id {a : Int} (h0 : 0 ≤ a) (h1 : a < 18446744073709551616) : u64 a = a := by
  simp only [u64, IntKind.wrap, IntKind.signed, IntKind.bits, Bool.false_and, Bool.false_eq_true, if_false]
  omega
/-- how a window of moved numbers is another one -/
def Rl (later bo to bo' to' : Int) (any : Bool) : Prop := (any = false ∧ bo = 0 ∧ to = 0 ∧ bo' = 0 ∧ to' = 0) ∨ (any = true ∧ bo' = 2 * bo + 1 ∧ to' = to + later ∧ 1 ≤ bo ∧ bo ≤ 4611686018427387904 ∧ 1 ≤ to ∧ to ≤ 4611686018427387904)
def Small (a : Int) : Prop := 0 ≤ a ∧ a ≤ 4611686018427387904
theorem moved_fst {later bc co : Int} (hb : Small bc) : (movedS later bc co).1 = if bc > 0 then 2 * bc + 1 else bc := by
  unfold Small at hb
  simp only [movedS, decide_eq_true_eq]
  split
  · rw [u64_id (a := 2 * bc) (by omega) (by omega), u64_id (by omega) (by omega)]
  · rfl
theorem moved_snd {later bc co : Int} (hl : 0 ≤ later ∧ later < 4294967296) (hc : Small co) : (movedS later bc co).2 = if co > 0 then co + later else co := by
  unfold Small at hc
  simp only [movedS, decide_eq_true_eq]
  split
  · rw [u64_id (a := later) (by omega) (by omega), u64_id (by omega) (by omega)]
  · rfl
theorem fresh_same {later sz bo to se bo' to' bc co : Int} {any : Bool} (hl : 0 ≤ later ∧ later < 4294967296) (hb : Small bc) (hc : Small co) (hr : Rl later bo to bo' to' any) :
    freshS sz bo' to' se any (movedS later bc co).1 (movedS later bc co).2 = freshS sz bo to se any bc co := by
  rw [moved_fst hb, moved_snd hl hc]
  unfold Small at hb hc
  unfold freshS
  by_cases h1 : bc = 0
  · subst h1; simp
  by_cases h2 : co = 0
  · subst h2; simp
  have p1 : bc > 0 := by omega
  have p2 : co > 0 := by omega
  rw [if_pos p1, if_pos p2]
  rcases hr with ⟨rfl, rfl, rfl, rfl, rfl⟩ | ⟨rfl, rfl, rfl, h3, h4, h5, h6⟩
  · rw [beq_congr (show 2 * bc + 1 = 0 ↔ bc = 0 by omega), beq_congr (show co + later = 0 ↔ co = 0 by omega)]
    simp
  · rw [beq_congr (show 2 * bc + 1 = 0 ↔ bc = 0 by omega), beq_congr (show co + later = 0 ↔ co = 0 by omega), dec_congr (show 2 * bc + 1 > 2 * bo + 1 ↔ bc > bo by omega), dec_congr (show 2 * bc + 1 < 2 * bo + 1 ↔ bc < bo by omega), dec_congr (show co + later > to + later ↔ co > to by omega),
      show back (to + later) (co + later) = back to co by unfold back; rw [show to + later - (co + later) = to - co by omega]]

theorem take_same {later sz bo to se bo' to' bc co : Int} {any : Bool} (hl : 0 ≤ later ∧ later < 4294967296) (hb : Small bc) (hc : Small co) (hr : Rl later bo to bo' to' any) :
    (takeS sz bo' to' se any (movedS later bc co).1 (movedS later bc co).2).1 = (takeS sz bo to se any bc co).1 ∧
    ∃ bo2 to2 se2 any2 bo3 to3, (takeS sz bo to se any bc co).2 = win sz bo2 to2 se2 any2 ∧ (takeS sz bo' to' se any (movedS later bc co).1 (movedS later bc co).2).2 = win sz bo3 to3 se2 any2 ∧ Rl later bo2 to2 bo3 to3 any2 := by
  unfold takeS
  rw [fresh_same hl hb hc hr, moved_fst hb, moved_snd hl hc]
  unfold Small at hb hc
  by_cases h1 : bc = 0
  · subst h1; exact ⟨by simp, bo, to, se, any, bo', to', by simp, by simp, hr⟩
  by_cases h2 : co = 0
  · subst h2; exact ⟨by simp, bo, to, se, any, bo', to', by simp, by simp, hr⟩
  have p1 : bc > 0 := by omega
  have p2 : co > 0 := by omega
  rw [if_pos p1, if_pos p2, beq_congr (show 2 * bc + 1 = 0 ↔ bc = 0 by omega), beq_congr (show co + later = 0 ↔ co = 0 by omega), beq_eq_false_iff_ne.2 h1, beq_eq_false_iff_ne.2 h2]
  simp only [Bool.false_eq_true, if_false]
  cases hf : freshS sz bo to se any bc co
  · simp only [Bool.not_false, if_true]
    exact ⟨trivial, bo, to, se, any, bo', to', rfl, rfl, hr⟩
  simp only [Bool.not_true, Bool.false_eq_true, if_false]
  rcases hr with ⟨rfl, rfl, rfl, rfl, rfl⟩ | ⟨rfl, rfl, rfl, h3, h4, h5, h6⟩
  · simp only [Bool.not_false, if_true]
    exact ⟨trivial, bc, co, 1, true, 2 * bc + 1, co + later, rfl, rfl, .inr ⟨rfl, rfl, rfl, by omega⟩⟩
  · simp only [Bool.not_true, Bool.false_eq_true, if_false]
    rw [dec_congr (show 2 * bc + 1 > 2 * bo + 1 ↔ bc > bo by omega), dec_congr (show co + later > to + later ↔ co > to by omega), show co + later - (to + later) = co - to by omega, show to + later - (co + later) = to - co by omega]
    by_cases q1 : bc > bo
    · simp only [q1, decide_true, if_true]
      exact ⟨trivial, bc, co, 1, true, 2 * bc + 1, co + later, rfl, rfl, .inr ⟨rfl, rfl, rfl, by omega⟩⟩
    · simp only [q1, decide_false, Bool.false_eq_true, if_false]
      by_cases q2 : co > to
      · simp only [q2, decide_true, if_true]
        by_cases q3 : u64 (co - to) < 64
        · simp only [q3, decide_true, if_true]
          exact ⟨trivial, bo, co, _, true, 2 * bo + 1, co + later, rfl, rfl, .inr ⟨rfl, rfl, rfl, by omega⟩⟩
        · simp only [q3, decide_false, Bool.false_eq_true, if_false]
          exact ⟨trivial, bo, co, _, true, 2 * bo + 1, co + later, rfl, rfl, .inr ⟨rfl, rfl, rfl, by omega⟩⟩
      · simp only [q2, decide_false, Bool.false_eq_true, if_false]
        exact ⟨trivial, bo, to, _, true, 2 * bo + 1, to + later, rfl, rfl, .inr ⟨rfl, rfl, rfl, by omega⟩⟩
theorem top_same {later bo to bo' to' : Int} {any : Bool} (hl : 0 ≤ later ∧ later < 4294967296) (hr : Rl later bo to bo' to' any) : movedS later bo to = (bo', to') := by
  rcases hr with ⟨rfl, rfl, rfl, rfl, rfl⟩ | ⟨rfl, rfl, rfl, h3, h4, h5, h6⟩
  · rfl
  · have e1 := moved_fst (later := later) (bc := bo) (co := to) ⟨by omega, by omega⟩
    have e2 := moved_snd (bc := bo) hl (co := to) ⟨by omega, by omega⟩
    rw [if_pos (by omega)] at e1 e2
    rw [← e1, ← e2]
def body3 : ACode := (.seq (.reg f3r9) (.seq (.cond (.t 48) .skip (.exit 0)) (.seq (.block 1 (.seq (.reg f3r10) (.seq (.seq (.reg f3r11) (.cond (.t 58) (.exit 1) .skip)) (.seq (.reg f3r12) (.seq (.seq (.draw f3r13) (.cond (.t 89) (.seq (.reg f3r14) .ret) .skip)) (.seq (.reg f3r15) (.seq (.reg f3r16) (.seq (.reg f3r17) (.seq (.draw f3r18) (.cond (.t 108) (.seq (.reg f3r19) .ret) .skip)))))))))) (.reg f3r20))))
structure HInv3 (later sz : Int) (bl bv bw : Nat) (ls : AV) (xs : List AV) (h : H) : Prop where
  ll : bl < h.next
  lv : bv < h.next
  lw : bw < h.next
  wins : ∃ bo to se any bo' to', h.get bv = some (win sz bo to se any) ∧ h.get bw = some (win sz bo' to' se any) ∧ Rl later bo to bo' to' any
  gl : ∃ e, h.get bl = some (.row .fixed e [.int .u32 later])
  ro : IsRo h ls 30 xs
theorem HInv3.keep {later sz : Int} {bl bv bw : Nat} {ls : AV} {xs : List AV} {h h' : H} (k : Keep h h') (v : HInv3 later sz bl bv bw ls xs h) : HInv3 later sz bl bv bw ls xs h' := by
  obtain ⟨bo, to, se, any, bo', to', wv, ww, rl⟩ := v.wins
  obtain ⟨e, gl⟩ := v.gl
  exact ⟨Nat.lt_of_lt_of_le v.ll k.1, Nat.lt_of_lt_of_le v.lv k.1, Nat.lt_of_lt_of_le v.lw k.1, ⟨bo, to, se, any, bo', to', k.to wv v.lv, k.to ww v.lw, rl⟩, ⟨e, k.to gl v.ll⟩, v.ro.keep k⟩
structure Inv3 (later sz : Int) (bl bv bw : Nat) (ls : AV) (xs : List AV) (i : Nat) (r : Env) (h : H) : Prop where
  r45 : r 45 = ls
  r46 : r 46 = .int .i64 xs.length
  r47 : r 47 = .int .i64 i
  r7 : r 7 = .ptr bv [0] 167
  r9 : r 9 = .ptr bw [0] 167
  r11 : r 11 = .fn 13 [] [.ptr bl [0] 23]
  hi : HInv3 later sz bl bv bw ls xs h
def num (p : Int × Int) : AV := .agg 30 [.int .u64 p.1, .int .u64 p.2]
theorem loop3 {later sz : Int} {bl bv bw : Nat} {ls : AV} {l : List (Int × Int)} (hl : 0 ≤ later ∧ later < 4294967296) (n1 : bl ≠ bv) (n2 : bl ≠ bw) (n3 : bv ≠ bw) (hlen : l.length ≤ 100) (hpos : ∀ p ∈ l, 0 ≤ p.1 ∧ 0 ≤ p.2)
    {K : AV → H → Prop} (hQ : ∀ h, K (.bool true) h) :
    ∀ (d i : Nat) (r : Env) (h : H), i + d = l.length → Inv3 later sz bl bv bw ls (l.map num) i r h → Wp T [.inLoop body3, .inBlock 0, .code (.seq (.reg f3r21) .ret)] r h fun r1 h1 => resW r1 h1 f3.results fun vs => forceA (tupOf vs) fun v => K v h1 := by
  intro d
  induction d with
  | zero =>
    intro i r h hi v
    refine wp_inLoop ?_
    rw [← know_set v.r46, ← know_set v.r47]
    refine px_sound T 30 _ _ _ _ ?_
    unfold body3
    refine sel_intro (fun c1 => ?_) (fun c1 => ?_)
    · exfalso; simp at c1; omega
    · exact And.intro rfl (hQ _)
  | succ d ih =>
    intro i r h hi v
    refine wp_inLoop ?_
    obtain ⟨bo, to, se, any, bo', to', wv, ww, rl⟩ := v.hi.wins
    obtain ⟨el, gl⟩ := v.hi.gl
    have hil : i < l.length := by omega
    rcases v.hi.ro with ⟨_, he⟩ | ⟨b, rfl, hb, gb⟩
    · simp at he; subst he; simp at hil
    rw [← know_set v.r45, ← know_set v.r46, ← know_set v.r47, ← know_set v.r7, ← know_set v.r9, ← know_set v.r11]
    refine px_sound T 400 _ _ _ _ ?_
    unfold body3
    refine sel_intro (fun c1 => ?_) (fun c1 => ?_)
    · have hx : (l.map num)[i]? = some (num l[i]) := by simp [hil]
      generalize hp : l[i] = p at hx
      have hpp := hpos p (by rw [← hp]; exact List.getElem_mem hil)
      obtain ⟨bc, co⟩ := p
      refine And.intro ⟨rfl, by omega, by simpa using hil⟩ ?_
      refine And.intro rfl ⟨_, _, _, gb, ?_⟩
      refine optW_of (v := num (bc, co)) (by simpa [at?] using hx) ?_
      refine fun g1 m1 => ?_
      refine And.intro ⟨rfl, rfl⟩ ⟨_, _, _, m1.at, by decide, fun g2 u2 => ?_⟩
      have s1 : g2.next = h.next + 1 := by rw [u2.next, m1.nx]
      have k2 : Keep h g2 := ((Keep.refl h).new m1 (Nat.le_refl _)).upd u2 (Nat.le_refl _)
      have a2 := u2.at
      refine And.intro rfl ⟨_, _, _, a2, ?_⟩
      refine sel_intro (fun c2 => ?_) (fun c2 => ?_)
      · exact ih (i + 1) _ _ (by omega) ⟨rfl, rfl, inc_ok (by omega), rfl, rfl, rfl, v.hi.keep k2⟩
      refine And.intro rfl ⟨_, _, _, a2, ?_⟩
      refine sel_intro (fun c3 => ?_) (fun c3 => ?_)
      · exact ih (i + 1) _ _ (by omega) ⟨rfl, rfl, inc_ok (by omega), rfl, rfl, rfl, v.hi.keep k2⟩
      refine And.intro rfl ⟨_, _, _, a2, ?_⟩
      refine moved_ok (k2.to gl v.hi.ll) (by have := v.hi.ll; omega) (fun g3 k3 => ?_)
      refine fun g4 m4 => ?_
      refine And.intro ⟨rfl, rfl⟩ ⟨_, _, _, m4.at, by decide, fun g5 u5 => ?_⟩
      have q2 : g3.next ≥ h.next + 1 := by have := k3.1; omega
      have q5 : g5.next = g3.next + 1 := by rw [u5.next, m4.nx]
      have k5 : Keep h g5 := ((k2.trans k3).new m4 (by omega)).upd u5 (by omega)
      have a5 := u5.ne (m4.ne (k3.to a2 (by omega)) (by omega)) (by omega)
      have b5 := u5.at
      have wv5 := k5.to wv v.hi.lv
      have ww5 := k5.to ww v.hi.lw
      have ll := v.hi.ll
      have lv := v.hi.lv
      have lw := v.hi.lw
      refine And.intro rfl ⟨_, _, _, a5, ?_⟩
      refine And.intro rfl ⟨_, _, _, a5, ?_⟩
      refine fresh_ok (by exact wv5) ?_
      refine And.intro rfl ⟨_, _, _, b5, ?_⟩
      refine And.intro ⟨rfl, _, _, _, b5, rfl⟩ ?_
      refine And.intro rfl ⟨_, _, _, b5, ?_⟩
      refine And.intro ⟨rfl, _, _, _, b5, rfl⟩ ?_
      refine fresh_ok (by exact ww5) ?_
      refine sel_intro (fun c4 => ?_) (fun c4 => ?_)
      · exfalso
        rw [fresh_same hl ⟨hpp.1, by simpa using c2⟩ ⟨hpp.2, by simpa using c3⟩ rl] at c4
        simp at c4
      refine And.intro rfl ⟨_, _, _, a5, ?_⟩
      refine And.intro rfl ⟨_, _, _, a5, ?_⟩
      refine take_ok (by exact wv5) (fun g6 u6 => ?_)
      have b6 := u6.ne b5 (by omega)
      refine And.intro rfl ⟨_, _, _, b6, ?_⟩
      refine And.intro ⟨rfl, _, _, _, b5, rfl⟩ ?_
      refine And.intro rfl ⟨_, _, _, b6, ?_⟩
      refine And.intro ⟨rfl, _, _, _, b5, rfl⟩ ?_
      refine take_ok (u6.ne ww5 (Ne.symm n3)) (fun g7 u7 => ?_)
      have sb : Small bc := ⟨hpp.1, by simpa using c2⟩
      have sc : Small co := ⟨hpp.2, by simpa using c3⟩
      obtain ⟨te1, bo2, to2, se2, any2, bo3, to3, e1, e2, rl2⟩ := take_same (se := se) (sz := sz) hl sb sc rl
      rw [show (takeS sz bo to se any (bc, co).1 (bc, co).2).2 = win sz bo2 to2 se2 any2 from e1] at u6
      rw [show (takeS sz bo' to' se any (movedS later (bc, co).1 (bc, co).2).1 (movedS later (bc, co).1 (bc, co).2).2).2 = win sz bo3 to3 se2 any2 from e2] at u7
      refine sel_intro (fun c5 => ?_) (fun c5 => ?_)
      · exfalso
        rw [show (takeS sz bo' to' se any (movedS later (bc, co).1 (bc, co).2).1 (movedS later (bc, co).1 (bc, co).2).2).1 = (takeS sz bo to se any (bc, co).1 (bc, co).2).1 from te1] at c5
        simp at c5
      have q6 : g5.next ≤ g6.next := Nat.le_trans (Nat.le_add_right _ _) u6.2
      have q7 := u7.2
      have h7 : HInv3 later sz bl bv bw (.slice b [] 0 (l.map num).length 30) (l.map num) g7 := by
        refine ⟨by omega, by omega, by omega, ⟨bo2, to2, se2, any2, bo3, to3, u7.ne u6.at n3, u7.at, rl2⟩, ⟨el, u7.ne (u6.ne (k5.to gl v.hi.ll) n1) n2⟩, .inr ⟨b, rfl, by omega, ?_⟩⟩
        have f5 := k5.to gb hb
        have d1 : b ≠ bv := fun e => by rw [e, wv] at gb; cases gb
        have d2 : b ≠ bw := fun e => by rw [e, ww] at gb; cases gb
        exact u7.ne (u6.ne f5 d1) d2
      clear u6 u7
      refine fun g8 m8 g9 m9 => ?_
      have q8 := m8.nx
      have q9 := m9.nx
      have k9 : Keep g7 g9 := ((Keep.refl g7).new m8 (Nat.le_refl _)).new m9 (by omega)
      obtain ⟨bo, to, se, any, bo', to', wv, ww, rl⟩ := h7.wins
      refine top_ok (by exact k9.to wv h7.lv) (fun g10 k10 => ?_)
      refine And.intro ⟨rfl, rfl⟩ ⟨_, _, _, k10.to (m9.ne m8.at (by omega)) (by omega), by decide, fun g11 u11 => ?_⟩
      refine And.intro ⟨rfl, rfl⟩ ⟨_, _, _, u11.at, by decide, fun g12 u12 => ?_⟩
      have l10 := k10.1
      have k12 : Keep g7 g12 := ((k9.trans k10).upd u11 (Nat.le_refl _)).upd u12 (Nat.le_refl _)
      have q11 : g11.next = g10.next := u11.next
      have q12 : g12.next = g11.next := u12.next
      have ll7 := h7.ll
      have lv7 := h7.lv
      have lw7 := h7.lw
      refine top_ok (by exact k12.to ww (by omega)) (fun g13 k13 => ?_)
      have a15 := u12.at
      have l13 := k13.1
      refine And.intro ⟨rfl, rfl⟩ ⟨_, _, _, k13.to (u12.ne (u11.ne (k10.to m9.at (by omega)) (by omega)) (by omega)) (by omega), by decide, fun g14 u14 => ?_⟩
      refine And.intro ⟨rfl, rfl⟩ ⟨_, _, _, u14.at, by decide, fun g15 u15 => ?_⟩
      have a16 := u15.at
      have q14 : g14.next = g13.next := u14.next
      have q15 : g15.next = g14.next := u15.next
      have b15 := u15.ne (u14.ne (k13.to a15 (by omega)) (by omega)) (by omega)
      have k15 : Keep g7 g15 := ((k12.trans k13).upd u14 (by omega)).upd u15 (by omega)
      obtain ⟨el2, gl2⟩ := h7.gl
      refine And.intro rfl ⟨_, _, _, b15, ?_⟩
      refine moved_ok (by exact k15.to gl2 h7.ll) (by show bl < g15.next + 5; omega) (fun g16 k16 => ?_)
      have l16 : g15.next ≤ g16.next := Nat.le_trans (Nat.le_add_right _ _) k16.1
      have k16' : Keep g15 g16 := ⟨l16, fun c hc => k16.2 c (Nat.lt_of_lt_of_le hc (Nat.le_add_right _ _))⟩
      refine And.intro rfl ⟨_, _, _, k16'.to a16 (by omega), ?_⟩
      refine And.intro ⟨rfl, _, _, _, a16, rfl⟩ ?_
      refine sel_intro (fun c6 => ?_) (fun c6 => ?_)
      · exfalso
        have e := top_same hl rl
        have c6 : (!AV.beqs [AV.int .u64 (movedS later bo to).1, AV.int .u64 (movedS later bo to).2] [AV.int .u64 bo', AV.int .u64 to']) = true := c6
        rw [e, beqs_self] at c6
        cases c6
      · exact ih (i + 1) _ _ (by omega) ⟨rfl, rfl, inc_ok (by omega), rfl, rfl, rfl, h7.keep (k15.trans k16')⟩
    · exfalso; simp at c1; omega
theorem wakes_ok {h : H} {K : AV → H → Prop} (hK : K (.bool true) h) : Cw T 11 [] h K := ⟨by unfold CwD; rw [exw]; exact hK⟩
def numShp : Shp := .agg 30 [.int .u64, .int .u64]
theorem law3 (h : H) (avs : List AV) (ha : ArgsOf h [.int .i64, .slice 30 numShp, .int .u32] avs) : Cw T 3 avs h fun v _ => v = .bool true := by
  obtain ⟨_, r0, rfl, ⟨n, rfl, hn0, hn1⟩, _, r1, rfl, hls, _, r2, rfl, ⟨later, rfl, hl0, hl1⟩, hr⟩ := ha
  simp only [ArgsOf] at hr
  subst hr
  obtain ⟨l, ro, hmax, hpos⟩ := slice_arg (f := num) (p := fun p => 0 ≤ p.1 ∧ 0 ≤ p.2) hls (fun x hx => by
    obtain ⟨_, rfl, _, _, rfl, ⟨a, rfl, a0, _⟩, _, _, rfl, ⟨b, rfl, b0, _⟩, hx⟩ := hx
    simp only [ArgsOf] at hx
    subst hx
    exact ⟨(a, b), rfl, a0, b0⟩)
  refine cw_intro 400 (ex3 _) fn3 ?_
  refine And.intro rfl (fun g1 m1 => ?_)
  have k1 : Keep h g1 := (Keep.refl h).new m1 (Nat.le_refl _)
  have q1 := m1.nx
  refine wakes_ok ?_
  by_cases hn : n < 1 ∨ 64 < n
  · refine new_ok (fun _ => ?_) (fun hh => (hh hn).elim)
    refine new_ok (fun _ => ?_) (fun hh => (hh hn).elim)
    exact And.intro rfl rfl
  refine new_ok (fun hh => (hn hh).elim) (fun _ g2 m2 => ?_)
  refine new_ok (fun hh => (hn hh).elim) (fun _ g3 m3 => ?_)
  have q2 := m2.nx
  have q3 := m3.nx
  have k3 : Keep h g3 := (k1.new m2 (by omega)).new m3 (by omega)
  have ro3 := ro.keep k3
  have hl : 0 ≤ later ∧ later < 4294967296 := ⟨hl0, by have : (IntKind.u32.max : Int) = 4294967295 := rfl; omega⟩
  have hinv : HInv3 later n h.next g1.next g2.next _ (l.map num) g3 :=
    ⟨by omega, by omega, by omega, ⟨0, 0, 0, false, 0, 0, m3.ne m2.at (by omega), m3.at, .inl ⟨rfl, rfl, rfl, rfl, rfl⟩⟩, ⟨23, m3.ne (m2.ne m1.at (by omega)) (by omega)⟩, ro3⟩
  rcases ro3 with ⟨rfl, hnil⟩ | ⟨b, rfl, hb, gb⟩
  · have hnil : l = [] := by simpa using hnil
    subst hnil
    exact wp_loop_of (loop3 hl (by omega) (by omega) (by omega) (by simp) hpos (fun _ => rfl) 0 0 _ _ rfl ⟨rfl, rfl, rfl, rfl, rfl, rfl, hinv⟩)
  · refine sel_intro (fun c1 => ?_) (fun c1 => ?_)
    · exact And.intro rfl rfl
    · have hlen : l.length ≤ 100 := by
        simp only [List.length_map, decide_eq_false_iff_not] at c1
        omega
      exact wp_loop_of (loop3 hl (by omega) (by omega) (by omega) hlen hpos (fun _ => rfl) l.length 0 _ _ (by omega) ⟨rfl, rfl, rfl, rfl, rfl, rfl, hinv⟩)
end Go.Dam.S
