/- A part of this claim. -/
import Derived.Test.YtoipeoafcjjaeaaRibA
namespace Go.Dam.S
open Go Go.Dam
def iV (j : Nat) : AV := .int .i64 j
/-! ### equal lists of numbers -/
def body50 : ACode := (.seq (.reg f50r4) (.seq (.cond (.t 14) .skip (.exit 0)) (.seq (.block 1 (.seq (.reg f50r5) (.seq (.draw f50r6) (.cond (.t 24) (.seq (.reg f50r7) .ret) .skip)))) (.reg f50r8))))
theorem IsSl.one {lo : Nat} {h : H} {v : AV} {e : TypeId} {ys : List AV} (o : IsSl lo h v e ys) {i : Nat} {y : AV} (hi : ys[i]? = some y) : ∃ c off k eb xs, v = .slice c [] off ys.length e ∧ h.get c = some (.row k eb xs) ∧ xs[off + i]? = some y ∧ c < h.next := by
  rcases o with ⟨_, rfl⟩ | ⟨c, h1, h2, h3, h4⟩
  · simp at hi
  · exact ⟨c, 0, _, _, _, h1, h4, by simpa using hi, h3⟩
theorem equal_ok {lo lo2 : Nat} {v w : AV} {xs : List Nat} {h : H} (hl : xs.length < 1000000) (r1 : IsSl lo h v 3 (xs.map iV)) (r2 : IsSl lo2 h w 3 (xs.map iV)) {K : AV → H → Prop} (hK : ∀ h', Keep h h' → K (.bool true) h') : Cw S.T 50 [v, w] h K := by
  refine cw_q 200 (ex50 _) fn50 ?_
  have l1 := r1.len
  have l2 := r2.len
  rw [List.length_map] at l1 l2
  refine ⟨xs.length, l1, ?_⟩
  refine ⟨xs.length, l2, ?_⟩
  refine sel_intro (fun c1 => ?_) (fun c1 => ?_)
  · exfalso; simp at c1
  refine ⟨xs.length, l1, ?_⟩
  have loop : ∀ (d i : Nat) (r : Env) (g : H), i + d = xs.length → agree r [(0, v), (1, w), (12, .int .i64 xs.length), (13, .int .i64 i)] → Keep h g → Wp S.T [.inLoop body50, .inBlock 0, .code (.seq (.reg f50r9) .ret)] r g (RetQ f50 K) := by
    intro d
    induction d with
    | zero =>
      intro i r g hi ha kg
      refine wp_inLoop (wp_q0 (items := [.code body50, .inLoop body50, .inBlock 0, .code (.seq (.reg f50r9) .ret)]) 50 ha ?_)
      unfold body50
      refine sel_intro (fun c1 => ?_) (fun c1 => ?_)
      · exfalso; simp only [decide_eq_true_eq] at c1; omega
      · exact ⟨_, rfl, rfl, hK g kg⟩
    | succ d ih =>
      intro i r g hi ha kg
      refine wp_inLoop (wp_q0 (items := [.code body50, .inLoop body50, .inBlock 0, .code (.seq (.reg f50r9) .ret)]) 100 ha ?_)
      unfold body50
      have hil : i < xs.length := by omega
      have hx : (xs.map iV)[i]? = some (iV xs[i]) := by simp [hil]
      obtain ⟨c, o, kk, eb, zs, hv, hc, hz, lt⟩ := IsSl.one r1 hx
      obtain ⟨c', o', kk', eb', zs', hv', hc', hz', lt'⟩ := IsSl.one r2 hx
      rw [List.length_map] at hv hv'
      refine sel_intro (fun c1 => ?_) (fun c1 => ?_)
      · refine ⟨c, [], o, xs.length, i, o + i, hv, rfl, hil, rfl, ?_⟩
        refine read1 (kg.to hc lt) hz ?_
        refine ⟨c', [], o', xs.length, i, o' + i, hv', rfl, hil, rfl, ?_⟩
        refine read1 (kg.to hc' lt') hz' ?_
        refine sel_intro (fun c2 => ?_) (fun c2 => ?_)
        · exfalso; simp at c2
        refine ⟨((i + 1 : Nat) : Int), by rw [i64_id (by omega) (by omega)]; rfl, ?_⟩
        exact ih (i + 1) _ _ (by omega) ⟨rfl, rfl, rfl, rfl, trivial⟩ (kg.trans (Keep.bump _ _))
      · exfalso; simp only [decide_eq_false_iff_not] at c1; omega
  exact wp_loop_of (loop xs.length 0 _ h (by omega) ⟨rfl, rfl, rfl, rfl, trivial⟩ (Keep.refl _))

/-! ### breaks -/
structure Tab.Good (T : Tab) : Prop where
  ok : T.Ok
  rules : rulesR T.hold T.life
  since : ∀ d n, 0 ≤ (T.l d n).since ∧ (T.l d n).since ≤ 1099511627776
theorem Tab.Good.setL {T : Tab} (g : T.Good) {d n : Nat} {o : Off} (ho : 0 ≤ o.since ∧ o.since ≤ 1099511627776) : (T.setL d n o).Good := by
  refine ⟨g.ok, g.rules, fun i j => ?_⟩
  unfold Tab.setL
  simp only
  split
  · exact ho
  · exact g.since i j
theorem Tab.Good.choose {T : Tab} (g : T.Good) (d : Nat) : (T.choose d).Good := ⟨g.ok.choose d, g.rules, g.since⟩
theorem Tab.Good.drop {T : Tab} (g : T.Good) (d n : Nat) (now : Int) : (T.drop d n now).Good := g.setL (by simp [off0])
def breakStep (now : Int) (n : Nat) (s : Tab × List Nat) (d : Nat) : Tab × List Nat :=
  if (s.1.l d n).has = true then ((s.1.drop d n now).choose d, if s.1.nx d = n then s.2 ++ [d] else s.2) else s
def Tab.brkTo (T : Tab) (now : Int) (n i : Nat) : Tab × List Nat := (List.range i).foldl (breakStep now n) (T, [])
theorem brkTo_succ {T : Tab} {now : Int} {n i : Nat} : T.brkTo now n (i + 1) = breakStep now n (T.brkTo now n i) i := by
  unfold Tab.brkTo
  rw [List.range_succ, List.foldl_append]
  rfl
theorem brkTo_good {T : Tab} (g : T.Good) {now : Int} {n : Nat} : ∀ i, (T.brkTo now n i).1.Good ∧ (T.brkTo now n i).2.length ≤ i := by
  intro i
  induction i with
  | zero => exact ⟨g, Nat.le_refl _⟩
  | succ i ih =>
    rw [brkTo_succ]
    unfold breakStep
    split
    · refine ⟨(ih.1.drop _ _ _).choose _, ?_⟩
      simp only
      split
      · simp; exact ih.2
      · have := ih.2; omega
    · exact ⟨ih.1, by have := ih.2; omega⟩
def body48 : ACode := (.seq (.reg f48r5) (.seq (.cond (.t 25) .skip (.exit 0)) (.seq (.block 1 (.seq (.reg f48r6) (.seq (.seq (.reg f48r7) (.cond (.t 36) (.exit 1) .skip)) (.seq (.reg f48r8) (.seq (.seq (.reg f48r9) (.cond (.t 49) (.reg f48r10) .skip)) (.reg f48r11)))))) (.reg f48r12))))
set_option maxRecDepth 4000 in
theorem loop48 {b n : Nat} {now : Int} {T : Tab} (hn : n < 8) (hnow : timeF now) (gd : T.Good) {h0 : H} (lb0 : b < h0.next) {k : List Item} {Q : Env → H → Prop}
    (hk : ∀ r h v p, agree r [(7, v)] → Fr (fun c => c = b) h0 h → IsTab h b (T.brkTo now n 8).1 p → IsSl h0.next h v 3 ((T.brkTo now n 8).2.map iV) → Wp S.T k r h Q) :
    ∀ (m i : Nat) (r : Env) (h : H) (v : AV) (p : Nat → Nat → AV), i + m = 8 → agree r [(0, .ptr b [0] 195), (1, .int .i64 now), (2, .int .i64 n), (7, v), (24, .int .i64 i)] → Fr (fun c => c = b) h0 h → IsTab h b (T.brkTo now n i).1 p → IsSl h0.next h v 3 ((T.brkTo now n i).2.map iV) → Wp S.T (.inLoop body48 :: .inBlock 0 :: k) r h Q := by
  intro m
  induction m with
  | zero =>
    intro i r h v p hi ha F t o
    have hi8 : i = 8 := by omega
    subst hi8
    refine wp_inLoop (wp_q (items := [.code body48, .inLoop body48, .inBlock 0]) 50 ha ?_)
    unfold body48
    exact hk _ _ v p ⟨rfl, trivial⟩ F t o
  | succ m ih =>
    intro i r h v p hi ha F t o
    have hi8 : i < 8 := by omega
    refine wp_inLoop (wp_q (items := [.code body48, .inLoop body48, .inBlock 0]) 200 ha ?_)
    unfold body48
    have bg := brkTo_good gd (now := now) (n := n) i
    have ih := fun r h v p => ih (i + 1) r h v p (by omega)
    rw [brkTo_succ] at ih
    unfold breakStep at ih
    generalize hs : T.brkTo now n i = s at t o bg ih
    have n0 := F.1
    refine sel_intro (fun c1 => ?_) (fun c1 => ?_)
    · refine ⟨i, rfl, hi8, ?_⟩
      refine ⟨n, rfl, hn, ?_⟩
      refine readP t.hb (at_cons (at_off hi8 hn) rfl) ?_
      refine sel_intro (fun c2 => ?_) (fun c2 => ?_)
      · have c2 : (!(s.1.l i n).has) = true := c2
        refine ⟨((i + 1 : Nat) : Int), by rw [i64_id (by omega) (by omega)]; rfl, ?_⟩
        rw [if_neg (fun hh => by rw [hh] at c2; cases c2)] at ih
        exact ih _ _ v p ⟨rfl, rfl, rfl, rfl, rfl, trivial⟩ F t o
      have c2 : (!(s.1.l i n).has) = false := c2
      rw [if_pos (by simpa using c2)] at ih
      have hr := bg.1.rules
      unfold rulesR at hr
      refine drop_ok hi8 hn hnow ⟨hr.1, hr.2.1⟩ t (fun h1 p1 F1 t1 => ?_)
      have n1 := F1.1
      have F1' := F.trans F1
      have o1 : IsSl h0.next h1 v 3 (s.2.map iV) := o.fr F1 (fun c e hc => by omega)
      refine ⟨i, rfl, hi8, ?_⟩
      refine readP t1.hb (at_nx hi8) ?_
      refine sel_intro (fun c3 => ?_) (fun c3 => ?_)
      · have c3 : (s.1.nx i == (n : Int)) = true := c3
        rw [if_pos (by simpa using c3)] at ih
        refine fun h2 m2 => ?_
        have n2 := m2.nx
        have k2 : Keep h1 h2 := (Keep.refl h1).new m2 (Nat.le_refl _)
        refine sl_app (l := [iV i]) (o1.keep k2) (src_all m2.at) (by simp) (by simp; have := bg.2; omega) (by omega) (fun h3 v3 F3 o3 => ?_)
        have n3 := F3.1
        have t2 := t1.keep k2
        have t3 : IsTab h3 b (s.1.drop i n now) p1 := by
          refine t2.fr F3 (fun hh => by have := hh.2; omega) (fun c kk hh hc => ?_)
          rcases o1.keep k2 with ⟨e1, _⟩ | ⟨c', e1, _, _, e2⟩
          · rw [e1] at hh; cases hh.1
          · rw [e1] at hh
            have := hh.1
            simp only [AV.slice.injEq] at this
            rw [← this.1, e2] at hc
            cases hc
        have F3' : Fr (fun c => c = b) h0 h3 := (F1'.keep k2).then F3 (fun c hc hh => by have := hh.2; omega)
        refine choose_ok hi8 t3 (fun h4 F4 t4 => ?_)
        refine ⟨((i + 1 : Nat) : Int), by rw [i64_id (by omega) (by omega)]; rfl, ?_⟩
        refine ih _ h4 v3 p1 ⟨rfl, rfl, rfl, rfl, rfl, trivial⟩ (F3'.trans F4) t4 ?_
        have := o3.fr F4 (fun c e hc => by omega)
        simpa using this
      · have c3 : (s.1.nx i == (n : Int)) = false := c3
        rw [if_neg (fun hh => by rw [hh] at c3; simp at c3)] at ih
        refine choose_ok hi8 t1 (fun h4 F4 t4 => ?_)
        refine ⟨((i + 1 : Nat) : Int), by rw [i64_id (by omega) (by omega)]; rfl, ?_⟩
        exact ih _ h4 v p1 ⟨rfl, rfl, rfl, rfl, rfl, trivial⟩ (F1'.trans F4) t4 (o1.fr F4 (fun c e hc => by omega))
    · exfalso; simp only [decide_eq_false_iff_not] at c1; omega
def Tab.brk (T : Tab) (now n : Int) : Tab × List Nat := if timeF now ∧ 0 ≤ n ∧ n < 8 then T.brkTo now n.toNat 8 else (T, [])
theorem break_ok {b : Nat} {now n : Int} {T : Tab} {p : Nat → Nat → AV} (gd : T.Good) {h : H} (t : IsTab h b T p) {K : AV → H → Prop} (hK : ∀ h' v p', Fr (fun c => c = b) h h' → IsTab h' b (T.brk now n).1 p' → IsSl h.next h' v 3 ((T.brk now n).2.map iV) → K v h') : Cw S.T 48 [.ptr b [0] 195, .int .i64 now, .int .i64 n] h K := by
  refine cw_q 200 (ex48 _) fn48 ?_
  have no : ¬ (timeF now ∧ 0 ≤ n ∧ n < 8) → K .nils h := fun hn => by
    unfold Tab.brk at hK
    rw [if_neg hn] at hK
    exact hK h .nils p (Fr.refl _ _) t .nil
  refine time_ok ?_
  refine sel_intro (fun c1 => ?_) (fun c1 => ?_)
  · have c1 : (!decide (timeF now)) = true := c1
    exact ⟨_, rfl, rfl, no (fun hh => by simp [hh.1] at c1)⟩
  have c1 : timeF now := by have c1 : (!decide (timeF now)) = false := c1; simpa using c1
  refine sel_intro (fun c2 => ?_) (fun c2 => ?_)
  · simp only [decide_eq_true_eq] at c2
    exact ⟨_, rfl, rfl, no (by omega)⟩
  refine sel_intro (fun c3 => ?_) (fun c3 => ?_)
  · simp only [decide_eq_true_eq] at c3
    exact ⟨_, rfl, rfl, no (by omega)⟩
  simp only [decide_eq_false_iff_not] at c2 c3
  obtain ⟨n, rfl⟩ : ∃ m : Nat, n = m := ⟨n.toNat, by omega⟩
  unfold Tab.brk at hK
  rw [if_pos ⟨c1, by omega, by omega⟩, Int.toNat_natCast] at hK
  refine wp_loop_of (loop48 (by omega) c1 gd t.lb (fun r h1 v p1 ha F t1 o1 => ?_) 8 0 _ h .nils p rfl ⟨rfl, rfl, rfl, rfl, rfl, trivial⟩ (Fr.refl _ _) t .nil)
  refine wp_q0 50 ha ?_
  refine ⟨v, rfl, ?_, hK h1 v p1 F t1 o1⟩
  rcases o1 with ⟨rfl, _⟩ | ⟨c, rfl, _⟩ <;> rfl
end Go.Dam.S

namespace Go.Dam.S
open Go Go.Dam
/-! ### expiry -/
def expStep (now : Int) (d : Nat) (s : Tab × Bool) (n : Nat) : Tab × Bool :=
  if (s.1.l d n).has = true ∧ now - (s.1.l d n).since ≥ s.1.life then (s.1.drop d n now, s.2 || (s.1.nx d == (n : Int))) else s
def Tab.expIn (T : Tab) (now : Int) (d i : Nat) : Tab × Bool := (List.range i).foldl (expStep now d) (T, false)
theorem expIn_succ {T : Tab} {now : Int} {d i : Nat} : T.expIn now d (i + 1) = expStep now d (T.expIn now d i) i := by
  unfold Tab.expIn
  rw [List.range_succ, List.foldl_append]
  rfl
theorem expIn_good {T : Tab} (g : T.Good) {now : Int} {d : Nat} : ∀ i, (T.expIn now d i).1.Good := by
  intro i
  induction i with
  | zero => exact g
  | succ i ih =>
    rw [expIn_succ]
    unfold expStep
    split
    · exact ih.drop _ _ _
    · exact ih
def expOut (now : Int) (s : Tab × List Nat) (d : Nat) : Tab × List Nat := ((s.1.expIn now d 8).1.choose d, if (s.1.expIn now d 8).2 = true then s.2 ++ [d] else s.2)
def Tab.expTo (T : Tab) (now : Int) (i : Nat) : Tab × List Nat := (List.range i).foldl (expOut now) (T, [])
theorem expTo_succ {T : Tab} {now : Int} {i : Nat} : T.expTo now (i + 1) = expOut now (T.expTo now i) i := by
  unfold Tab.expTo
  rw [List.range_succ, List.foldl_append]
  rfl
theorem expTo_good {T : Tab} (g : T.Good) {now : Int} : ∀ i, (T.expTo now i).1.Good ∧ (T.expTo now i).2.length ≤ i := by
  intro i
  induction i with
  | zero => exact ⟨g, Nat.le_refl _⟩
  | succ i ih =>
    rw [expTo_succ]
    unfold expOut
    refine ⟨(expIn_good ih.1 8).choose _, ?_⟩
    simp only
    split
    · simp; exact ih.2
    · have := ih.2; omega
def bodyEI : ACode := (.seq (.reg f95r9) (.seq (.cond (.t 21) .skip (.exit 2)) (.seq (.block 3 (.seq (.reg f95r10) (.seq (.reg f95r11) (.seq (.draw f95r12) (.cond (.t 44) (.seq (.reg f95r13) (.reg f95r14)) .skip))))) (.reg f95r15))))
def bodyEO : ACode := (.seq (.reg f95r5) (.seq (.cond (.t 18) .skip (.exit 0)) (.seq (.block 1 (.seq (.reg f95r6) (.seq (.reg f95r7) (.seq (.seq (.reg f95r8) (.block 2 (.loop bodyEI))) (.seq (.seq (.reg f95r16) (.cond (.t 62) (.reg f95r17) .skip)) (.reg f95r18)))))) (.reg f95r19))))
set_option maxRecDepth 4000 in
theorem loopEI {b d : Nat} {now : Int} {v : AV} {T : Tab} (hd : d < 8) (hnow : timeF now) (gd : T.Good) {h0 : H} (_lb0 : b < h0.next) {k : List Item} {Q : Env → H → Prop}
    (hk : ∀ r h p, agree r [(0, .ptr b [0] 195), (1, .int .i64 now), (5, v), (6, .int .i64 d), (7, .bool (T.expIn now d 8).2), (17, .int .i64 d)] → Fr (fun c => c = b) h0 h → IsTab h b (T.expIn now d 8).1 p → Wp S.T k r h Q) :
    ∀ (m i : Nat) (r : Env) (h : H) (p : Nat → Nat → AV), i + m = 8 → agree r [(0, .ptr b [0] 195), (1, .int .i64 now), (5, v), (6, .int .i64 d), (7, .bool (T.expIn now d i).2), (17, .int .i64 d), (20, .int .i64 i)] → Fr (fun c => c = b) h0 h → IsTab h b (T.expIn now d i).1 p → Wp S.T (.inLoop bodyEI :: .inBlock 2 :: k) r h Q := by
  intro m
  induction m with
  | zero =>
    intro i r h p hi ha F t
    have hi8 : i = 8 := by omega
    subst hi8
    refine wp_inLoop (wp_q (items := [.code bodyEI, .inLoop bodyEI, .inBlock 2]) 50 ha ?_)
    unfold bodyEI
    exact hk _ _ p ⟨rfl, rfl, rfl, rfl, rfl, rfl, trivial⟩ F t
  | succ m ih =>
    intro i r h p hi ha F t
    have hi8 : i < 8 := by omega
    refine wp_inLoop (wp_q (items := [.code bodyEI, .inLoop bodyEI, .inBlock 2]) 200 ha ?_)
    unfold bodyEI
    have bg := expIn_good gd (now := now) (d := d) i
    have ih := fun r h p => ih (i + 1) r h p (by omega)
    rw [expIn_succ] at ih
    unfold expStep at ih
    generalize hs : T.expIn now d i = s at t bg ih ⊢
    have n0 := F.1
    have hsi := bg.since d i
    unfold timeF at hnow
    refine sel_intro (fun c1 => ?_) (fun c1 => ?_)
    · refine ⟨d, rfl, hd, ?_⟩
      refine ⟨i, rfl, hi8, ?_⟩
      refine readP t.hb (at_off hd hi8) ?_
      refine fun g1 m1 => ?_
      refine And.intro rfl ⟨_, _, _, m1.at, by decide, fun g2 u2 => ?_⟩
      have n1 := m1.nx
      have n2 : g2.next = g1.next := u2.next
      have K2 : Keep h g2 := ((Keep.refl h).new m1 (Nat.le_refl _)).upd u2 (Nat.le_refl _)
      have t2 := t.keep K2
      have F2 := F.keep K2
      have stay : ¬ ((s.1.l d i).has = true ∧ now - (s.1.l d i).since ≥ s.1.life) → ∀ (r' : Env), agree r' [(0, .ptr b [0] 195), (1, .int .i64 now), (5, v), (6, .int .i64 d), (7, .bool s.2), (17, .int .i64 d), (20, .int .i64 ((i + 1 : Nat) : Int))] → Wp S.T (.inLoop bodyEI :: .inBlock 2 :: k) r' (g2.bump 14) Q := by
        intro hno r' ha'
        rw [if_neg hno] at ih
        exact ih r' _ p ha' F2.bump (t2.keep (Keep.bump _ _))
      refine ⟨_, _, _, u2.at, ?_⟩
      refine sel_intro (fun c2 => ?_) (fun c2 => ?_)
      · have c2 : (s.1.l d i).has = true := c2
        refine ⟨_, _, _, u2.at, ?_⟩
        refine ⟨now - (s.1.l d i).since, i64_id (by omega) (by omega), ?_⟩
        refine ⟨_, _, _, t2.hb, ?_⟩
        refine sel_intro (fun c3 => ?_) (fun c3 => ?_)
        · have c3 : decide (now - (s.1.l d i).since ≥ s.1.life) = true := c3
          rw [decide_eq_true_eq] at c3
          rw [if_pos ⟨c2, c3⟩] at ih
          have hr := bg.rules
          unfold rulesR at hr
          refine drop_ok hd hi8 hnow ⟨hr.1, hr.2.1⟩ (t2.keep (Keep.bump _ _)) (fun g3 p3 F3 t3 => ?_)
          have F3' := (F2.bump (n := 14)).trans F3
          cases hgone : s.2 with
          | true =>
            rw [hgone] at ih
            refine ⟨((i + 1 : Nat) : Int), by rw [i64_id (by omega) (by omega)]; rfl, ?_⟩
            exact ih _ g3 p3 ⟨rfl, rfl, rfl, rfl, rfl, rfl, rfl, trivial⟩ F3' t3
          | false =>
            rw [hgone] at ih
            refine ⟨d, rfl, hd, ?_⟩
            refine readP t3.hb (at_nx hd) ?_
            refine ⟨((i + 1 : Nat) : Int), by rw [i64_id (by omega) (by omega)]; rfl, ?_⟩
            exact ih _ g3 p3 ⟨rfl, rfl, rfl, rfl, rfl, rfl, rfl, trivial⟩ F3' t3
        · have c3 : decide (now - (s.1.l d i).since ≥ s.1.life) = false := c3
          rw [decide_eq_false_iff_not] at c3
          refine ⟨((i + 1 : Nat) : Int), by rw [i64_id (by omega) (by omega)]; rfl, ?_⟩
          exact stay (fun hh => c3 hh.2) _ ⟨rfl, rfl, rfl, rfl, rfl, rfl, rfl, trivial⟩
      · have c2 : (s.1.l d i).has = false := c2
        refine ⟨((i + 1 : Nat) : Int), by rw [i64_id (by omega) (by omega)]; rfl, ?_⟩
        exact stay (fun hh => by rw [hh.1] at c2; cases c2) _ ⟨rfl, rfl, rfl, rfl, rfl, rfl, rfl, trivial⟩
    · exfalso; simp only [decide_eq_false_iff_not] at c1; omega
set_option maxRecDepth 4000 in
theorem loopEO {b : Nat} {now : Int} {T : Tab} (hnow : timeF now) (gd : T.Good) {h0 : H} (_lb0 : b < h0.next) {k : List Item} {Q : Env → H → Prop}
    (hk : ∀ r h v p, agree r [(5, v)] → Fr (fun c => c = b) h0 h → IsTab h b (T.expTo now 8).1 p → IsSl h0.next h v 3 ((T.expTo now 8).2.map iV) → Wp S.T k r h Q) :
    ∀ (m i : Nat) (r : Env) (h : H) (v : AV) (p : Nat → Nat → AV), i + m = 8 → agree r [(0, .ptr b [0] 195), (1, .int .i64 now), (5, v), (17, .int .i64 i)] → Fr (fun c => c = b) h0 h → IsTab h b (T.expTo now i).1 p → IsSl h0.next h v 3 ((T.expTo now i).2.map iV) → Wp S.T (.inLoop bodyEO :: .inBlock 0 :: k) r h Q := by
  intro m
  induction m with
  | zero =>
    intro i r h v p hi ha F t o
    have hi8 : i = 8 := by omega
    subst hi8
    refine wp_inLoop (wp_q (items := [.code bodyEO, .inLoop bodyEO, .inBlock 0]) 50 ha ?_)
    unfold bodyEO
    exact hk _ _ v p ⟨rfl, trivial⟩ F t o
  | succ m ih =>
    intro i r h v p hi ha F t o
    have hi8 : i < 8 := by omega
    refine wp_inLoop (wp_q (items := [.code bodyEO, .inLoop bodyEO, .inBlock 0]) 200 ha ?_)
    unfold bodyEO
    have bg := expTo_good gd (now := now) i
    have ih := fun r h v p => ih (i + 1) r h v p (by omega)
    rw [expTo_succ] at ih
    unfold expOut at ih
    generalize hs : T.expTo now i = s at t o bg ih
    have n0 := F.1
    refine sel_intro (fun c1 => ?_) (fun c1 => ?_)
    · refine wp_loop_of (loopEI (T := s.1) (v := v) hi8 hnow bg.1 (h0 := h) t.lb (fun r1 h1 p1 ha1 F1 t1 => ?_) 8 0 _ h p rfl ⟨rfl, rfl, rfl, rfl, rfl, rfl, rfl, trivial⟩ (Fr.refl _ _) t)
      have n1 := F1.1
      have F1' := F.trans F1
      have o1 : IsSl h0.next h1 v 3 (s.2.map iV) := o.fr F1 (fun c e hc => by omega)
      refine wp_q (k0 := k) (items := [.code (.seq (.seq (.reg f95r16) (.cond (.t 62) (.reg f95r17) .skip)) (.reg f95r18)), .inBlock 1, .code (.reg f95r19), .inLoop bodyEO, .inBlock 0]) 200 ha1 ?_
      unfold bodyEO
      refine sel_intro (fun c3 => ?_) (fun c3 => ?_)
      · have c3 : (s.1.expIn now i 8).2 = true := c3
        rw [if_pos c3] at ih
        refine fun h2 m2 => ?_
        have n2 := m2.nx
        have k2 : Keep h1 h2 := (Keep.refl h1).new m2 (Nat.le_refl _)
        refine sl_app (l := [iV i]) (o1.keep k2) (src_all m2.at) (by simp) (by simp; have := bg.2; omega) (by omega) (fun h3 v3 F3 o3 => ?_)
        have n3 := F3.1
        have t2 := t1.keep k2
        have t3 : IsTab h3 b (s.1.expIn now i 8).1 p1 := by
          refine t2.fr F3 (fun hh => by have := hh.2; omega) (fun c kk hh hc => ?_)
          rcases o1.keep k2 with ⟨e1, _⟩ | ⟨c', e1, _, _, e2⟩
          · rw [e1] at hh; cases hh.1
          · rw [e1] at hh
            have := hh.1
            simp only [AV.slice.injEq] at this
            rw [← this.1, e2] at hc
            cases hc
        have F3' : Fr (fun c => c = b) h0 h3 := (F1'.keep k2).then F3 (fun c hc hh => by have := hh.2; omega)
        refine choose_ok hi8 t3 (fun h4 F4 t4 => ?_)
        refine ⟨((i + 1 : Nat) : Int), by rw [i64_id (by omega) (by omega)]; rfl, ?_⟩
        refine ih _ h4 v3 p1 ⟨rfl, rfl, rfl, rfl, trivial⟩ (F3'.trans F4) t4 ?_
        have := o3.fr F4 (fun c e hc => by omega)
        simpa using this
      · have c3 : (s.1.expIn now i 8).2 = false := c3
        rw [if_neg (fun hh => by rw [hh] at c3; cases c3)] at ih
        refine choose_ok hi8 t1 (fun h4 F4 t4 => ?_)
        refine ⟨((i + 1 : Nat) : Int), by rw [i64_id (by omega) (by omega)]; rfl, ?_⟩
        exact ih _ h4 v p1 ⟨rfl, rfl, rfl, rfl, trivial⟩ (F1'.trans F4) t4 (o1.fr F4 (fun c e hc => by omega))
    · exfalso; simp only [decide_eq_false_iff_not] at c1; omega
def Tab.exp (T : Tab) (now : Int) : Tab × List Nat := if timeF now then T.expTo now 8 else (T, [])
theorem expire_ok {b : Nat} {now : Int} {T : Tab} {p : Nat → Nat → AV} (gd : T.Good) {h : H} (t : IsTab h b T p) {K : AV → H → Prop} (hK : ∀ h' v p', Fr (fun c => c = b) h h' → IsTab h' b (T.exp now).1 p' → IsSl h.next h' v 3 ((T.exp now).2.map iV) → K v h') : Cw S.T 95 [.ptr b [0] 195, .int .i64 now] h K := by
  refine cw_q 200 (ex95 _) fn95 ?_
  refine time_ok ?_
  unfold Tab.exp at hK
  refine sel_intro (fun c1 => ?_) (fun c1 => ?_)
  · have c1 : (!decide (timeF now)) = true := c1
    rw [if_neg (fun hh => by simp [hh] at c1)] at hK
    exact ⟨_, rfl, rfl, hK h .nils p (Fr.refl _ _) t .nil⟩
  have c1 : timeF now := by have c1 : (!decide (timeF now)) = false := c1; simpa using c1
  rw [if_pos c1] at hK
  refine wp_loop_of (loopEO c1 gd t.lb (fun r h1 v p1 ha F t1 o1 => ?_) 8 0 _ h .nils p rfl ⟨rfl, rfl, rfl, rfl, trivial⟩ (Fr.refl _ _) t .nil)
  refine wp_q0 50 ha ?_
  refine ⟨v, rfl, ?_, hK h1 v p1 F t1 o1⟩
  rcases o1 with ⟨rfl, _⟩ | ⟨c, rfl, _⟩ <;> rfl

/-! ### pruning -/
def pruneStep (floor : Key) (d : Nat) (T : Tab) (n : Nat) : Tab := if (T.l d n).has = true ∧ cmpF (T.l d n).key floor < 0 then T.setL d n off0 else T
def Tab.pruTo (T : Tab) (floor : Key) (d i : Nat) : Tab := (List.range i).foldl (pruneStep floor d) T
theorem pruTo_succ {T : Tab} {floor : Key} {d i : Nat} : T.pruTo floor d (i + 1) = pruneStep floor d (T.pruTo floor d i) i := by
  unfold Tab.pruTo
  rw [List.range_succ, List.foldl_append]
  rfl
def bodyPr : ACode := (.seq (.reg f96r6) (.seq (.cond (.t 23) .skip (.exit 1)) (.seq (.block 2 (.seq (.reg f96r7) (.seq (.reg f96r8) (.seq (.draw f96r9) (.cond (.t 44) (.reg f96r10) .skip))))) (.reg f96r11))))
set_option maxRecDepth 4000 in
theorem loopPr {b d px : Nat} {floor : Key} {T : Tab} (hd : d < 8) {h0 : H} (_lb0 : b < h0.next) (lx : px < h0.next) (nx : px ≠ b) (gx : h0.get px = some (.row .fixed 106 [keyV floor])) {k : List Item} {Q : Env → H → Prop}
    (hk : ∀ r h p, agree r [(0, .ptr b [0] 195), (1, .int .i64 d)] → Fr (fun c => c = b) h0 h → IsTab h b (T.pruTo floor d 8) p → Wp S.T k r h Q) :
    ∀ (m i : Nat) (r : Env) (h : H) (p : Nat → Nat → AV), i + m = 8 → agree r [(0, .ptr b [0] 195), (1, .int .i64 d), (5, .ptr px [0] 106), (22, .int .i64 i)] → Fr (fun c => c = b) h0 h → IsTab h b (T.pruTo floor d i) p → Wp S.T (.inLoop bodyPr :: .inBlock 1 :: k) r h Q := by
  intro m
  induction m with
  | zero =>
    intro i r h p hi ha F t
    have hi8 : i = 8 := by omega
    subst hi8
    refine wp_inLoop (wp_q (items := [.code bodyPr, .inLoop bodyPr, .inBlock 1]) 50 ha ?_)
    unfold bodyPr
    exact hk _ _ p ⟨rfl, rfl, trivial⟩ F t
  | succ m ih =>
    intro i r h p hi ha F t
    have hi8 : i < 8 := by omega
    refine wp_inLoop (wp_q (items := [.code bodyPr, .inLoop bodyPr, .inBlock 1]) 200 ha ?_)
    unfold bodyPr
    have ih := fun r h p => ih (i + 1) r h p (by omega)
    rw [pruTo_succ] at ih
    unfold pruneStep at ih
    generalize hs : T.pruTo floor d i = s at t ih
    have n0 := F.1
    have gxh := F.to gx lx nx
    refine sel_intro (fun c1 => ?_) (fun c1 => ?_)
    · refine ⟨d, rfl, hd, ?_⟩
      refine ⟨i, rfl, hi8, ?_⟩
      refine readP (by exact t.hb) (at_cons (at_off hd hi8) rfl) ?_
      refine sel_intro (fun c2 => ?_) (fun c2 => ?_)
      · have c2 : (s.l d i).has = true := c2
        refine readP (by exact t.hb) (at_cons (at_off hd hi8) rfl) ?_
        refine ⟨_, _, _, gxh, ?_⟩
        refine compare_ok (a := (s.l d i).key) (b := floor) (fun g1 k1 => ?_)
        have k1 := k1.unbump
        refine sel_intro (fun c3 => ?_) (fun c3 => ?_)
        · have c3 : decide (cmpF (s.l d i).key floor < 0) = true := c3
          rw [decide_eq_true_eq] at c3
          rw [if_pos ⟨c2, c3⟩] at ih
          have t1 := t.keep k1
          refine And.intro rfl (writeP t1.hb (by decide) (put_off (o := off0) (v := .nils) hd hi8) fun g2 u2 => ?_)
          refine ⟨((i + 1 : Nat) : Int), by rw [i64_id (by omega) (by omega)]; rfl, ?_⟩
          refine ih _ g2 _ ⟨rfl, rfl, rfl, rfl, trivial⟩ ((F.keep k1).upd u2 (.inl rfl)) (t1.set u2 (Keep.refl _) (fun x y hx hy => ?_) trivial)
          unfold setP
          split
          · exact .inl rfl
          · exact t1.hp x y hx hy
        · have c3 : decide (cmpF (s.l d i).key floor < 0) = false := c3
          rw [decide_eq_false_iff_not] at c3
          rw [if_neg (fun hh => c3 hh.2)] at ih
          refine ⟨((i + 1 : Nat) : Int), by rw [i64_id (by omega) (by omega)]; rfl, ?_⟩
          exact ih _ g1 p ⟨rfl, rfl, rfl, rfl, trivial⟩ (F.keep k1) (t.keep k1)
      · have c2 : (s.l d i).has = false := c2
        rw [if_neg (fun hh => by rw [hh.1] at c2; cases c2)] at ih
        refine ⟨((i + 1 : Nat) : Int), by rw [i64_id (by omega) (by omega)]; rfl, ?_⟩
        exact ih _ _ p ⟨rfl, rfl, rfl, rfl, trivial⟩ F.bump (t.keep (Keep.bump _ _))
    · exfalso; simp only [decide_eq_false_iff_not] at c1; omega
def Tab.pru (T : Tab) (d : Int) (floor : Key) : Int × Tab := if T.node d ∧ rightK floor then (0, (T.pruTo floor d.toNat 8).choose d.toNat) else (1, T)
set_option maxRecDepth 4000 in
theorem prune_ok {b : Nat} {d : Int} {floor : Key} {T : Tab} {p : Nat → Nat → AV} {h : H} (t : IsTab h b T p) {K : AV → H → Prop} (hK : ∀ h' p', Fr (fun c => c = b) h h' → IsTab h' b (T.pru d floor).2 p' → K (.int .i64 (T.pru d floor).1) h') : Cw S.T 96 [.ptr b [0] 195, .int .i64 d, keyV floor] h K := by
  refine cw_q 200 (ex96 _) fn96 ?_
  refine And.intro rfl fun g1 m1 => ?_
  have k1 : Keep h g1 := (Keep.refl h).new m1 (Nat.le_refl _)
  have n1 := m1.nx
  have t1 := t.keep k1
  have lb := t.lb
  unfold Tab.pru at hK
  refine node_ok t1 ?_
  refine sel_intro (fun c1 => ?_) (fun c1 => ?_)
  · have c1 : (!decide (T.node d)) = true := c1
    rw [if_neg (fun hh => by simp [hh.1] at c1)] at hK
    exact ⟨_, rfl, rfl, hK g1 p k1.fr t1⟩
  have c1 : T.node d := by have c1 : (!decide (T.node d)) = false := c1; simpa using c1
  refine ⟨_, _, _, m1.at, ?_⟩
  refine rightK_ok (a := floor) (fun g2 k2 => ?_)
  have n2 := k2.1
  have t2 := t1.keep k2
  refine sel_intro (fun c2 => ?_) (fun c2 => ?_)
  · have c2 : (!decide (rightK floor)) = true := c2
    rw [if_neg (fun hh => by simp [hh.2] at c2)] at hK
    exact ⟨_, rfl, rfl, hK g2 p (k1.trans k2).fr t2⟩
  have c2 : rightK floor := by have c2 : (!decide (rightK floor)) = false := c2; simpa using c2
  rw [if_pos ⟨c1, c2⟩] at hK
  obtain ⟨d, rfl⟩ : ∃ m : Nat, d = m := ⟨d.toNat, by have := c1.1; omega⟩
  have hd : d < 8 := by have := c1.2.1; omega
  rw [Int.toNat_natCast] at hK
  refine wp_loop_of (loopPr (T := T) (floor := floor) hd (h0 := g2) (by omega) (px := h.next) (by omega) (by omega) (k2.to m1.at (by omega)) (fun r h1 p1 ha F t1 => ?_) 8 0 _ g2 p rfl ⟨rfl, rfl, rfl, rfl, trivial⟩ (Fr.refl _ _) t2)
  refine wp_q0 50 ha ?_
  refine choose_ok hd t1 (fun h4 F4 t4 => ?_)
  exact ⟨_, rfl, rfl, hK h4 p1 ((((k1.trans k2).fr).trans F).trans F4) t4⟩
end Go.Dam.S

namespace Go.Dam.S
open Go Go.Dam
theorem Keep.frk {a b c : H} {S : Nat → Prop} (k : Keep a b) (f : Fr S b c) (hs : ∀ i, i < a.next → ¬ S i) : Keep a c := ⟨Nat.le_trans k.1 f.1, fun i hi => (f.2 i (Nat.lt_of_lt_of_le hi k.1) (hs i hi)).trans (k.2 i hi)⟩
/-! ### offers -/
def Tab.offTo (T : Tab) (d i : Nat) : Nat := ((List.range i).filter fun n => (T.l d n).has).length
theorem offTo_succ {T : Tab} {d i : Nat} : T.offTo d (i + 1) = T.offTo d i + if (T.l d i).has = true then 1 else 0 := by
  unfold Tab.offTo
  rw [List.range_succ, List.filter_append, List.length_append]
  cases h : (T.l d i).has <;> simp [h]
theorem offTo_le {T : Tab} {d i : Nat} : T.offTo d i ≤ i := by
  unfold Tab.offTo
  have := List.length_filter_le (fun n => (T.l d n).has) (List.range i)
  simpa using this
def Tab.offers (T : Tab) (d : Int) : Int := if 0 ≤ d ∧ d < 8 then T.offTo d.toNat 8 else 0
def body101 : ACode := (.seq (.reg f101r5) (.seq (.cond (.t 25) .skip (.exit 0)) (.seq (.block 1 (.seq (.reg f101r6) (.seq (.reg f101r7) (.cond (.t 28) (.reg f101r8) .skip)))) (.reg f101r9))))
theorem offers_ok {b : Nat} {d : Int} {T : Tab} {p : Nat → Nat → AV} {h : H} (t : IsTab h b T p) {K : AV → H → Prop} (hK : ∀ h', Keep h h' → K (.int .i64 (T.offers d)) h') : Cw S.T 101 [.ptr b [0] 195, .int .i64 d] h K := by
  refine cw_q 200 (ex101 _) fn101 ?_
  have lb := t.lb
  unfold Tab.offers at hK
  refine sel_intro (fun c1 => ?_) (fun c1 => ?_)
  · simp only [decide_eq_true_eq] at c1
    rw [if_neg (by omega)] at hK
    exact ⟨_, rfl, rfl, hK h (Keep.refl _)⟩
  refine sel_intro (fun c2 => ?_) (fun c2 => ?_)
  · simp only [decide_eq_true_eq] at c2
    rw [if_neg (by omega)] at hK
    exact ⟨_, rfl, rfl, hK h (Keep.refl _)⟩
  simp only [decide_eq_false_iff_not] at c1 c2
  rw [if_pos (by omega)] at hK
  obtain ⟨d, rfl⟩ : ∃ m : Nat, d = m := ⟨d.toNat, by omega⟩
  have hd : d < 8 := by omega
  rw [Int.toNat_natCast] at hK
  refine ⟨d, rfl, hd, ?_⟩
  refine readP t.hb (at_row hd) ?_
  have loop : ∀ (m i : Nat) (r : Env) (g : H), i + m = 8 → agree r [(5, .int .i64 (T.offTo d i)), (23, rowV T p d), (24, .int .i64 i)] → Keep h g → Wp S.T [.inLoop body101, .inBlock 0, .code (.seq (.reg f101r10) .ret)] r g (RetQ f101 K) := by
    intro m
    induction m with
    | zero =>
      intro i r g hi ha kg
      have hi8 : i = 8 := by omega
      subst hi8
      refine wp_inLoop (wp_q0 (items := [.code body101, .inLoop body101, .inBlock 0, .code (.seq (.reg f101r10) .ret)]) 50 ha ?_)
      unfold body101
      exact ⟨_, rfl, rfl, hK g kg⟩
    | succ m ih =>
      intro i r g hi ha kg
      have hi8 : i < 8 := by omega
      refine wp_inLoop (wp_q0 (items := [.code body101, .inLoop body101, .inBlock 0, .code (.seq (.reg f101r10) .ret)]) 100 ha ?_)
      unfold body101
      refine sel_intro (fun c1 => ?_) (fun c1 => ?_)
      · refine ⟨i, rfl, hi8, ?_⟩
        refine optW_of (rng_at hi8) ?_
        refine fun g2 m2 => ?_
        have n2 := m2.nx
        refine And.intro rfl ⟨_, _, _, m2.at, by decide, fun g3 u3 => ?_⟩
        have K3 : Keep h g3 := (kg.new m2 kg.1).upd u3 kg.1
        have hle := offTo_le (T := T) (d := d) (i := i)
        have ih := fun r g => ih (i + 1) r g (by omega)
        rw [offTo_succ] at ih
        refine ⟨_, _, _, u3.at, ?_⟩
        refine sel_intro (fun c2 => ?_) (fun c2 => ?_)
        · have c2 : (T.l d i).has = true := c2
          rw [if_pos c2] at ih
          refine ⟨((T.offTo d i + 1 : Nat) : Int), by rw [i64_id (by omega) (by omega)]; rfl, ?_⟩
          refine ⟨((i + 1 : Nat) : Int), by rw [i64_id (by omega) (by omega)]; rfl, ?_⟩
          exact ih _ _ ⟨rfl, rfl, rfl, trivial⟩ K3
        · have c2 : (T.l d i).has = false := c2
          rw [if_neg (by simp [c2])] at ih
          refine ⟨((i + 1 : Nat) : Int), by rw [i64_id (by omega) (by omega)]; rfl, ?_⟩
          exact ih _ _ ⟨rfl, rfl, rfl, trivial⟩ K3
      · exfalso; simp only [decide_eq_false_iff_not] at c1; omega
  exact wp_loop_of (loop 8 0 _ h rfl ⟨rfl, rfl, rfl, trivial⟩ (Keep.refl _))

/-! ### how many routes -/
def Tab.validTo (T : Tab) (i : Nat) : Nat := ((List.range i).filter fun n => (T.get (n : Nat)).isSome).length
theorem validTo_succ {T : Tab} {i : Nat} : T.validTo (i + 1) = T.validTo i + if (T.get i).isSome = true then 1 else 0 := by
  unfold Tab.validTo
  rw [List.range_succ, List.filter_append, List.length_append]
  cases h : (T.get i).isSome <;> simp [h]
theorem validTo_le {T : Tab} {i : Nat} : T.validTo i ≤ i := by
  unfold Tab.validTo
  have := List.length_filter_le (fun n => (T.get (n : Nat)).isSome) (List.range i)
  simpa using this
def body98 : ACode := (.seq (.reg f98r3) (.seq (.cond (.t 8) .skip (.exit 0)) (.seq (.block 1 (.seq (.reg f98r4) (.seq (.reg f98r5) (.seq (.reg f98r6) (.cond (.t 16) (.reg f98r7) .skip))))) (.reg f98r8))))
theorem valid_ok {b : Nat} {T : Tab} {p : Nat → Nat → AV} {h : H} (t : IsTab h b T p) (ok : T.Ok) {K : AV → H → Prop} (hK : ∀ h' v, Keep h h' → lenIs v (T.validTo 8) → K v h') : Cw S.T 98 [.ptr b [0] 195] h K := by
  refine cw_q 200 (ex98 _) fn98 ?_
  have lb := t.lb
  have loop : ∀ (m i : Nat) (r : Env) (g : H) (v : AV) (ys : List AV), i + m = 8 → agree r [(0, .ptr b [0] 195), (3, v), (7, .int .i64 i)] → Keep h g → IsSl h.next g v 204 ys → ys.length = T.validTo i → Wp S.T [.inLoop body98, .inBlock 0, .code (.seq (.reg f98r9) .ret)] r g (RetQ f98 K) := by
    intro m
    induction m with
    | zero =>
      intro i r g v ys hi ha kg o ho
      have hi8 : i = 8 := by omega
      subst hi8
      refine wp_inLoop (wp_q0 (items := [.code body98, .inLoop body98, .inBlock 0, .code (.seq (.reg f98r9) .ret)]) 50 ha ?_)
      unfold body98
      refine ⟨v, rfl, ?_, hK g v kg (ho ▸ o.len)⟩
      rcases o with ⟨rfl, _⟩ | ⟨c, rfl, _⟩ <;> rfl
    | succ m ih =>
      intro i r g v ys hi ha kg o ho
      have hi8 : i < 8 := by omega
      have hle := validTo_le (T := T) (i := i)
      have ih := fun r g v ys => ih (i + 1) r g v ys (by omega)
      rw [validTo_succ] at ih
      refine wp_inLoop (wp_q0 (items := [.code body98, .inLoop body98, .inBlock 0, .code (.seq (.reg f98r9) .ret)]) 100 ha ?_)
      unfold body98
      refine sel_intro (fun c1 => ?_) (fun c1 => ?_)
      · refine get_ok (t.keep kg) ok (fun g1 w k1 hw => ?_)
        have K1 := kg.trans k1
        refine fun g2 m2 => ?_
        have n2 := m2.nx
        refine And.intro rfl ⟨_, _, _, m2.at, by decide, fun g3 u3 => ?_⟩
        have K3 : Keep h g3 := (K1.new m2 K1.1).upd u3 K1.1
        have k3 : Keep g g3 := (k1.new m2 k1.1).upd u3 k1.1
        have o3 := o.keep k3
        refine sel_intro (fun c2 => ?_) (fun c2 => ?_)
        · rw [if_pos c2] at ih
          refine ⟨_, _, _, u3.at, ?_⟩
          refine fun g4 m4 => ?_
          have K4 : Keep h g4 := K3.new m4 K3.1
          have o4 := o3.keep ((Keep.refl g3).new m4 (Nat.le_refl _))
          refine sl_app (l := [_]) o4 (src_all m4.at) (by simp) (by simp; omega) K4.1 (fun g5 v5 F5 o5 => ?_)
          have K5 : Keep h g5 := Keep.frk K4 F5 (fun c hc hh => by have := hh.2; omega)
          refine ⟨((i + 1 : Nat) : Int), by rw [i64_id (by omega) (by omega)]; rfl, ?_⟩
          exact ih _ g5 v5 _ ⟨rfl, rfl, rfl, trivial⟩ K5 o5 (by simp; omega)
        · rw [if_neg (by simp [c2])] at ih
          refine ⟨((i + 1 : Nat) : Int), by rw [i64_id (by omega) (by omega)]; rfl, ?_⟩
          exact ih _ g3 v _ ⟨rfl, rfl, rfl, trivial⟩ K3 o3 ho
      · exfalso; simp only [decide_eq_false_iff_not] at c1; omega
  exact wp_loop_of (loop 8 0 _ h .nils [] rfl ⟨rfl, rfl, rfl, trivial⟩ (Keep.refl _) .nil rfl)
theorem lookup_ok {b : Nat} {d : Int} {T : Tab} {p : Nat → Nat → AV} {h : H} (t : IsTab h b T p) (ok : T.Ok) {K : AV → H → Prop} (hK : ∀ h', Keep h h' → K (.tup [.int .i64 (getR (T.get d)).next, .bool (T.get d).isSome]) h') : Cw S.T 100 [.ptr b [0] 195, .int .i64 d] h K := by
  refine cw_q 200 (ex100 _) fn100 ?_
  refine get_ok t ok (fun g1 w k1 hw => ?_)
  refine fun g2 m2 => ?_
  refine And.intro rfl ⟨_, _, _, m2.at, by decide, fun g3 u3 => ?_⟩
  have K3 : Keep h g3 := (k1.new m2 k1.1).upd u3 k1.1
  refine ⟨_, _, _, u3.at, ?_⟩
  exact ⟨_, rfl, rfl, _, rfl, rfl, hK g3 K3⟩
/-! ### turns -/
theorem u32_id {a : Int} (h0 : 0 ≤ a) (h1 : a < 4294967296) : IntKind.u32.wrap a = a := by
  simp only [IntKind.wrap, IntKind.signed, IntKind.bits, Bool.false_and]
  simp
  omega
def plainV : AV := .agg 114 [.fn 97 [] [], .int .i64 0, .int .u32 0]
theorem plainly_ok {h : H} {K : AV → H → Prop} (hK : ∀ h', Keep h h' → K plainV h') : Cw S.T 51 [] h K := by
  refine cw_q 200 (ex51 _) fn51 ?_
  refine fun g1 m1 => ?_
  refine And.intro rfl ⟨_, _, _, m1.at, by decide, fun g2 u2 => ?_⟩
  have k2 : Keep h g2 := ((Keep.refl h).new m1 (Nat.le_refl _)).upd u2 (Nat.le_refl _)
  exact ⟨_, _, _, rfl, read_of u2.at rfl, hK g2 k2⟩
theorem same_ok {n : Int} {h : H} {K : AV → H → Prop} (hK : K (.int .i64 n) h) : Cw S.T 97 [.int .i64 n] h K := by
  refine cw_q 200 (ex97 _) fn97 ?_
  exact ⟨_, rfl, rfl, hK⟩
theorem turnkey_ok {k : Key} (he : 0 ≤ k.e ∧ k.e < 4294967296) {h : H} {K : AV → H → Prop} (hK : ∀ h', Keep h h' → K (keyV k) h') : Cw S.T 102 [plainV, keyV k] h K := by
  refine cw_q 200 (ex102 _) fn102 ?_
  refine And.intro rfl fun g1 m1 => ?_
  refine And.intro rfl fun g2 m2 => ?_
  have n1 := m1.nx
  have n2 := m2.nx
  refine fun g3 m3 => ?_
  have n3 := m3.nx
  have a3 := m3.ne m2.at (by omega)
  refine ⟨_, _, _, a3, ?_⟩
  refine ⟨_, _, _, m3.ne (m2.ne m1.at (by omega)) (by omega), ?_⟩
  refine ⟨k.e, by rw [Int.add_zero, u32_id he.1 he.2], ?_⟩
  refine And.intro rfl ⟨_, _, _, a3, by decide, fun g4 u4 => ?_⟩
  refine ⟨_, _, _, u4.at, ?_⟩
  refine And.intro rfl ⟨_, _, _, u4.ne m3.at (by omega), by decide, fun g5 u5 => ?_⟩
  have k5 : Keep h g5 := (((((Keep.refl h).new m1 (Nat.le_refl _)).new m2 (by omega)).new m3 (by omega)).upd u4 (by omega)).upd u5 (by omega)
  exact ⟨_, _, _, rfl, read_of u5.at rfl, hK g5 k5⟩
end Go.Dam.S

namespace Go.Dam.S
open Go Go.Dam
/-! ### what the keys and times of a table keep to -/
structure Tab.Keys (T : Tab) : Prop where
  key : ∀ d n, 0 ≤ (T.l d n).key.e ∧ (T.l d n).key.e < 4294967296
  kk : ∀ d n, 0 ≤ (T.l d n).kk.e ∧ (T.l d n).kk.e < 4294967296
structure Rt.Fine (x : Rt) : Prop where
  key : 0 ≤ x.key.e ∧ x.key.e < 4294967296
  kk : 0 ≤ x.kk.e ∧ x.kk.e < 4294967296
  since : 0 ≤ x.since ∧ x.since ≤ 1099511627776
theorem get_fine {T : Tab} (g : T.Good) (k : T.Keys) {d : Int} {x : Rt} (h : T.get d = some x) : x.Fine := by
  unfold Tab.get at h
  split at h
  · simp only [Option.some.injEq] at h
    subst h
    exact ⟨k.key _ _, k.kk _ _, g.since _ _⟩
  · cases h
theorem getR_fine {T : Tab} (g : T.Good) (k : T.Keys) {d : Int} : (getR (T.get d)).Fine := by
  cases h : T.get d with
  | none => exact ⟨by decide, by decide, by decide⟩
  | some x => exact get_fine g k h
def body52 : ACode := (.seq (.reg f52r4) (.seq (.cond (.t 24) .skip (.exit 0)) (.seq (.block 1 (.seq (.reg f52r5) (.seq (.reg f52r6) (.seq (.reg f52r7) (.seq (.reg f52r8) (.seq (.reg f52r9) (.seq (.seq (.draw f52r10) (.cond (.t 80) (.seq (.reg f52r11) .ret) .skip)) (.seq (.draw f52r12) (.cond (.t 147) (.seq (.reg f52r13) .ret) .skip))))))))) (.reg f52r14))))
set_option maxRecDepth 6000 in
theorem alike_ok {a b : Nat} {T : Tab} {p q : Nat → Nat → AV} {h : H} (ta : IsTab h a T p) (tb : IsTab h b T q) (gd : T.Good) (ks : T.Keys) {K : AV → H → Prop} (hK : ∀ h', Keep h h' → K (.bool true) h') : Cw S.T 52 [plainV, .ptr a [0] 195, .ptr b [0] 195] h K := by
  refine cw_q 200 (ex52 _) fn52 ?_
  refine And.intro rfl fun g1 m1 => ?_
  have n1 := m1.nx
  have k1 : Keep h g1 := (Keep.refl h).new m1 (Nat.le_refl _)
  refine valid_ok (ta.keep k1) gd.ok (fun g2 v2 k2 l2 => ?_)
  refine ⟨_, l2, ?_⟩
  refine valid_ok (tb.keep (k1.trans k2)) gd.ok (fun g3 v3 k3 l3 => ?_)
  refine ⟨_, l3, ?_⟩
  refine sel_intro (fun c1 => ?_) (fun c1 => ?_)
  · exfalso; simp at c1
  have K3 := (k1.trans k2).trans k3
  have tv : g3.get h.next = some (.row .fixed 114 [plainV]) := (k2.trans k3).to m1.at (by omega)
  have la := ta.lb
  have lb := tb.lb
  have loop : ∀ (m i : Nat) (r : Env) (g : H), i + m = 8 → agree r [(1, .ptr a [0] 195), (2, .ptr b [0] 195), (3, .ptr h.next [0] 114), (23, .int .i64 i)] → Keep g3 g → Wp S.T [.inLoop body52, .inBlock 0, .code (.seq (.reg f52r15) .ret)] r g (RetQ f52 K) := by
    intro m
    induction m with
    | zero =>
      intro i r g hi ha kg
      have hi8 : i = 8 := by omega
      subst hi8
      refine wp_inLoop (wp_q0 (items := [.code body52, .inLoop body52, .inBlock 0, .code (.seq (.reg f52r15) .ret)]) 50 ha ?_)
      unfold body52
      exact ⟨_, rfl, rfl, hK g (K3.trans kg)⟩
    | succ m ih =>
      intro i r g hi ha kg
      have hi8 : i < 8 := by omega
      refine wp_inLoop (wp_q0 (items := [.code body52, .inLoop body52, .inBlock 0, .code (.seq (.reg f52r15) .ret)]) 300 ha ?_)
      unfold body52
      have n3 := k3.1
      have n2 := k2.1
      have ng := kg.1
      have fin := getR_fine gd ks (d := (i : Int))
      obtain ⟨ok_, hok⟩ : ∃ o, (T.get (i : Int)).isSome = o := ⟨_, rfl⟩
      obtain ⟨x, hx⟩ : ∃ x, getR (T.get (i : Int)) = x := ⟨_, rfl⟩
      rw [hx] at fin
      have Kg := K3.trans kg
      refine sel_intro (fun c1 => ?_) (fun c1 => ?_)
      · refine get_ok (ta.keep Kg) gd.ok (fun g4 w4 k4 hw4 => ?_)
        rw [hok, hx]
        refine fun g5 m5 => ?_
        have n4 := k4.1
        have n5 := m5.nx
        refine And.intro rfl ⟨_, _, _, m5.at, by decide, fun g6 u6 => ?_⟩
        have n6 := u6.next
        have k6 : Keep g g6 := (k4.new m5 k4.1).upd u6 k4.1
        have K6 := kg.trans k6
        refine ⟨_, _, _, K6.to tv (by omega), ?_⟩
        refine same_ok ?_
        refine get_ok (tb.keep (K3.trans K6)) gd.ok (fun g7 w7 k7 hw7 => ?_)
        rw [hok, hx]
        refine fun g8 m8 => ?_
        have n7 := k7.1
        have n8 := m8.nx
        refine And.intro rfl ⟨_, _, _, m8.at, by decide, fun g9 u9 => ?_⟩
        have n9 := u9.next
        have k9 : Keep g6 g9 := (k7.new m8 k7.1).upd u9 k7.1
        have K9 := K6.trans k9
        have ax := k9.to u6.at (by omega)
        have ay := u9.at
        refine lookup_ok (ta.keep (K3.trans K9)) gd.ok (fun g10 k10 => ?_)
        rw [hok, hx]
        have K10 := K9.trans k10
        refine ⟨_, _, _, K10.to tv (by omega), ?_⟩
        refine same_ok ?_
        refine lookup_ok (tb.keep (K3.trans K10)) gd.ok (fun g11 k11 => ?_)
        rw [hok, hx]
        have K11 := K10.trans k11
        have n10 := k10.1
        have n11 := k11.1
        refine sel_intro (fun c2 => ?_) (fun c2 => ?_)
        · exfalso; simp at c2
        refine sel_intro (fun c3 => ?_) (fun c3 => ?_)
        · exfalso; simp at c3
        refine sel_intro (fun c4 => ?_) (fun c4 => ?_)
        · exfalso; simp at c4
        refine offers_ok ((ta.keep (K3.trans K11)).keep (Keep.bump _ _)) (fun g12 k12 => ?_)
        have k12 := k12.unbump
        have K12 := K11.trans k12
        have n12 := k12.1
        refine ⟨_, _, _, K12.to tv (by omega), ?_⟩
        refine And.intro ⟨rfl, _, _, _, K11.to tv (by omega), rfl⟩ ?_
        refine same_ok ?_
        refine offers_ok (tb.keep (K3.trans K12)) (fun g13 k13 => ?_)
        have K13 := K12.trans k13
        have n13 := k13.1
        refine sel_intro (fun c5 => ?_) (fun c5 => ?_)
        · exfalso; simp at c5
        have kk := (((k10.trans k11).trans k12).trans k13)
        have ax := kk.to ax (by omega)
        have ay := kk.to ay (by omega)
        have tv := K13.to tv (by omega)
        have done : ∀ g', Keep g13 g' → ∀ {r' : Env}, agree r' [(1, .ptr a [0] 195), (2, .ptr b [0] 195), (3, .ptr h.next [0] 114), (23, .int .i64 ((i + 1 : Nat) : Int))] → Wp S.T [Item.inLoop body52, Item.inBlock 0, Item.code ((ACode.reg f52r15).seq ACode.ret)] r' g' (RetQ f52 K) :=
          fun g' k' r' ha' => ih (i + 1) r' g' (by omega) ha' (K13.trans k')
        refine sel_intro (fun c6 => ?_) (fun c6 => ?_)
        · refine ⟨_, _, _, ay, ?_⟩
          refine ⟨_, _, _, tv, ?_⟩
          refine ⟨_, _, _, ax, ?_⟩
          refine same_ok (And.intro ⟨rfl, _, _, _, ay, rfl⟩ ?_)
          refine sel_intro (fun c7 => ?_) (fun c7 => ?_)
          · exfalso; simp at c7
          refine ⟨_, _, _, ay, ?_⟩
          refine ⟨_, _, _, tv, ?_⟩
          refine ⟨_, _, _, ax, ?_⟩
          refine turnkey_ok fin.key (fun g14 k14 => ?_)
          have n14 := k14.unbump.1
          refine And.intro ⟨rfl, _, _, _, k14.unbump.to ay (by omega), rfl⟩ ?_
          refine sel_intro (fun c8 => ?_) (fun c8 => ?_)
          · exfalso
            have c8 : (!AV.beqs [.int .u32 x.key.e, .int .u32 x.key.s, .int .i64 x.key.m] [.int .u32 x.key.e, .int .u32 x.key.s, .int .i64 x.key.m]) = true := c8
            rw [key_beq] at c8; simp at c8
          have k14 := k14.unbump
          have ax := k14.to ax (by omega)
          have ay := k14.to ay (by omega)
          have tv := k14.to tv (by omega)
          refine ⟨_, _, _, ay, ?_⟩
          refine ⟨_, _, _, ax, ?_⟩
          refine sel_intro (fun c9 => ?_) (fun c9 => ?_)
          · exfalso; simp at c9
          refine ⟨_, _, _, ay, ?_⟩
          refine ⟨_, _, _, ax, ?_⟩
          refine sel_intro (fun c10 => ?_) (fun c10 => ?_)
          · exfalso; simp at c10
          refine ⟨_, _, _, ay, ?_⟩
          refine ⟨_, _, _, ax, ?_⟩
          refine ⟨_, _, _, tv, ?_⟩
          have fs := fin.since
          refine ⟨x.since, by rw [Int.add_zero, i64_id (by omega) (by omega)], ?_⟩
          refine sel_intro (fun c11 => ?_) (fun c11 => ?_)
          · exfalso; simp at c11
          refine ⟨_, _, _, ay, ?_⟩
          refine ⟨_, _, _, tv, ?_⟩
          refine ⟨_, _, _, ax, ?_⟩
          refine same_ok (And.intro ⟨rfl, _, _, _, ay, rfl⟩ ?_)
          refine sel_intro (fun c12 => ?_) (fun c12 => ?_)
          · exfalso; simp at c12
          refine ⟨_, _, _, ay, ?_⟩
          refine ⟨_, _, _, tv, ?_⟩
          refine ⟨_, _, _, ax, ?_⟩
          refine turnkey_ok fin.kk (fun g15 k15 => ?_)
          refine And.intro ⟨rfl, _, _, _, k15.to ay (by omega), rfl⟩ ?_
          refine sel_intro (fun c13 => ?_) (fun c13 => ?_)
          · exfalso
            have c13 : (!AV.beqs [.int .u32 x.kk.e, .int .u32 x.kk.s, .int .i64 x.kk.m] [.int .u32 x.kk.e, .int .u32 x.kk.s, .int .i64 x.kk.m]) = true := c13
            rw [key_beq] at c13; simp at c13
          refine ⟨((i + 1 : Nat) : Int), by rw [i64_id (by omega) (by omega)]; rfl, ?_⟩
          exact done _ (k14.trans k15) ⟨rfl, rfl, rfl, rfl, trivial⟩
        · refine ⟨((i + 1 : Nat) : Int), by rw [i64_id (by omega) (by omega)]; rfl, ?_⟩
          exact done _ (Keep.bump _ _) ⟨rfl, rfl, rfl, rfl, trivial⟩
      · exfalso; simp only [decide_eq_false_iff_not] at c1; omega
  exact wp_loop_of (loop 8 0 _ g3 rfl ⟨rfl, rfl, rfl, rfl, trivial⟩ (Keep.refl _))
end Go.Dam.S
