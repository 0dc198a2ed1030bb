/- A part of this claim. -/
import Derived.Test.YtoipeoafcjjaeaaRibB
namespace Go.Dam.S
open Go Go.Dam
/-! ### deeds -/
structure DeedR where
  kind : Int
  now : Int
  fr : Int
  dest : Int
  key : Key
  floor : Key
  has : Bool
def deedV (d : DeedR) : AV := .agg 108 [.int .u8 d.kind, .int .i64 d.now, .int .i64 d.fr, .int .i64 d.dest, keyV d.key, keyV d.floor, .bool d.has]
structure Told where
  n : Int
  e : Int
  l : List Nat
  t : Tab
def Tab.does (T : Tab) (d : DeedR) : Told :=
  if d.kind = 0 then ⟨(T.offer d.now d.fr d.dest d.key d.floor d.has).1, (T.offer d.now d.fr d.dest d.key d.floor d.has).2.1, [], (T.offer d.now d.fr d.dest d.key d.floor d.has).2.2⟩
  else if d.kind = 1 then ⟨0, 0, (T.brk d.now d.fr).2, (T.brk d.now d.fr).1⟩
  else if d.kind = 2 then ⟨0, 0, (T.exp d.now).2, (T.exp d.now).1⟩
  else if d.kind = 3 then ⟨0, (T.pru d.dest d.floor).1, [], (T.pru d.dest d.floor).2⟩
  else ⟨0, 0, [], T⟩
theorem isSl_notTup {lo : Nat} {h : H} {v : AV} {e : TypeId} {ys : List AV} (o : IsSl lo h v e ys) : v.isTup = false := by
  rcases o with ⟨rfl, _⟩ | ⟨c, rfl, _⟩ <;> rfl
set_option maxRecDepth 6000 in
theorem does_ok {b : Nat} {d : DeedR} {T : Tab} {p : Nat → Nat → AV} (gd : T.Good) {h : H} (t : IsTab h b T p) {K : AV → H → Prop} (hK : ∀ h' v p', Fr (fun c => c = b) h h' → IsTab h' b (T.does d).t p' → IsSl h.next h' v 3 ((T.does d).l.map iV) → K (.tup [.int .i64 (T.does d).n, .int .i64 (T.does d).e, v]) h') : Cw S.T 49 [deedV d, .ptr b [0] 195] h K := by
  refine cw_q 200 (ex49 _) fn49 ?_
  refine And.intro rfl fun g1 m1 => ?_
  have n1 := m1.nx
  have k1 : Keep h g1 := (Keep.refl h).new m1 (Nat.le_refl _)
  have t1 := t.keep k1
  have a1 := m1.at
  have lb := t.lb
  unfold Tab.does at hK
  refine ⟨_, _, _, a1, ?_⟩
  refine sel_intro (fun c0 => ?_) (fun c0 => ?_)
  · rw [if_pos (by simpa using c0)] at hK
    refine ⟨_, _, _, a1, ?_⟩
    refine ⟨_, _, _, a1, ?_⟩
    refine ⟨_, _, _, a1, ?_⟩
    refine ⟨_, _, _, a1, ?_⟩
    refine ⟨_, _, _, a1, ?_⟩
    refine ⟨_, _, _, a1, ?_⟩
    refine offer_ok t1 gd.ok (fun g2 p2 F2 t2 => ?_)
    exact ⟨_, rfl, rfl, _, rfl, rfl, _, rfl, rfl, hK g2 .nils p2 (k1.fr.trans F2) t2 .nil⟩
  rw [if_neg (by simpa using c0)] at hK
  refine sel_intro (fun c1 => ?_) (fun c1 => ?_)
  · rw [if_pos (by simpa using c1)] at hK
    refine ⟨_, _, _, a1, ?_⟩
    refine ⟨_, _, _, a1, ?_⟩
    refine break_ok gd t1 (fun g2 v p2 F2 t2 o2 => ?_)
    have o3 : IsSl h.next g2 v 3 ((T.brk d.now d.fr).2.map iV) := by
      rcases o2 with o | ⟨c, e1, e2, e3, e4⟩
      · exact .inl o
      · exact .inr ⟨c, e1, by omega, e3, e4⟩
    exact ⟨_, rfl, rfl, _, rfl, rfl, v, rfl, isSl_notTup o2, hK g2 v p2 (k1.fr.trans F2) t2 o3⟩
  rw [if_neg (by simpa using c1)] at hK
  refine sel_intro (fun c2 => ?_) (fun c2 => ?_)
  · rw [if_pos (by simpa using c2)] at hK
    refine ⟨_, _, _, a1, ?_⟩
    refine expire_ok gd t1 (fun g2 v p2 F2 t2 o2 => ?_)
    have o3 : IsSl h.next g2 v 3 ((T.exp d.now).2.map iV) := by
      rcases o2 with o | ⟨c, e1, e2, e3, e4⟩
      · exact .inl o
      · exact .inr ⟨c, e1, by omega, e3, e4⟩
    exact ⟨_, rfl, rfl, _, rfl, rfl, v, rfl, isSl_notTup o2, hK g2 v p2 (k1.fr.trans F2) t2 o3⟩
  rw [if_neg (by simpa using c2)] at hK
  refine sel_intro (fun c3 => ?_) (fun c3 => ?_)
  · rw [if_pos (by simpa using c3)] at hK
    refine ⟨_, _, _, a1, ?_⟩
    refine ⟨_, _, _, a1, ?_⟩
    refine prune_ok t1 (fun g2 p2 F2 t2 => ?_)
    exact ⟨_, rfl, rfl, _, rfl, rfl, _, rfl, rfl, hK g2 .nils p2 (k1.fr.trans F2) t2 .nil⟩
  rw [if_neg (by simpa using c3)] at hK
  exact ⟨_, rfl, rfl, _, rfl, rfl, _, rfl, rfl, hK g1 .nils p k1.fr t1 .nil⟩

/-! ### what a deed keeps -/
def Key.In (k : Key) : Prop := 0 ≤ k.e ∧ k.e < 4294967296
/-- who has made an offer that stands -/
def Less (T U : Tab) : Prop := ∀ d n, (T.l d n).has = false → (U.l d n).has = false
theorem Less.refl (T : Tab) : Less T T := fun _ _ h => h
theorem Less.trans {T U V : Tab} (a : Less T U) (b : Less U V) : Less T V := fun d n h => b d n (a d n h)
structure Step (T U : Tab) : Prop where
  good : T.Good → U.Good
  keys : T.Keys → U.Keys
  less : Less T U
theorem Step.refl (T : Tab) : Step T T := ⟨id, id, Less.refl T⟩
theorem Step.trans {T U V : Tab} (a : Step T U) (b : Step U V) : Step T V := ⟨fun g => b.good (a.good g), fun g => b.keys (a.keys g), a.less.trans b.less⟩
theorem Tab.Keys.setL {T : Tab} (k : T.Keys) {d n : Nat} {o : Off} (h1 : o.key.In) (h2 : o.kk.In) : (T.setL d n o).Keys := by
  refine ⟨fun i j => ?_, fun i j => ?_⟩
  · unfold Tab.setL; simp only; split
    · exact h1
    · exact k.key i j
  · unfold Tab.setL; simp only; split
    · exact h2
    · exact k.kk i j
theorem k0_in : k0.In := by unfold Key.In k0; decide
theorem step_choose (T : Tab) (d : Nat) : Step T (T.choose d) := ⟨fun g => g.choose d, fun k => ⟨k.key, k.kk⟩, fun _ _ h => h⟩
theorem step_clear (T : Tab) (d n : Nat) (o : Off) (ho : o.has = false) (hs : o.since = 0) (h1 : o.key = k0) (h2 : o.kk = k0) : Step T (T.setL d n o) := by
  refine ⟨fun g => g.setL (by omega), fun k => k.setL (h1 ▸ k0_in) (h2 ▸ k0_in), fun i j h => ?_⟩
  unfold Tab.setL; simp only; split
  · exact ho
  · exact h
theorem step_drop (T : Tab) (d n : Nat) (now : Int) : Step T (T.drop d n now) := step_clear T d n _ rfl rfl rfl rfl
theorem step_brk (T : Tab) (now n : Int) : Step T (T.brk now n).1 := by
  have h : ∀ m i, Step T (T.brkTo now m i).1 := by
    intro m i
    induction i with
    | zero => exact Step.refl T
    | succ i ih =>
      rw [brkTo_succ]
      unfold breakStep
      split
      · exact (ih.trans (step_drop _ _ _ _)).trans (step_choose _ _)
      · exact ih
  unfold Tab.brk
  split
  · exact h _ _
  · exact Step.refl T
theorem step_exp (T : Tab) (now : Int) : Step T (T.exp now).1 := by
  have h1 : ∀ (U : Tab) d i, Step U (U.expIn now d i).1 := by
    intro U d i
    induction i with
    | zero => exact Step.refl U
    | succ i ih =>
      rw [expIn_succ]
      unfold expStep
      split
      · exact ih.trans (step_drop _ _ _ _)
      · exact ih
  have h2 : ∀ i, Step T (T.expTo now i).1 := by
    intro i
    induction i with
    | zero => exact Step.refl T
    | succ i ih =>
      rw [expTo_succ]
      unfold expOut
      exact (ih.trans (h1 _ _ _)).trans (step_choose _ _)
  unfold Tab.exp
  split
  · exact h2 _
  · exact Step.refl T
theorem step_pru (T : Tab) (d : Int) (f : Key) : Step T (T.pru d f).2 := by
  have h : ∀ m i, Step T (T.pruTo f m i) := by
    intro m i
    induction i with
    | zero => exact Step.refl T
    | succ i ih =>
      rw [pruTo_succ]
      unfold pruneStep
      split
      · exact ih.trans (step_clear _ _ _ _ rfl rfl rfl rfl)
      · exact ih
  unfold Tab.pru
  split
  · exact (h _ _).trans (step_choose _ _)
  · exact Step.refl T
/-- an offer: what it keeps, and who made it -/
theorem step_offer {T : Tab} {now fr kd : Int} {k floor : Key} {has : Bool} (hk : 0 ≤ k.e) {R : Int × Int × Tab} (hR : T.offer now fr kd k floor has = R) :
    (T.Good → R.2.2.Good) ∧ (T.Keys → R.2.2.Keys) ∧ (R.2.1 ≠ 0 → R.2.2 = T) ∧ (R.2.1 = 0 → T.node fr ∧ ∀ d (n : Nat), (n : Int) ≠ fr → (T.l d n).has = false → (R.2.2.l d n).has = false) := by
  unfold Tab.offer at hR
  split at hR
  · subst hR; exact ⟨id, id, fun _ => rfl, fun h => by cases h⟩
  rename_i c0
  have c0 := Decidable.not_not.1 c0
  have kin : k.In := ⟨hk, by have := c0.2.2.1.1; omega⟩
  have hnow := c0.2.2.2
  unfold timeF at hnow
  have frn : ((fr.toNat : Nat) : Int) = fr := by have := c0.2.1.1; omega
  split at hR
  · subst hR; exact ⟨id, id, fun _ => rfl, fun h => by cases h⟩
  unfold Tab.offerR at hR
  split at hR
  · subst hR; exact ⟨id, id, fun _ => rfl, fun h => by cases h⟩
  have other : ∀ (o : Off) d (n : Nat), (n : Int) ≠ fr → (T.l d n).has = false → ((T.setL kd.toNat fr.toNat o).l d n).has = false := by
    intro o d n hn hh
    unfold Tab.setL; simp only
    rw [if_neg (fun e => by omega)]
    exact hh
  split at hR
  · subst hR
    exact ⟨fun g => g.setL ⟨hnow.1, hnow.2⟩, fun ks => ks.setL (ks.key _ _) (ks.kk _ _), fun h => (h rfl).elim, fun _ => ⟨c0.2.1, other _⟩⟩
  split at hR
  · subst hR; exact ⟨id, id, fun _ => rfl, fun h => by cases h⟩
  subst hR
  exact ⟨fun g => (g.setL ⟨hnow.1, hnow.2⟩).choose _, fun ks => (step_choose _ _).keys (ks.setL kin kin), fun h => (h rfl).elim, fun _ => ⟨c0.2.1, other _⟩⟩
theorem brk_quiet {T : Tab} {now n : Int} (h : ∀ m : Nat, (m : Int) = n → ∀ d, (T.l d m).has = false) : T.brk now n = (T, []) := by
  have q : ∀ (m : Nat) i, (∀ d, (T.l d m).has = false) → T.brkTo now m i = (T, []) := by
    intro m i hq
    induction i with
    | zero => rfl
    | succ i ih =>
      rw [brkTo_succ, ih]
      unfold breakStep
      rw [if_neg (by rw [hq]; simp)]
  unfold Tab.brk
  split
  · rename_i c
    exact q _ _ (h _ (by omega))
  · rfl
end Go.Dam.S

namespace Go.Dam.S
open Go Go.Dam
theorem wakes_ok {h : H} {K : AV → H → Prop} (hK : K (.bool true) h) : Cw T 11 [] h K := ⟨by unfold CwD; rw [exw]; exact hK⟩
def keyShp : Shp := .agg 106 [.int .u32, .int .u32, .int .i64]
def deedShp : Shp := .agg 108 [.int .u8, .int .i64, .int .i64, .int .i64, keyShp, keyShp, .bool]
def rulesShp : Shp := .agg 99 [.int .i64, .int .i64]
def u8W (x : Int) : AV := .int .u8 x
def heardV (he : Nat → Bool) : AV := .agg 105 ((List.range 8).map fun n => .bool (he n))
def Heard (he : Nat → Bool) (T : Tab) : Prop := ∀ n, he n = false → ∀ d, (T.l d n).has = false
theorem at_heard {he : Nat → Bool} {n : Nat} (hn : n < 8) : at? [n, 0] (.agg 105 [heardV he]) = some (.bool (he n)) := at_cons (p := [0]) rfl (rng_at hn)
theorem put_heard {he : Nat → Bool} {n : Nat} (hn : n < 8) : put? [n, 0] (.agg 105 [heardV he]) (.bool true) = some (.agg 105 [heardV (upd he n true)]) := by
  refine put_cons (p := [0]) rfl (by simpa using hn) ?_
  have : ((List.range 8).map fun m => AV.bool (he m)).set n (.bool true) = (List.range 8).map fun m => AV.bool (upd he n true m) := by
    rw [rng_set]
    congr 1
    funext m
    unfold upd
    split <;> rfl
  rw [this]
  rfl
theorem IsTab.fr1 {h g : H} {b c : Nat} {T : Tab} {p : Nat → Nat → AV} {xs : List AV} {e : TypeId} (t : IsTab h b T p) (F : Fr (fun i => i = c) h g) (hc : h.get c = some (.row .fixed e xs)) (hx : xs ≠ []) (hne : b ≠ c) : IsTab g b T p := by
  refine t.fr F hne (fun i k hi hg => ?_)
  subst hi
  rw [hc] at hg
  simp only [Option.some.injEq, Blk.row.injEq] at hg
  exact hx hg.2.2
def body8 : ACode := (.seq (.reg f8r9) (.seq (.cond (.t 55) .skip (.exit 0)) (.seq (.block 1 (.seq (.reg f8r10) (.seq (.seq (.reg f8r11) (.cond (.t 61) (.seq (.reg f8r12) (.seq (.reg f8r13) (.cond (.t 83) (.seq (.reg f8r14) .ret) .skip))) .skip)) (.seq (.reg f8r15) (.seq (.seq (.reg f8r16) (.cond (.t 97) (.reg f8r17) .skip)) (.seq (.seq (.reg f8r18) (.cond (.t 102) (.seq (.reg f8r19) (.seq (.reg f8r20) (.cond (.t 123) (.seq (.reg f8r21) .ret) .skip))) .skip)) (.seq (.reg f8r22) (.cond (.t 128) (.seq (.reg f8r23) .ret) .skip)))))))) (.reg f8r24))))
def c8z : ACode := (.seq (.reg f8r22) (.cond (.t 128) (.seq (.reg f8r23) .ret) .skip))
def c8y : ACode := (.seq (.seq (.reg f8r18) (.cond (.t 102) (.seq (.reg f8r19) (.seq (.reg f8r20) (.cond (.t 123) (.seq (.reg f8r21) .ret) .skip))) .skip)) c8z)
def c8x : ACode := (.seq (.reg f8r15) (.seq (.seq (.reg f8r16) (.cond (.t 97) (.reg f8r17) .skip)) c8y))
def rest8 : List Item := [.inBlock 1, .code (.reg f8r24), .inLoop body8, .inBlock 0, .code (.seq (.reg f8r25) .ret)]
structure Both (h0 g : H) (b1 b2 hb : Nat) (T : Tab) (he : Nat → Bool) : Prop where
  keep : Keep h0 g
  ta : ∃ p, IsTab g b1 T p
  tb : ∃ p, IsTab g b2 T p
  hh : g.get hb = some (.row .fixed 105 [heardV he])
  lh : hb < g.next
  good : T.Good
  keys : T.Keys
  heard : Heard he T
theorem Both.keepTo {h0 g g' : H} {b1 b2 hb : Nat} {T : Tab} {he : Nat → Bool} (s : Both h0 g b1 b2 hb T he) (k : Keep g g') : Both h0 g' b1 b2 hb T he :=
  ⟨s.keep.trans k, s.ta.imp fun _ t => t.keep k, s.tb.imp fun _ t => t.keep k, k.to s.hh s.lh, Nat.lt_of_lt_of_le s.lh k.1, s.good, s.keys, s.heard⟩
def QL : Env → H → Prop := RetQ f8 fun v _ => v = .bool true
def Next (h0 : H) (b1 b2 hb i len : Nat) (pv lv : AV) : Prop := ∀ (r' : Env) (g' : H) (T' : Tab) (he' : Nat → Bool), Both h0 g' b1 b2 hb T' he' → agree r' [(3, pv), (9, .ptr b1 [0] 195), (11, .ptr b2 [0] 195), (13, .ptr hb [0] 105), (52, lv), (53, .int .i64 len), (54, .int .i64 ((i + 1 : Nat) : Int))] → Wp S.T [.inLoop body8, .inBlock 0, .code (.seq (.reg f8r25) .ret)] r' g' QL
theorem part8z {h0 g : H} {b1 b2 hb i len : Nat} {T : Tab} {he : Nat → Bool} {pv lv : AV} (hi : i < 1000) (s : Both h0 g b1 b2 hb T he) {r : Env}
    (ha : agree r [(3, pv), (9, .ptr b1 [0] 195), (11, .ptr b2 [0] 195), (13, .ptr hb [0] 105), (52, lv), (53, .int .i64 len), (54, .int .i64 i)])
    (next : Next h0 b1 b2 hb i len pv lv) : Wp S.T (.code c8z :: rest8) r g QL := by
  unfold c8z rest8
  refine wp_q0 100 ha ?_
  obtain ⟨p, ta⟩ := s.ta
  obtain ⟨q, tb⟩ := s.tb
  refine plainly_ok (fun g1 k1 => ?_)
  refine alike_ok (ta.keep k1) (tb.keep k1) s.good s.keys (fun g2 k2 => ?_)
  refine ⟨((i + 1 : Nat) : Int), by rw [i64_id (by omega) (by omega)]; rfl, ?_⟩
  exact next _ g2 T he (s.keepTo (k1.trans k2)) ⟨rfl, rfl, rfl, rfl, rfl, rfl, rfl, trivial⟩
set_option maxRecDepth 6000 in
theorem part8y {h0 g : H} {b1 b2 hb px i len : Nat} {T : Tab} {he : Nat → Bool} {d : DeedR} {pv lv v2 : AV} {p q : Nat → Nat → AV} (hi : i < 1000) (kg : Keep h0 g) (ta : IsTab g b1 (T.does d).t p) (tb : IsTab g b2 T q) (hh : g.get hb = some (.row .fixed 105 [heardV he])) (lh : hb < g.next) (gd : T.Good) (gd' : (T.does d).t.Good) (ks' : (T.does d).t.Keys) (hhe : Heard he (T.does d).t)
    (same : (T.does d).e ≠ 0 → (T.does d).t = T) (hl : (T.does d).l.length ≤ 8) {lo : Nat} (o2 : IsSl lo g v2 3 ((T.does d).l.map iV)) (hlo : b2 < lo)
    (_l1 : h0.next ≤ b1) (l2 : h0.next ≤ b2) (n1 : b1 ≠ b2) (n3 : b2 ≠ hb)
    (gx : g.get px = some (.row .fixed 108 [deedV d])) {r : Env}
    (ha : agree r [(3, pv), (9, .ptr b1 [0] 195), (11, .ptr b2 [0] 195), (13, .ptr hb [0] 105), (15, .ptr px [0] 108), (17, .int .i64 (T.does d).n), (18, .int .i64 (T.does d).e), (19, v2), (52, lv), (53, .int .i64 len), (54, .int .i64 i)])
    (next : Next h0 b1 b2 hb i len pv lv) : Wp S.T (.code c8y :: rest8) r g QL := by
  unfold c8y
  refine wp_cutA 200 ha ?_
  have la := ta.lb
  have lb := tb.lb
  refine sel_intro (fun c1 => ?_) (fun c1 => ?_)
  · refine ⟨_, _, _, gx, ?_⟩
    refine does_ok gd tb (fun g2 v3 p2 F2 t2 o3 => ?_)
    have N2 := F2.1
    refine sel_intro (fun c2 => ?_) (fun c2 => ?_)
    · exfalso; simp at c2
    refine sel_intro (fun c3 => ?_) (fun c3 => ?_)
    · exfalso; simp at c3
    have o2' := o2.fr F2 (fun c e hc => by omega)
    have ta2 := ta.fr1 F2 tb.hb (by simp) n1
    have hh2 := F2.to hh lh (fun e => n3 e.symm)
    have k2 : Keep h0 g2 := Keep.frk kg F2 (fun c hc e => by omega)
    refine equal_ok (xs := (T.does d).l) (by omega) o2' o3 (fun g3 k3 => ?_)
    exact part8z hi ⟨k2.trans k3, ⟨_, ta2.keep k3⟩, ⟨_, t2.keep k3⟩, k3.to hh2 (by omega), by have := k3.1; omega, gd', ks', hhe⟩ ⟨rfl, rfl, rfl, rfl, rfl, rfl, rfl, trivial⟩ next
  · have c1 : ((T.does d).e == 0) = false := c1
    have he0 : (T.does d).e ≠ 0 := by simpa using c1
    rw [same he0] at ta gd' ks' hhe
    exact part8z hi ⟨kg, ⟨_, ta⟩, ⟨_, tb⟩, hh, lh, gd', ks', hhe⟩ ⟨rfl, rfl, rfl, rfl, rfl, rfl, rfl, trivial⟩ next
theorem brk_len {T : Tab} (g : T.Good) (now n : Int) : (T.brk now n).2.length ≤ 8 := by
  have h := (brkTo_good g (now := now) (n := n.toNat) 8).2
  unfold Tab.brk
  generalize T.brkTo now n.toNat 8 = R at h ⊢
  split
  · exact h
  · exact Nat.zero_le _
theorem exp_len {T : Tab} (g : T.Good) (now : Int) : (T.exp now).2.length ≤ 8 := by
  have h := (expTo_good g (now := now) 8).2
  unfold Tab.exp
  generalize T.expTo now 8 = R at h ⊢
  split
  · exact h
  · exact Nat.zero_le _
theorem does_len {T : Tab} (g : T.Good) (d : DeedR) : (T.does d).l.length ≤ 8 := by
  have h1 := brk_len g d.now d.fr
  have h2 := exp_len g d.now
  unfold Tab.does
  generalize T.brk d.now d.fr = R1 at h1 ⊢
  generalize T.exp d.now = R2 at h2 ⊢
  split
  · exact Nat.zero_le _
  split
  · exact h1
  split
  · exact h2
  split
  · exact Nat.zero_le _
  · exact Nat.zero_le _
theorem does_step {T : Tab} (d : DeedR) (hk : d.kind ≠ 0) : Step T (T.does d).t ∧ ((T.does d).e ≠ 0 → (T.does d).t = T) := by
  unfold Tab.does
  rw [if_neg hk]
  split
  · exact ⟨step_brk _ _ _, fun h => (h rfl).elim⟩
  split
  · exact ⟨step_exp _ _, fun h => (h rfl).elim⟩
  split
  · refine ⟨step_pru _ _ _, fun h => ?_⟩
    unfold Tab.pru at h ⊢
    split
    · rename_i c; rw [if_pos c] at h; exact (h rfl).elim
    · rfl
  · exact ⟨Step.refl T, fun h => (h rfl).elim⟩
theorem does_offer {T : Tab} (d : DeedR) (hd : 0 ≤ d.key.e) (hk : d.kind = 0) : (T.Good → (T.does d).t.Good) ∧ (T.Keys → (T.does d).t.Keys) ∧ ((T.does d).e ≠ 0 → (T.does d).t = T) ∧ ((T.does d).e = 0 → T.node d.fr ∧ ∀ i (n : Nat), (n : Int) ≠ d.fr → (T.l i n).has = false → ((T.does d).t.l i n).has = false) := by
  have := step_offer (T := T) (now := d.now) (fr := d.fr) (kd := d.dest) (k := d.key) (floor := d.floor) (has := d.has) hd rfl
  unfold Tab.does
  rw [if_pos hk]
  exact this
set_option maxRecDepth 6000 in
theorem part8x {h0 g : H} {b1 b2 hb px i len : Nat} {T : Tab} {he : Nat → Bool} {d : DeedR} {pv lv : AV} (hd : 0 ≤ d.key.e) (hi : i < 1000) (s : Both h0 g b1 b2 hb T he) (l1 : h0.next ≤ b1) (l2 : h0.next ≤ b2) (lhb : h0.next ≤ hb) (n1 : b1 ≠ b2) (n2 : b1 ≠ hb) (n3 : b2 ≠ hb)
    (gx : g.get px = some (.row .fixed 108 [deedV d])) (lx : px < g.next) (nx1 : px ≠ b1) (nx3 : px ≠ hb) {r : Env}
    (ha : agree r [(3, pv), (9, .ptr b1 [0] 195), (11, .ptr b2 [0] 195), (13, .ptr hb [0] 105), (15, .ptr px [0] 108), (52, lv), (53, .int .i64 len), (54, .int .i64 i)])
    (next : Next h0 b1 b2 hb i len pv lv) : Wp S.T (.code c8x :: rest8) r g QL := by
  unfold c8x
  refine wp_cutA 200 ha ?_
  obtain ⟨p, ta⟩ := s.ta
  obtain ⟨q, tb⟩ := s.tb
  refine ⟨_, _, _, gx, ?_⟩
  refine does_ok s.good ta (fun g2 v2 p2 F2 t2 o2 => ?_)
  have N2 := F2.1
  have la := ta.lb
  have lb := tb.lb
  have lh := s.lh
  have tb2 : IsTab g2 b2 T q := tb.fr1 F2 ta.hb (by simp) (fun e => n1 e.symm)
  have hh2 := F2.to s.hh s.lh (fun e => n2 e.symm)
  have gx2 := F2.to gx lx nx1
  have k2 : Keep h0 g2 := Keep.frk s.keep F2 (fun c hc e => by omega)
  have hlen := does_len s.good d
  refine wp_cut 200 ?_
  refine sel_intro (fun c1 => ?_) (fun c1 => ?_)
  · have c1 : ((T.does d).e == 0) = true := c1
    have he0 : (T.does d).e = 0 := by simpa using c1
    refine ⟨_, _, _, gx2, ?_⟩
    refine sel_intro (fun c2 => ?_) (fun c2 => ?_)
    · have c2 : (d.kind == 0) = true := c2
      have hk0 : d.kind = 0 := by simpa using c2
      obtain ⟨w1, w2, w3, w4⟩ := does_offer (T := T) d hd hk0
      obtain ⟨hn, hq⟩ := w4 he0
      unfold Tab.node at hn
      obtain ⟨n, hnn⟩ : ∃ m : Nat, d.fr = m := ⟨d.fr.toNat, by omega⟩
      have hn8 : n < 8 := by omega
      refine ⟨_, _, _, gx2, ?_⟩
      refine ⟨n, hnn, hn8, ?_⟩
      refine And.intro rfl (writeP hh2 (by decide) (put_heard hn8) fun g3 u3 => ?_)
      have F3 : Fr (fun c => c = hb) g2 g3 := (Fr.refl _ g2).upd u3 (.inl rfl)
      have N3 := u3.next
      have k3 : Keep h0 g3 := k2.upd u3 lhb
      refine part8y (lo := g.next) hi k3 (t2.fr1 F3 hh2 (by simp) n2) (tb2.fr1 F3 hh2 (by simp) n3) u3.at (by omega) s.good (w1 s.good) (w2 s.keys) ?_ w3 hlen (o2.fr F3 (fun c e hc => by omega)) lb l1 l2 n1 n3 (u3.ne gx2 nx3) ⟨rfl, rfl, rfl, rfl, rfl, rfl, rfl, rfl, rfl, rfl, rfl, trivial⟩ next
      intro m hm i'
      unfold upd at hm
      split at hm
      · cases hm
      · rename_i hmn
        exact hq i' m (by omega) (s.heard m hm i')
    · have c2 : (d.kind == 0) = false := c2
      obtain ⟨st, w3⟩ := does_step (T := T) d (by simpa using c2)
      exact part8y (lo := g.next) hi k2 t2 tb2 hh2 (by omega) s.good (st.good s.good) (st.keys s.keys) (fun m hm i' => st.less i' m (s.heard m hm i')) w3 hlen o2 lb l1 l2 n1 n3 gx2 ⟨rfl, rfl, rfl, rfl, rfl, rfl, rfl, rfl, rfl, rfl, rfl, trivial⟩ next
  · have c1 : ((T.does d).e == 0) = false := c1
    have he0 : (T.does d).e ≠ 0 := by simpa using c1
    have w3 : (T.does d).e ≠ 0 → (T.does d).t = T := by
      by_cases hk : d.kind = 0
      · exact (does_offer d hd hk).2.2.1
      · exact (does_step d hk).2
    have e := w3 he0
    exact part8y (lo := g.next) hi k2 t2 tb2 hh2 (by omega) s.good (by rw [e]; exact s.good) (by rw [e]; exact s.keys) (by rw [e]; exact s.heard) w3 hlen o2 lb l1 l2 n1 n3 gx2 ⟨rfl, rfl, rfl, rfl, rfl, rfl, rfl, rfl, rfl, rfl, rfl, trivial⟩ next
end Go.Dam.S

namespace Go.Dam.S
open Go Go.Dam
set_option maxRecDepth 6000 in
theorem loop8 {h0 : H} {b1 b2 hb : Nat} {pv lv : AV} {ds : List DeedR} {pks : List Int} (hlen : ds.length ≤ 100) (hk : ∀ d ∈ ds, 0 ≤ d.key.e) (hpk : ∀ x ∈ pks, 0 ≤ x ∧ x ≤ 255) (ro : IsRo h0 lv 108 (ds.map deedV)) (rp : IsRo h0 pv 5 (pks.map u8W))
    (l1 : h0.next ≤ b1) (l2 : h0.next ≤ b2) (lhb : h0.next ≤ hb) (n1 : b1 ≠ b2) (n2 : b1 ≠ hb) (n3 : b2 ≠ hb) :
    ∀ (m i : Nat) (r : Env) (g : H) (T : Tab) (he : Nat → Bool), i + m = ds.length → Both h0 g b1 b2 hb T he → agree r [(3, pv), (9, .ptr b1 [0] 195), (11, .ptr b2 [0] 195), (13, .ptr hb [0] 105), (52, lv), (53, .int .i64 ds.length), (54, .int .i64 i)] → Wp S.T [.inLoop body8, .inBlock 0, .code (.seq (.reg f8r25) .ret)] r g QL := by
  intro m
  induction m with
  | zero =>
    intro i r g T he hi s ha
    refine wp_inLoop (wp_q0 (items := [.code body8, .inLoop body8, .inBlock 0, .code (.seq (.reg f8r25) .ret)]) 50 ha ?_)
    unfold body8
    refine sel_intro (fun c1 => ?_) (fun c1 => ?_)
    · exfalso; simp only [decide_eq_true_eq] at c1; omega
    · exact ⟨_, rfl, rfl, rfl⟩
  | succ m ih =>
    intro i r g T he hi s ha
    have hil : i < ds.length := by omega
    refine wp_inLoop (wp_q0 (items := [.code body8, .inLoop body8, .inBlock 0, .code (.seq (.reg f8r25) .ret)]) 18 ha ?_)
    unfold body8
    have hx : (ds.map deedV)[i]? = some (deedV ds[i]) := by simp [hil]
    have hki := hk _ (List.getElem_mem hil)
    obtain ⟨d, hdd⟩ : ∃ d, ds[i] = d := ⟨_, rfl⟩
    rw [hdd] at hx hki
    obtain ⟨c, o, kk, eb, zs, hv, hc, hz⟩ := ro.row.at hx
    rw [List.length_map] at hv
    refine sel_intro (fun c1 => ?_) (fun c1 => ?_)
    · have hc : g.get c = some (.row kk eb zs) := by
        rcases ro with ⟨e, _⟩ | ⟨c', e, e2, _⟩
        · rw [e] at hv; cases hv
        · rw [e] at hv
          simp only [AV.slice.injEq] at hv
          exact s.keep.to hc (by omega)
      refine ⟨c, [], o, ds.length, i, o + i, hv, rfl, hil, rfl, ?_⟩
      refine read1 hc hz ?_
      refine fun g1 m1 => ?_
      refine And.intro rfl ⟨_, _, _, m1.at, by decide, fun g2 u2 => ?_⟩
      have N1 := m1.nx
      have k2 : Keep g g2 := ((Keep.refl g).new m1 (Nat.le_refl _)).upd u2 (Nat.le_refl _)
      have s2 := s.keepTo k2
      have gx := u2.at
      obtain ⟨p, ta⟩ := s.ta
      obtain ⟨q, tb⟩ := s.tb
      have la := ta.lb
      have lb := tb.lb
      have lh := s.lh
      have N2 := k2.1
      have N3 := u2.next
      have next : Next h0 b1 b2 hb i ds.length pv lv := fun r' g' T' he' s' ha' => ih (i + 1) r' g' T' he' (by omega) s' ha'
      have step : ∀ (r' : Env) (g' : H), Both h0 g' b1 b2 hb T he → g'.get g.next = some (.row .fixed 108 [deedV d]) → g.next < g'.next → agree r' [(3, pv), (9, .ptr b1 [0] 195), (11, .ptr b2 [0] 195), (13, .ptr hb [0] 105), (15, .ptr g.next [0] 108), (52, lv), (53, .int .i64 ds.length), (54, .int .i64 i)] → Wp S.T (.code c8x :: rest8) r' g' QL :=
        fun r' g' s' gx' lx' ha' => part8x hki (by omega) s' l1 l2 lhb n1 n2 n3 gx' lx' (by omega) (by omega) ha' next
      refine wp_cut 200 ?_
      refine ⟨pks.length, by have := lenIs_ro rp; simpa using this, ?_⟩
      refine sel_intro (fun c2 => ?_) (fun c2 => ?_)
      · have hp0 : 0 < pks.length := by
          have c2 : decide ((pks.length : Int) > 0) = true := c2
          simp only [decide_eq_true_eq] at c2
          omega
        have hpi : i % pks.length < pks.length := Nat.mod_lt _ hp0
        refine ⟨pks.length, by have := lenIs_ro rp; simpa using this, ?_⟩
        refine And.intro (by omega) ⟨((i % pks.length : Nat) : Int), by rw [Int.tmod_eq_emod_of_nonneg (by omega)]; omega, ?_⟩
        have hpx : (pks.map u8W)[i % pks.length]? = some (u8W pks[i % pks.length]) := by simp [hpi]
        have hxb := hpk _ (List.getElem_mem hpi)
        obtain ⟨x, hxe⟩ : ∃ x, pks[i % pks.length] = x := ⟨_, rfl⟩
        rw [hxe] at hpx hxb
        obtain ⟨c', o', kk', eb', zs', hv', hc', hz'⟩ := rp.row.at hpx
        rw [List.length_map] at hv'
        have hc' : g2.get c' = some (.row kk' eb' zs') := by
          rcases rp with ⟨e, _⟩ | ⟨c'', e, e2, _⟩
          · rw [e] at hv'; cases hv'
          · rw [e] at hv'
            simp only [AV.slice.injEq] at hv'
            exact s2.keep.to hc' (by omega)
        refine ⟨c', [], o', pks.length, i % pks.length, o' + i % pks.length, hv', rfl, hpi, rfl, ?_⟩
        refine read1 hc' hz' ?_
        obtain ⟨y, hy, hy8⟩ : ∃ y : Nat, x.tmod 8 = y ∧ y < 8 := ⟨(x.tmod 8).toNat, by rw [Int.tmod_eq_emod_of_nonneg hxb.1]; omega, by rw [Int.tmod_eq_emod_of_nonneg hxb.1]; omega⟩
        refine And.intro (by decide) ⟨(y : Int), hy, ?_⟩
        refine ⟨(y : Int), i64_id (by omega) (by omega), ?_⟩
        refine ⟨y, rfl, hy8, ?_⟩
        refine readP s2.hh (at_heard hy8) ?_
        refine sel_intro (fun c3 => ?_) (fun c3 => ?_)
        · have c3 : (!he y) = true := c3
          have hyf : he y = false := by simpa using c3
          refine ⟨_, _, _, gx, ?_⟩
          have tb2 := tb.keep k2
          refine break_ok s.good tb2 (fun g3 v3 p3 F3 t3 o3 => ?_)
          have hq : T.brk d.now y = (T, []) := brk_quiet (fun m hm d' => by
            have : m = y := by omega
            subst this
            exact s.heard m hyf d')
          rw [hq] at t3 o3
          have N4 := F3.1
          refine ⟨0, o3.len, ?_⟩
          refine step _ g3 ⟨Keep.frk s2.keep F3 (fun c hc e => by omega), ⟨_, (ta.keep k2).fr1 F3 tb2.hb (by simp) n1⟩, ⟨_, t3⟩, F3.to s2.hh s2.lh (fun e => n3 e.symm), by omega, s.good, s.keys, s.heard⟩ (F3.to gx (by omega) (by omega)) (by omega) ⟨rfl, rfl, rfl, rfl, rfl, rfl, rfl, rfl, trivial⟩
        · exact step _ g2 s2 gx (by omega) ⟨rfl, rfl, rfl, rfl, rfl, rfl, rfl, rfl, trivial⟩
      · exact step _ g2 s2 gx (by omega) ⟨rfl, rfl, rfl, rfl, rfl, rfl, rfl, rfl, trivial⟩
    · exfalso; simp only [decide_eq_false_iff_not] at c1; omega
end Go.Dam.S

namespace Go.Dam.S
open Go Go.Dam
theorem key_arg {h : H} {x : AV} (hx : ArgOf h keyShp x) : ∃ k : Key, x = keyV k ∧ 0 ≤ k.e := by
  obtain ⟨_, rfl, _, _, rfl, ⟨a, rfl, a0, _⟩, _, _, rfl, ⟨b, rfl, _⟩, _, _, rfl, ⟨c, rfl, _⟩, hx⟩ := hx
  simp only [ArgsOf] at hx
  subst hx
  exact ⟨⟨a, b, c⟩, rfl, a0⟩
theorem deed_arg {h : H} {x : AV} (hx : ArgOf h deedShp x) : ∃ d : DeedR, x = deedV d ∧ 0 ≤ d.key.e := by
  obtain ⟨_, rfl, _, _, rfl, ⟨a, rfl, _⟩, _, _, rfl, ⟨b, rfl, _⟩, _, _, rfl, ⟨c, rfl, _⟩, _, _, rfl, ⟨e, rfl, _⟩, _, _, rfl, hk, _, _, rfl, hf, _, _, rfl, ⟨z, rfl⟩, hx⟩ := hx
  simp only [ArgsOf] at hx
  subst hx
  obtain ⟨k, rfl, k0⟩ := key_arg hk
  obtain ⟨f, rfl, _⟩ := key_arg hf
  exact ⟨⟨a, b, c, e, k, f, z⟩, rfl, k0⟩
theorem tabNew_good {self hold life : Int} (h : rulesR hold life) : (tabNew self hold life 8).Good := by
  refine ⟨fun d hd => .inl ?_, h, fun _ _ => ⟨by simp [tabNew, off0, k0], by simp [tabNew, off0, k0]⟩⟩
  unfold tabNew
  simp [hd]
theorem tabNew_keys {self hold life : Int} : (tabNew self hold life 8).Keys := ⟨fun _ _ => ⟨by simp [tabNew, off0, k0], by simp [tabNew, off0, k0]⟩, fun _ _ => ⟨by simp [tabNew, off0, k0], by simp [tabNew, off0, k0]⟩⟩
set_option maxRecDepth 6000 in
theorem law8 (h : H) (avs : List AV) (ha : ArgsOf h [.int .i64, rulesShp, .slice 108 deedShp, .slice 5 (.int .u8)] avs) : Cw T 8 avs h fun v _ => v = .bool true := by
  obtain ⟨_, r0, rfl, ⟨self, rfl, _, _⟩, _, r1, rfl, ⟨_, rfl, _, _, rfl, ⟨hold, rfl, _⟩, _, _, rfl, ⟨life, rfl, _⟩, hr⟩, lv, r2, rfl, hls, pv, r3, rfl, hpk, hr'⟩ := ha
  simp only [ArgsOf] at hr hr'
  subst hr hr'
  obtain ⟨ds, ro, hmax, hpos⟩ := slice_arg (f := deedV) (p := fun d => 0 ≤ d.key.e) hls (fun x hx => deed_arg hx)
  obtain ⟨pks, rp, hmax2, hpp⟩ := slice_arg (f := u8W) (p := fun x => 0 ≤ x ∧ x ≤ 255) hpk (fun x hx => by
    obtain ⟨a, rfl, a0, a1⟩ := hx
    exact ⟨a, rfl, a0, a1⟩)
  refine cw_q 600 (ex8 _) fn8 ?_
  refine And.intro rfl (fun g1 m1 => ?_)
  have k1 : Keep h g1 := (Keep.refl h).new m1 (Nat.le_refl _)
  have q1 := m1.nx
  refine wakes_ok ?_
  refine ⟨_, _, _, m1.at, ?_⟩
  by_cases hbad : ¬ (0 ≤ self ∧ self < 8 ∧ rulesR hold life)
  · refine rnew_ok (self := self) (hold := hold) (life := life) (fun _ g2 k2 => ?_) (fun hh => (hbad hh).elim)
    refine ⟨_, _, _, k2.to m1.at (by omega), ?_⟩
    refine rnew_ok (self := self) (hold := hold) (life := life) (fun _ g3 k3 => ?_) (fun hh => (hbad hh).elim)
    exact ⟨_, rfl, rfl, rfl⟩
  have hok := Decidable.not_not.1 hbad
  refine rnew_ok (self := self) (hold := hold) (life := life) (fun hh => (hh hok).elim) (fun _ g2 b1 k2 l1 t1 => ?_)
  have q2 := k2.1
  refine ⟨_, _, _, k2.to m1.at (by omega), ?_⟩
  refine rnew_ok (self := self) (hold := hold) (life := life) (fun hh => (hh hok).elim) (fun _ g3 b2 k3 l2 t2 => ?_)
  have q3 := k3.1
  have lb1 := t1.lb
  have lb2 := t2.lb
  have hl : lenIs lv ds.length := by have := lenIs_ro ro; simpa using this
  refine ⟨ds.length, hl, ?_⟩
  refine sel_intro (fun c1 => ?_) (fun c1 => ?_)
  · exact ⟨_, rfl, rfl, rfl⟩
  have c1 : decide ((ds.length : Int) > 100) = false := c1
  rw [decide_eq_false_iff_not] at c1
  refine fun g4 m4 => ?_
  have n4 := m4.nx
  have k4 : Keep g3 g4 := (Keep.refl g3).new m4 (Nat.le_refl _)
  refine ⟨ds.length, hl, ?_⟩
  refine wp_loop_of (loop8 (h0 := h) (b1 := b1) (b2 := b2) (hb := g3.next) (pv := pv) (lv := lv) (ds := ds) (pks := pks) (by omega) hpos hpp ro rp (by omega) (by omega) (by omega) (by omega) (by omega) (by omega) ds.length 0 _ g4 (tabNew self hold life 8) (fun _ => false) (by omega)
    ⟨((k1.trans k2).trans k3).trans k4, ⟨_, t1.keep (k3.trans k4)⟩, ⟨_, t2.keep k4⟩, m4.at, by omega, tabNew_good hok.2.2, tabNew_keys, fun _ _ _ => rfl⟩ ⟨rfl, rfl, rfl, rfl, rfl, rfl, rfl, trivial⟩)
end Go.Dam.S
