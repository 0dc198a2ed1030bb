/- A part of this claim. -/
import Derived.Test.YtoipeoafcjjaeaaJoinB
namespace Go.Dam.S
open Go Go.Dam
/-! ### what a joiner keeps to -/
structure Jn.Inv (J : Jn) : Prop where
  by0 : 0 ≤ J.bytes
  by1 : J.bytes ≤ 16384
  ha0 : 0 ≤ J.have_
  ha1 : J.have_ ≤ 32
  live : J.any = true → J.done = false → J.have_ < J.many ∧ J.many ≤ 32
  parts : JnP J
theorem Jn.Inv.nums {J : Jn} (i : J.Inv) : J.Nums := ⟨i.by0, i.by1, i.ha0, by have := i.ha1; omega⟩
theorem put_parts {J : Jn} {p : Pc} (hp : JnP J) (hr : rightPc p) : JnP (J.put p) := by
  intro i
  unfold Jn.put updN
  simp only
  split
  · exact hr.2.2.2.2
  · exact hp i
theorem tail_inv {J : Jn} {p : Pc} (i : J.Inv) (h1 : J.any = true) (h2 : J.done = false) (hr : rightPc p) (hb : ¬ J.bytes + p.part.length > 16384) : (J.tail p).2.Inv ∧ (J.tail p).1.body.length ≤ 131072 := by
  have l := i.live h1 h2
  have pp := put_parts i.parts hr
  have a := i.by0
  have b := i.by1
  have c := i.ha0
  have d := i.ha1
  have e1 : (J.put p).bytes = J.bytes + p.part.length := rfl
  have e2 : (J.put p).have_ = J.have_ + 1 := rfl
  have e3 : (J.put p).many = J.many := rfl
  unfold Jn.tail
  split
  · rename_i hlt
    exact ⟨⟨show 0 ≤ (J.put p).bytes by omega, show (J.put p).bytes ≤ 16384 by omega, show 0 ≤ (J.put p).have_ by omega, show (J.put p).have_ ≤ 32 by omega, fun _ _ => ⟨show (J.put p).have_ < (J.put p).many by omega, show (J.put p).many ≤ 32 by omega⟩, pp⟩, Nat.zero_le _⟩
  · refine ⟨⟨?_, ?_, ?_, ?_, (fun _ hh => by cases hh), pp⟩, ?_⟩
    · show 0 ≤ (J.put p).bytes; omega
    · show (J.put p).bytes ≤ 16384; omega
    · show 0 ≤ (J.put p).have_; omega
    · show (J.put p).have_ ≤ 32; omega
    · have := joinTo_len (f := (J.put p).parts) (i := J.many.toNat) pp
      show (joinTo (J.put p).parts J.many.toNat).length ≤ 131072
      omega
theorem take1_inv {J : Jn} {p : Pc} (i : J.Inv) (h1 : J.any = true) (h2 : J.done = false) (hr : rightPc p) : (J.take1 p).2.Inv ∧ (J.take1 p).1.body.length ≤ 131072 := by
  unfold Jn.take1
  split
  · exact ⟨i, Nat.zero_le _⟩
  split
  · exact ⟨i, Nat.zero_le _⟩
  split
  · exact ⟨⟨i.by0, i.by1, i.ha0, i.ha1, (fun _ hh => by cases hh), i.parts⟩, Nat.zero_le _⟩
  · rename_i hb
    exact tail_inv i h1 h2 hr hb
theorem begin_inv {p : Pc} (hr : rightPc p) : (Jn.begin p).Inv :=
  ⟨Int.le_refl 0, (by show (0 : Int) ≤ 16384; decide), Int.le_refl 0, (by show (0 : Int) ≤ 32; decide), fun _ _ => ⟨by have := hr.1; show (0 : Int) < p.many; omega, hr.2.1⟩, fun _ => Nat.zero_le _⟩
theorem take_inv {J : Jn} {p : Pc} (i : J.Inv) : (J.take p).2.Inv ∧ (J.take p).1.body.length ≤ 131072 := by
  unfold Jn.take
  split
  · exact ⟨i, Nat.zero_le _⟩
  rename_i hr
  have hr := Decidable.not_not.1 hr
  split
  · exact ⟨i, Nat.zero_le _⟩
  rename_i h1
  split
  · exact take1_inv (begin_inv hr) rfl rfl hr
  · rename_i h2
    have ha : J.any = true := by
      cases h : J.any
      · exact (h2 (.inl h)).elim
      · rfl
    refine take1_inv i ha ?_ hr
    cases h : J.done
    · rfl
    · exact (h1 ⟨ha, by have : ¬ p.id > J.id := fun hh => h2 (.inr hh); by_cases hlt : p.id < J.id; exact .inl hlt; exact .inr ⟨by omega, h⟩⟩).elim
/-- what is rejected for its form, its age, or its part, is nothing -/
theorem take_reject {J : Jn} {p : Pc} (h0 : (J.take p).1.e ≠ 0) (h8 : (J.take p).1.e ≠ 8) : (J.take p).2 = J := by
  have t1 : ∀ {J : Jn}, (J.take1 p).1.e ≠ 0 → (J.take1 p).1.e ≠ 8 → (J.take1 p).2 = J := by
    intro J h0 h8
    unfold Jn.take1 at h0 h8 ⊢
    split
    · rfl
    rename_i c1
    rw [if_neg c1] at h0 h8
    split
    · rfl
    rename_i c2
    rw [if_neg c2] at h0 h8
    split
    · rename_i c3
      rw [if_pos c3] at h8
      exact (h8 rfl).elim
    · rename_i c3
      rw [if_neg c3] at h0
      unfold Jn.tail at h0
      split at h0 <;> exact (h0 rfl).elim
  have t2 : (Jn.begin p).take1 p = (Jn.begin p).take1 p → ((Jn.begin p).take1 p).1.e = 0 ∨ ((Jn.begin p).take1 p).1.e = 8 := by
    intro _
    unfold Jn.take1
    rw [if_neg (by intro h; exact h rfl), if_neg (by intro h; cases h)]
    split
    · exact .inr rfl
    · unfold Jn.tail
      split <;> exact .inl rfl
  unfold Jn.take at h0 h8 ⊢
  split
  · rfl
  rename_i c1
  rw [if_neg c1] at h0 h8
  split
  · rfl
  rename_i c2
  rw [if_neg c2] at h0 h8
  split
  · rename_i c3
    rw [if_pos c3] at h0 h8
    rcases t2 rfl with e | e
    · exact (h0 e).elim
    · exact (h8 e).elim
  · rename_i c3
    rw [if_neg c3] at h0 h8
    exact t1 h0 h8
/-! ### an Id is only ahead or behind -/
def Jn.with (J : Jn) (x : Int) : Jn := { J with id := x }
def Pc.later (p : Pc) (l : Int) : Pc := { p with id := p.id + l }
theorem take1_with {J : Jn} {x l : Int} {p : Pc} : (J.with x).take1 (p.later l) = ((J.take1 p).1, (J.take1 p).2.with x) ∧ (J.take1 p).2.id = J.id ∧ (J.take1 p).2.any = J.any := by
  unfold Jn.take1
  have e1 : (p.later l).many = p.many := rfl
  have e2 : (p.later l).at_ = p.at_ := rfl
  have e3 : (p.later l).part = p.part := rfl
  have e4 : (J.with x).many = J.many := rfl
  have e5 : (J.with x).got = J.got := rfl
  have e6 : (J.with x).parts = J.parts := rfl
  have e7 : (J.with x).bytes = J.bytes := rfl
  rw [e1, e2, e3, e4, e5, e6, e7]
  split
  · exact ⟨rfl, rfl, rfl⟩
  split
  · exact ⟨rfl, rfl, rfl⟩
  split
  · exact ⟨rfl, rfl, rfl⟩
  · unfold Jn.tail
    have f1 : ((J.with x).put (p.later l)) = (J.put p).with x := rfl
    have f2 : ((J.put p).with x).have_ = (J.put p).have_ := rfl
    rw [f1, f2, e4]
    split
    · exact ⟨rfl, rfl, rfl⟩
    · exact ⟨rfl, rfl, rfl⟩
theorem take_with {J : Jn} {x l : Int} {p : Pc} (hx : J.any = true → x = J.id + l) : ∃ y, (J.with x).take (p.later l) = ((J.take p).1, (J.take p).2.with y) ∧ ((J.take p).2.any = true → y = (J.take p).2.id + l) := by
  unfold Jn.take
  have e2 : (J.with x).any = J.any := rfl
  have e3 : (J.with x).done = J.done := rfl
  have e4 : (J.with x).id = x := rfl
  have e5 : (p.later l).id = p.id + l := rfl
  rw [e2, e3, e4, e5]
  by_cases c1 : ¬ rightPc p
  · rw [if_pos c1, if_pos (show ¬ rightPc (p.later l) from c1)]
    exact ⟨x, rfl, hx⟩
  rw [if_neg c1, if_neg (show ¬ ¬ rightPc (p.later l) from c1)]
  by_cases c2 : J.any = true ∧ (p.id < J.id ∨ p.id = J.id ∧ J.done = true)
  · have hx := hx c2.1
    rw [if_pos c2, if_pos ⟨c2.1, by rcases c2.2 with q | q; exact .inl (by omega); exact .inr ⟨by omega, q.2⟩⟩]
    exact ⟨x, rfl, fun _ => hx⟩
  have c2' : ¬ (J.any = true ∧ (p.id + l < x ∨ p.id + l = x ∧ J.done = true)) := fun hh => by
    have hx := hx hh.1
    exact c2 ⟨hh.1, by rcases hh.2 with q | q; exact .inl (by omega); exact .inr ⟨by omega, q.2⟩⟩
  rw [if_neg c2, if_neg c2']
  by_cases c3 : J.any = false ∨ p.id > J.id
  · have c3' : J.any = false ∨ p.id + l > x := by
      cases h : J.any
      · exact .inl rfl
      · right
        have hx := hx h
        rcases c3 with q | q
        · rw [q] at h; cases h
        · omega
    rw [if_pos c3, if_pos c3']
    have t := take1_with (J := Jn.begin p) (x := p.id + l) (l := l) (p := p)
    exact ⟨p.id + l, t.1, fun _ => by rw [t.2.1]; rfl⟩
  · have c3' : ¬ (J.any = false ∨ p.id + l > x) := fun hh => by
      rcases hh with q | q
      · exact c3 (.inl q)
      · cases h : J.any
        · exact c3 (.inl h)
        · have hx := hx h
          exact c3 (.inr (by omega))
    rw [if_neg c3, if_neg c3']
    have t := take1_with (J := J) (x := x) (l := l) (p := p)
    exact ⟨x, t.1, fun hh => by rw [t.2.1]; exact hx (by rw [← t.2.2]; exact hh)⟩
end Go.Dam.S

namespace Go.Dam.S
open Go Go.Dam
theorem kfrk {a b c : H} {S : Nat → Prop} (k : Keep a b) (f : Fr S b c) (hs : ∀ i, i < a.next → ¬ S i) : Keep a c := ⟨Nat.le_trans k.1 f.1, fun i hi => (f.2 i (Nat.lt_of_lt_of_le hi k.1) (hs i hi)).trans (k.2 i hi)⟩
def c7d : ACode := (.seq (.reg f7r22) (.seq (.reg f7r23) (.seq (.reg f7r24) (.seq (.reg f7r25) (.cond (.t 152) (.seq (.reg f7r26) .ret) .skip)))))
def c7c : ACode := (.seq (.seq (.reg f7r17) (.cond (.t 95) (.seq (.reg f7r18) (.seq (.reg f7r19) (.seq (.reg f7r20) (.cond (.t 119) (.seq (.reg f7r21) .ret) .skip)))) .skip)) c7d)
def c7b : ACode := (.seq (.reg f7r13) (.seq (.reg f7r14) (.seq (.seq (.reg f7r15) (.cond (.t 89) (.seq (.reg f7r16) .ret) .skip)) c7c)))
def body7 : ACode := (.seq (.reg f7r9) (.seq (.cond (.t 48) .skip (.exit 0)) (.seq (.block 1 (.seq (.reg f7r10) (.seq (.reg f7r11) (.seq (.draw f7r12) c7b)))) (.reg f7r27))))
def rest7 : List Item := [.inBlock 1, .code (.reg f7r27), .inLoop body7, .inBlock 0, .code (.seq (.reg f7r28) .ret)]
def Q7 : Env → H → Prop := RetQ f7 fun v _ => v = .bool true
/-- three joiners -/
structure Tri (h0 g : H) (b1 b2 b3 : Nat) (J1 J2 J3 : Jn) (S1 S2 S3 : Nat → Prop) : Prop where
  keep : Keep h0 g
  j1 : IsJ g b1 S1 J1
  j2 : IsJ g b2 S2 J2
  j3 : IsJ g b3 S3 J3
  l1 : ∀ c, S1 c → h0.next ≤ c
  l2 : ∀ c, S2 c → h0.next ≤ c
  l3 : ∀ c, S3 c → h0.next ≤ c
  d12 : ∀ c, S1 c → ¬ S2 c
  d13 : ∀ c, S1 c → ¬ S3 c
  d23 : ∀ c, S2 c → ¬ S3 c
theorem Tri.kp {h0 g g' : H} {b1 b2 b3 : Nat} {J1 J2 J3 : Jn} {S1 S2 S3 : Nat → Prop} (t : Tri h0 g b1 b2 b3 J1 J2 J3 S1 S2 S3) (k : Keep g g') : Tri h0 g' b1 b2 b3 J1 J2 J3 S1 S2 S3 :=
  ⟨t.keep.trans k, t.j1.keep k, t.j2.keep k, t.j3.keep k, t.l1, t.l2, t.l3, t.d12, t.d13, t.d23⟩
theorem Tri.t1 {h0 g g' : H} {b1 b2 b3 : Nat} {J1 J2 J3 J : Jn} {S1 S2 S3 S : Nat → Prop} (t : Tri h0 g b1 b2 b3 J1 J2 J3 S1 S2 S3) (F : Fr S1 g g') (j : IsJ g' b1 S J) (hs : ∀ c, S c → S1 c ∨ g.next ≤ c) : Tri h0 g' b1 b2 b3 J J2 J3 S S2 S3 :=
  ⟨kfrk t.keep F (fun i hi hh => by have := t.l1 i hh; omega), j, t.j2.fr F t.j1.nb (fun c h2 h1 => t.d12 c h1 h2), t.j3.fr F t.j1.nb (fun c h3 h1 => t.d13 c h1 h3),
    fun c hc => by rcases hs c hc with e | e; exact t.l1 c e; have := t.keep.1; omega, t.l2, t.l3,
    fun c hc h2 => by rcases hs c hc with e | e; exact t.d12 c e h2; have := t.j2.lt c h2; omega,
    fun c hc h3 => by rcases hs c hc with e | e; exact t.d13 c e h3; have := t.j3.lt c h3; omega, t.d23⟩
theorem Tri.t2 {h0 g g' : H} {b1 b2 b3 : Nat} {J1 J2 J3 J : Jn} {S1 S2 S3 S : Nat → Prop} (t : Tri h0 g b1 b2 b3 J1 J2 J3 S1 S2 S3) (F : Fr S2 g g') (j : IsJ g' b2 S J) (hs : ∀ c, S c → S2 c ∨ g.next ≤ c) : Tri h0 g' b1 b2 b3 J1 J J3 S1 S S3 :=
  ⟨kfrk t.keep F (fun i hi hh => by have := t.l2 i hh; omega), t.j1.fr F t.j2.nb (fun c h1 h2 => t.d12 c h1 h2), j, t.j3.fr F t.j2.nb (fun c h3 h2 => t.d23 c h2 h3), t.l1,
    fun c hc => by rcases hs c hc with e | e; exact t.l2 c e; have := t.keep.1; omega, t.l3,
    fun c h1 hc => by rcases hs c hc with e | e; exact t.d12 c h1 e; have := t.j1.lt c h1; omega, t.d13,
    fun c hc h3 => by rcases hs c hc with e | e; exact t.d23 c e h3; have := t.j3.lt c h3; omega⟩
theorem Tri.t3 {h0 g g' : H} {b1 b2 b3 : Nat} {J1 J2 J3 J : Jn} {S1 S2 S3 S : Nat → Prop} (t : Tri h0 g b1 b2 b3 J1 J2 J3 S1 S2 S3) (F : Fr S3 g g') (j : IsJ g' b3 S J) (hs : ∀ c, S c → S3 c ∨ g.next ≤ c) : Tri h0 g' b1 b2 b3 J1 J2 J S1 S2 S :=
  ⟨kfrk t.keep F (fun i hi hh => by have := t.l3 i hh; omega), t.j1.fr F t.j3.nb (fun c h1 h3 => t.d13 c h1 h3), t.j2.fr F t.j3.nb (fun c h2 h3 => t.d23 c h2 h3), j, t.l1, t.l2,
    fun c hc => by rcases hs c hc with e | e; exact t.l3 c e; have := t.keep.1; omega, t.d12,
    fun c h1 hc => by rcases hs c hc with e | e; exact t.d13 c h1 e; have := t.j1.lt c h1; omega,
    fun c h2 hc => by rcases hs c hc with e | e; exact t.d23 c h2 e; have := t.j2.lt c h2; omega⟩
theorem Tri.fr {h0 g g' : H} {b1 b2 b3 : Nat} {J1 J2 J3 : Jn} {S1 S2 S3 S : Nat → Prop} (t : Tri h0 g b1 b2 b3 J1 J2 J3 S1 S2 S3) (F : Fr S g g') (nb : NoB g S) (l : ∀ c, S c → h0.next ≤ c) (n1 : ∀ c, S c → ¬ S1 c) (n2 : ∀ c, S c → ¬ S2 c) (n3 : ∀ c, S c → ¬ S3 c) : Tri h0 g' b1 b2 b3 J1 J2 J3 S1 S2 S3 :=
  ⟨kfrk t.keep F (fun i hi hh => by have := l i hh; omega), t.j1.fr F nb (fun c h1 h => n1 c h h1), t.j2.fr F nb (fun c h1 h => n2 c h h1), t.j3.fr F nb (fun c h1 h => n3 c h h1), t.l1, t.l2, t.l3, t.d12, t.d13, t.d23⟩
/-- what stands at the loop's head -/
structure Hd (h0 g : H) (b1 b2 b3 : Nat) (l : Int) (J : Jn) : Prop where
  ex : ∃ S1 S2 S3 x, Tri h0 g b1 b2 b3 J (J.with x) J S1 S2 S3 ∧ (J.any = true → x = J.id + l)
  inv : J.Inv
abbrev E7 (b1 b2 b3 i len : Nat) (lv : AV) (later : Int) : EL := [(1, .int .u32 later), (5, .ptr b1 [0] 185), (6, .ptr b2 [0] 185), (7, .ptr b3 [0] 185), (45, lv), (46, .int .i64 len), (47, .int .i64 i)]
def Next7 (h0 : H) (b1 b2 b3 i len : Nat) (lv : AV) (later l : Int) : Prop := ∀ (r' : Env) (g' : H) (J : Jn), Hd h0 g' b1 b2 b3 l J → agree r' (E7 b1 b2 b3 (i + 1) len lv later) → Wp T [.inLoop body7, .inBlock 0, .code (.seq (.reg f7r28) .ret)] r' g' Q7
set_option maxRecDepth 4000 in
theorem part7d {h0 g : H} {b1 b2 b3 i len : Nat} {lv : AV} {later l : Int} {J : Jn} (hi : i < 1000) (s : Hd h0 g b1 b2 b3 l J) {r : Env} (ha : agree r (E7 b1 b2 b3 i len lv later)) (next : Next7 h0 b1 b2 b3 i len lv later l) : Wp T (.code c7d :: rest7) r g Q7 := by
  unfold c7d rest7
  refine wp_q0 200 ha ?_
  obtain ⟨S1, S2, S3, x, t, hx⟩ := s.ex
  obtain ⟨wa, hwa⟩ : ∃ w, (if J.any = true ∧ J.done = false then J.have_ else 0) = w := ⟨_, rfl⟩
  obtain ⟨wb, hwb⟩ : ∃ w, (if J.any = true ∧ J.done = false then J.many else 0) = w := ⟨_, rfl⟩
  refine waits_ok t.j1 (fun g1 k1 => ?_)
  rw [hwa, hwb]
  have t1 := t.kp k1
  refine waits_ok t1.j2 (fun g2 k2 => ?_)
  rw [show (if (J.with x).any = true ∧ (J.with x).done = false then (J.with x).have_ else 0) = wa from hwa, show (if (J.with x).any = true ∧ (J.with x).done = false then (J.with x).many else 0) = wb from hwb]
  have t2 := t1.kp k2
  refine waits_ok t2.j3 (fun g3 k3 => ?_)
  rw [hwa, hwb]
  have t3 := t2.kp k3
  refine sel_intro (fun c1 => ?_) (fun c1 => ?_)
  · exfalso; simp at c1
  refine sel_intro (fun c2 => ?_) (fun c2 => ?_)
  · exfalso; simp at c2
  refine sel_intro (fun c3 => ?_) (fun c3 => ?_)
  · exfalso; simp at c3
  refine sel_intro (fun c4 => ?_) (fun c4 => ?_)
  · exfalso; simp at c4
  refine ⟨((i + 1 : Nat) : Int), by rw [i64_id (by omega) (by omega)]; rfl, ?_⟩
  exact next _ g3 J ⟨⟨S1, S2, S3, x, t3, hx⟩, s.inv⟩ ⟨rfl, rfl, rfl, rfl, rfl, rfl, rfl, trivial⟩
set_option maxRecDepth 6000 in
theorem part7c {h0 g : H} {b1 b2 b3 i len px qx : Nat} {lv v w w1 : AV} {later l : Int} {J : Jn} {p : Pc} {S1 S2 S3 : Nat → Prop} {x : Int} (hi : i < 1000) (inv : J.Inv) (t : Tri h0 g b1 b2 b3 (J.take p).2 ((J.take p).2.with x) J S1 S2 S3) (hx : (J.take p).2.any = true → x = (J.take p).2.id + l)
    (gx : g.get px = some (.row .fixed 91 [pcV p v])) (_lx : px < g.next) (gq : g.get qx = some (.row .fixed 91 [pcV (p.later l) w])) (_lq : qx < g.next) (hq0 : h0.next ≤ qx) (q1 : ¬ S1 qx) (q2 : ¬ S2 qx) (q3 : ¬ S3 qx) (bw : IsB g w p.bytes) (bw1 : IsB g w1 ((J.take p).1.body.map byteV)) {r : Env}
    (ha : agree r ((9, .ptr px [0] 91) :: (10, .ptr qx [0] 91) :: (11, w1) :: (12, .bool (J.take p).1.done) :: (13, .int .i64 (J.take p).1.e) :: E7 b1 b2 b3 i len lv later)) (next : Next7 h0 b1 b2 b3 i len lv later l) : Wp T (.code c7c :: rest7) r g Q7 := by
  unfold c7c
  have iv := take_inv (p := p) inv
  have again : ((J.take p).1.e = 0 ∨ (J.take p).1.e = 8) → ∀ {r' : Env}, agree r' ((9, .ptr px [0] 91) :: (10, .ptr qx [0] 91) :: (11, w1) :: (12, .bool (J.take p).1.done) :: (13, .int .i64 (J.take p).1.e) :: E7 b1 b2 b3 i len lv later) → Wp T (.code (.seq (.reg f7r18) (.seq (.reg f7r19) (.seq (.reg f7r20) (.cond (.t 119) (.seq (.reg f7r21) .ret) .skip)))) :: .code c7d :: rest7) r' g Q7 := by
    intro _ r' ha'
    refine wp_q (k0 := .code c7d :: rest7) (items := [.code (.seq (.reg f7r18) (.seq (.reg f7r19) (.seq (.reg f7r20) (.cond (.t 119) (.seq (.reg f7r21) .ret) .skip))))]) 300 ha' ?_
    refine ⟨_, _, _, gx, ?_⟩
    refine And.intro rfl ⟨_, _, _, gq, by decide, fun g2 u2 => ?_⟩
    refine ⟨_, _, _, u2.at, ?_⟩
    have F2 : Fr (fun c => c = qx) g g2 := (Fr.refl (fun c => c = qx) g).upd u2 (.inl rfl)
    have nb2 : NoB g (fun c => c = qx) := fun c e k xs hh => by rw [e, gq] at hh; cases hh
    have t2 := t.fr F2 nb2 (fun c e => by omega) (fun c e h => q1 (e ▸ h)) (fun c e h => q2 (e ▸ h)) (fun c e h => q3 (e ▸ h))
    have bw2 := bw.fr F2 nb2
    have bw12 := bw1.fr F2 nb2
    refine take_ok (p := p) (v := w) t2.j3 inv.parts inv.nums bw2 (fun g3 S' w3 F3 j3 hs b3' => ?_)
    have t3 := t2.t3 F3 j3 hs
    have bw13 := bw12.fr F3 t2.j3.nb
    refine sel_intro (fun c1 => ?_) (fun c1 => ?_)
    · exfalso; simp at c1
    refine sel_intro (fun c2 => ?_) (fun c2 => ?_)
    · exfalso; simp at c2
    refine equalB_ok (xs := (J.take p).1.body) (by omega) bw13 b3' (fun g4 k4 => ?_)
    exact part7d hi ⟨⟨S1, S2, S', x, t3.kp k4, hx⟩, iv.1⟩ ⟨rfl, rfl, rfl, rfl, rfl, rfl, rfl, trivial⟩ next
  refine wp_seqA (wp_cutA 100 ha ?_)
  refine sel_intro (fun c1 => ?_) (fun c1 => ?_)
  · exact wp_condA (t := true) rfl (again (.inl (by simpa using c1)) ⟨rfl, rfl, rfl, rfl, rfl, rfl, rfl, rfl, rfl, rfl, rfl, rfl, trivial⟩)
  · cases h8 : ((J.take p).1.e == 8) with
    | true => exact wp_condA (t := true) (by rw [← h8]; rfl) (again (.inr (by simpa using h8)) ⟨rfl, rfl, rfl, rfl, rfl, rfl, rfl, rfl, rfl, rfl, rfl, rfl, trivial⟩)
    | false =>
      have e := take_reject (J := J) (p := p) (by simpa using c1) (by simpa using h8)
      rw [e] at t hx
      exact wp_condA (t := false) (by rw [← h8]; rfl) (wp_skipA (part7d hi ⟨⟨S1, S2, S3, x, t, hx⟩, inv⟩ ⟨rfl, rfl, rfl, rfl, rfl, rfl, rfl, trivial⟩ next))
set_option maxRecDepth 6000 in
theorem part7b {h0 g : H} {b1 b2 b3 i len px qx : Nat} {lv v w : AV} {later l : Int} {J : Jn} {p : Pc} {S1 S2 S3 : Nat → Prop} {x : Int} (hi : i < 1000) (inv : J.Inv) (t : Tri h0 g b1 b2 b3 J (J.with x) J S1 S2 S3) (hx : J.any = true → x = J.id + l)
    (gx : g.get px = some (.row .fixed 91 [pcV p v])) (lx : px < g.next) (gq : g.get qx = some (.row .fixed 91 [pcV (p.later l) w])) (lq : qx < g.next) (_hp0 : h0.next ≤ px) (hq0 : h0.next ≤ qx) (p1 : ¬ S1 px) (p2 : ¬ S2 px) (q1 : ¬ S1 qx) (q2 : ¬ S2 qx) (q3 : ¬ S3 qx) (bv : IsB g v p.bytes) (bw : IsB g w p.bytes) {r : Env}
    (ha : agree r ((9, .ptr px [0] 91) :: (10, .ptr qx [0] 91) :: E7 b1 b2 b3 i len lv later)) (next : Next7 h0 b1 b2 b3 i len lv later l) : Wp T (.code c7b :: rest7) r g Q7 := by
  unfold c7b
  have iv := take_inv (p := p) inv
  obtain ⟨y, hy1, hy2⟩ := take_with (p := p) hx
  refine wp_cutA 100 ha ?_
  refine ⟨_, _, _, gx, ?_⟩
  refine take_ok (p := p) (v := v) t.j1 inv.parts inv.nums bv (fun g2 S1' w1 F2 j1' hs1 bw1 => ?_)
  have t2 := t.t1 F2 j1' hs1
  have N2 := F2.1
  have bw2 := bw.fr F2 t.j1.nb
  have gx2 := F2.to gx lx p1
  have gq2 := F2.to gq lq q1
  refine wp_cut 100 ?_
  refine ⟨_, _, _, gq2, ?_⟩
  have nums : (J.with x).Nums := inv.nums
  refine take_ok (p := p.later l) (v := w) t2.j2 inv.parts nums bw2 (fun g3 S2' w2 F3 j2' hs2 bw3 => ?_)
  rw [hy1] at j2' bw3 ⊢
  have t3 := t2.t2 F3 j2' hs2
  have N3 := F3.1
  have bw1' := bw1.fr F3 t2.j2.nb
  have gx3 := F3.to gx2 (by omega) p2
  have gq3 := F3.to gq2 (by omega) q2
  refine wp_cut 100 ?_
  refine sel_intro (fun c1 => ?_) (fun c1 => ?_)
  · exfalso; simp at c1
  refine sel_intro (fun c2 => ?_) (fun c2 => ?_)
  · exfalso; simp at c2
  refine equalB_ok (xs := (J.take p).1.body) (by omega) bw1' bw3 (fun g4 k4 => ?_)
  have N4 := k4.1
  refine part7c (v := v) hi inv (t3.kp k4) hy2 (k4.to gx3 (by omega)) (by omega) (k4.to gq3 (by omega)) (by omega) hq0 ?_ ?_ q3 ((bw2.fr F3 t2.j2.nb).keep k4) (bw1'.keep k4) ⟨rfl, rfl, rfl, rfl, rfl, rfl, rfl, rfl, rfl, rfl, rfl, rfl, trivial⟩ next
  · intro hh
    rcases hs1 qx hh with e | e
    · exact q1 e
    · omega
  · intro hh
    rcases hs2 qx hh with e | e
    · exact q2 e
    · omega
end Go.Dam.S

namespace Go.Dam.S
open Go Go.Dam
theorem u32_id {a : Int} (h0 : 0 ≤ a) (h1 : a < 4294967296) : IntKind.u32.wrap a = a := by
  simp only [IntKind.wrap, IntKind.signed, IntKind.bits, Bool.false_and]
  simp
  omega
set_option maxRecDepth 6000 in
theorem loop7 {h0 : H} {b1 b2 b3 : Nat} {lv : AV} {ds : List (Pc × AV)} {later l : Int} (hl : later.tmod 2147483648 = l) (hl0 : 0 ≤ l) (hl1 : l < 2147483648) (hlen : ds.length ≤ 60) (ro : IsRo h0 lv 91 (ds.map elV)) (hb : ∀ x ∈ ds, IsB h0 x.2 x.1.bytes ∧ 0 ≤ x.1.id ∧ badP x.1 = false) :
    ∀ (m i : Nat) (r : Env) (g : H) (J : Jn), i + m = ds.length → Hd h0 g b1 b2 b3 l J → agree r (E7 b1 b2 b3 i ds.length lv later) → Wp T [.inLoop body7, .inBlock 0, .code (.seq (.reg f7r28) .ret)] r g Q7 := by
  intro m
  induction m with
  | zero =>
    intro i r g J hi s ha
    refine wp_inLoop (wp_q0 (items := [.code body7, .inLoop body7, .inBlock 0, .code (.seq (.reg f7r28) .ret)]) 50 ha ?_)
    unfold body7
    refine sel_intro (fun c1 => ?_) (fun c1 => ?_)
    · exfalso; simp only [decide_eq_true_eq] at c1; omega
    · exact ⟨_, rfl, rfl, rfl⟩
  | succ m ih =>
    intro i r g J hi s ha
    have hil : i < ds.length := by omega
    refine wp_inLoop (wp_q0 (items := [.code body7, .inLoop body7, .inBlock 0, .code (.seq (.reg f7r28) .ret)]) 37 ha ?_)
    unfold body7
    have hx : (ds.map elV)[i]? = some (elV ds[i]) := by simp [hil]
    obtain ⟨hbi, hid, hbad⟩ := hb _ (List.getElem_mem hil)
    generalize ds[i] = d at hx hbi hid hbad
    obtain ⟨p, v⟩ := d
    have hid : 0 ≤ p.id := hid
    have hbi : IsB h0 v p.bytes := hbi
    unfold badP at hbad
    simp only [Bool.or_eq_false_iff, decide_eq_false_iff_not] at hbad
    obtain ⟨c, o, kk, eb, zs, hv, hc, hz⟩ := ro.row.at hx
    rw [List.length_map] at hv
    obtain ⟨S1, S2, S3, x, t, hxx⟩ := s.ex
    refine sel_intro (fun c1 => ?_) (fun c1 => ?_)
    · have hc : g.get c = some (.row kk eb zs) := by
        rcases ro with ⟨e, _⟩ | ⟨c', e, e2, _⟩
        · rw [e] at hv; cases hv
        · rw [e] at hv
          simp only [AV.slice.injEq] at hv
          exact t.keep.to hc (by omega)
      refine ⟨c, [], o, ds.length, i, o + i, hv, rfl, hil, rfl, ?_⟩
      refine read1 hc hz ?_
      refine fun g1 m1 => ?_
      refine And.intro rfl ⟨_, _, _, m1.at, by decide, fun g2 u2 => ?_⟩
      refine ⟨_, _, _, u2.at, ?_⟩
      refine fun g3 m3 => ?_
      refine And.intro rfl ⟨_, _, _, m3.at, by decide, fun g4 u4 => ?_⟩
      have q1 := m1.nx
      have q2 := u2.next
      have q3 := m3.nx
      have q4 := u4.next
      have k4 : Keep g g4 := ((((Keep.refl g).new m1 (Nat.le_refl _)).upd u2 (Nat.le_refl _)).new m3 (by omega)).upd u4 (by omega)
      have gx4 : g4.get g.next = some (.row .fixed 91 [pcV p v]) := u4.ne (m3.ne u2.at (by omega)) (by omega)
      have gq4 : g4.get g2.next = some (.row .fixed 91 [pcV p v]) := u4.at
      refine ⟨_, _, _, gx4, ?_⟩
      refine And.intro (by decide) ⟨l, hl, ?_⟩
      refine ⟨p.id + l, u32_id (by omega) (by omega), ?_⟩
      refine ⟨_, _, _, gx4, ?_⟩
      have kb : Keep g4 (g4.bump 12) := Keep.bump _ _
      refine clone_ok (l := p.bytes) (by simp only [Pc.bytes, List.length_map]; omega) (hbi.keep ((t.keep.trans k4).trans kb)) (fun g5 w k5 bw => ?_)
      have k5 := kb.trans k5
      have q5 := k5.1
      refine And.intro ⟨rfl, _, _, _, k5.to gx4 (by omega), rfl⟩ ?_
      refine And.intro rfl ⟨_, _, _, k5.to gq4 (by omega), by decide, fun g6 u6 => ?_⟩
      refine And.intro bw.kd ⟨_, _, _, u6.at, by decide, fun g7 u7 => ?_⟩
      have q6 := u6.next
      have q7 := u7.next
      have kq : Keep g g5 := k4.trans k5
      have k7 : Keep g g7 := (kq.upd u6 (by omega)).upd u7 (by omega)
      have t7 := t.kp k7
      have fresh : ∀ c, g.next ≤ c → ¬ S1 c ∧ ¬ S2 c ∧ ¬ S3 c := fun c hc => ⟨fun hh => by have := t.j1.lt c hh; omega, fun hh => by have := t.j2.lt c hh; omega, fun hh => by have := t.j3.lt c hh; omega⟩
      have n0 := t.keep.1
      have bw7 : IsB g7 w p.bytes := bw.fr (S := fun c => c = g2.next) (((Fr.refl (fun c => c = g2.next) g5).upd u6 (.inl rfl)).upd u7 (.inl rfl)) (fun c e k xs hh => by rw [e, k5.to gq4 (by omega)] at hh; cases hh)
      exact part7b (v := v) (w := w) (by omega) s.inv t7 hxx (u7.ne (u6.ne (k5.to gx4 (by omega)) (by omega)) (by omega)) (by omega) u7.at (by omega) (by omega) (by omega) (fresh _ (by omega)).1 (fresh _ (by omega)).2.1 (fresh _ (by omega)).1 (fresh _ (by omega)).2.1 (fresh _ (by omega)).2.2 (hbi.keep (t.keep.trans k7)) bw7 ⟨rfl, rfl, rfl, rfl, rfl, rfl, rfl, rfl, rfl, trivial⟩ (fun r' g' J' s' ha' => ih (i + 1) r' g' J' (by omega) s' ha')
    · exfalso; simp only [decide_eq_false_iff_not] at c1; omega
def pcShp : Shp := .agg 91 [.int .u32, .int .i64, .int .i64, .slice 5 (.int .u8)]
theorem pc_arg {h : H} {x : AV} (hx : ArgOf h pcShp x) : ∃ y : Pc × AV, x = elV y ∧ IsB h y.2 y.1.bytes ∧ 0 ≤ y.1.id := by
  obtain ⟨_, rfl, _, _, rfl, ⟨a, rfl, a0, _⟩, _, _, rfl, ⟨b, rfl, _⟩, _, _, rfl, ⟨c, rfl, _⟩, v, _, rfl, hv, hx⟩ := hx
  simp only [ArgsOf] at hx
  subst hx
  obtain ⟨l, ro, _, _⟩ := slice_arg (f := byteV) (p := fun _ => True) hv (fun x hx => by
    obtain ⟨a, rfl, _⟩ := hx
    exact ⟨a, rfl, trivial⟩)
  exact ⟨(⟨a, b, c, l⟩, v), rfl, isRo_b ro, a0⟩
theorem jn0_inv : jn0.Inv := ⟨Int.le_refl 0, (by show (0 : Int) ≤ 16384; decide), Int.le_refl 0, (by show (0 : Int) ≤ 32; decide), (fun h => by cases h), fun _ => Nat.zero_le _⟩
set_option maxRecDepth 6000 in
theorem law7 (h : H) (avs : List AV) (ha : ArgsOf h [.slice 91 pcShp, .int .u32] avs) : Cw T 7 avs h fun v _ => v = .bool true := by
  obtain ⟨lv, r0, rfl, hls, _, r1, rfl, ⟨later, rfl, a0, a1⟩, hr⟩ := ha
  simp only [ArgsOf] at hr
  subst hr
  obtain ⟨ds, ro, hmax, hpos⟩ := slice_arg (f := elV) (p := fun x => IsB h x.2 x.1.bytes ∧ 0 ≤ x.1.id) hls (fun x hx => pc_arg hx)
  refine cw_q 600 (ex7 _) fn7 ?_
  refine wakes_ok ?_
  refine pnew_ok (fun g1 b1 k1 l1 j1 => ?_)
  refine pnew_ok (fun g2 b2 k2 l2 j2 => ?_)
  refine pnew_ok (fun g3 b3 k3 l3 j3 => ?_)
  have hl : lenIs lv ds.length := by have := lenIs_ro ro; simpa using this
  refine ⟨ds.length, hl, ?_⟩
  refine sel_intro (fun c1 => ?_) (fun c1 => ?_)
  · exact ⟨_, rfl, rfl, rfl⟩
  have c1 : decide ((ds.length : Int) > 60) = false := c1
  rw [decide_eq_false_iff_not] at c1
  have K3 := (k1.trans k2).trans k3
  refine contains_ok (ds := ds) (by omega) (ro.keep K3) (fun x hx => (hpos x hx).1.keep K3) (fun g4 bad k4 hbad => ?_)
  refine sel_intro (fun c2 => ?_) (fun c2 => ?_)
  · exact ⟨_, rfl, rfl, rfl⟩
  have c2 : bad = false := c2
  have hb := hbad c2
  refine ⟨ds.length, hl, ?_⟩
  have e1 := k1.1
  have e2 := k2.1
  have e3 := k3.1
  have lb1 := j1.lt _ j1.sb
  have lb2 := j2.lt _ j2.sb
  have hm : 0 ≤ later.tmod 2147483648 ∧ later.tmod 2147483648 < 2147483648 := by
    rw [Int.tmod_eq_emod_of_nonneg a0]
    omega
  refine wp_loop_of (loop7 (h0 := h) (b1 := b1) (b2 := b2) (b3 := b3) (lv := lv) (ds := ds) (later := later) rfl hm.1 hm.2 (by omega) ro (fun x hx => ⟨(hpos x hx).1, (hpos x hx).2, hb x hx⟩) ds.length 0 _ g4 jn0 (by omega)
    ⟨⟨_, _, _, 0, ⟨K3.trans k4, (j1.keep (k2.trans k3)).keep k4, (j2.keep k3).keep k4, j3.keep k4, fun c e => by omega, fun c e => by omega, fun c e => by omega, fun c e f => by omega, fun c e f => by omega, fun c e f => by omega⟩, fun hh => by cases hh⟩, jn0_inv⟩ ⟨rfl, rfl, rfl, rfl, rfl, rfl, rfl, trivial⟩)
end Go.Dam.S
