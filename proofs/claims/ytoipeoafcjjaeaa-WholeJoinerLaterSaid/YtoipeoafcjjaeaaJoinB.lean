/- A part of this claim. -/
import Derived.Test.YtoipeoafcjjaeaaJoinA
namespace Go.Dam.S
open Go Go.Dam
def Jn.put (J : Jn) (p : Pc) : Jn := { J with got := updN J.got p.at_.toNat true, parts := updN J.parts p.at_.toNat p.part, bytes := J.bytes + p.part.length, have_ := J.have_ + 1 }
structure Ans where
  body : List Int
  done : Bool
  e : Int
def Jn.tail (J : Jn) (p : Pc) : Ans × Jn := if (J.put p).have_ < J.many then (⟨[], false, 0⟩, J.put p) else (⟨joinTo (J.put p).parts J.many.toNat, true, 0⟩, { J.put p with done := true })
def code44c : ACode := (.seq (.draw f44r18) (.seq (.draw f44r19) (.seq (.seq (.reg f44r20) (.seq (.draw f44r21) (.cond (.t 163) (.seq (.reg f44r22) .ret) .skip))) code44d)))
def Jn.Nums (J : Jn) : Prop := 0 ≤ J.bytes ∧ J.bytes ≤ 16384 ∧ 0 ≤ J.have_ ∧ J.have_ ≤ 1000000
set_option maxRecDepth 6000 in
theorem tail44 {b px : Nat} {S : Nat → Prop} {J : Jn} {p : Pc} {v : AV} {h : H} (j : IsJ h b S J) (ha1 : J.any = true) (ha2 : J.done = false) (hp : JnP J) (hn : J.Nums) (hr : rightPc p) (hm : p.at_ < J.many) (gx : h.get px = some (.row .fixed 91 [pcV p v])) (lx : px < h.next) (bv : IsB h v p.bytes) {K : AV → H → Prop} {r : Env} (ha : agree r [(0, .ptr b [0] 185), (3, .ptr px [0] 91)])
    (hK : ∀ g w, Fr S h g → IsJ g b S (J.tail p).2 → IsB g w ((J.tail p).1.body.map byteV) → K (.tup [w, .bool (J.tail p).1.done, .int .i64 (J.tail p).1.e]) g) : Wp T [.code code44c] r h (RetQ f44 K) := by
  unfold code44c
  obtain ⟨pv, gv, hb, live⟩ := j.cell
  obtain ⟨m, gb, pb, pvs, e1, e2, s1, s2, n1, n2, n3, e3, e4, d1, d2, hbs⟩ := live ha1 ha2
  have lb := j.lt _ j.sb
  have lpb := j.lt _ s2
  have lgb := j.lt _ s1
  obtain ⟨r1, r2, r3, r4, r5⟩ := hr
  obtain ⟨a, ea⟩ : ∃ a : Nat, p.at_ = a := ⟨p.at_.toNat, by omega⟩
  have ham : a < m := by omega
  subst e3 e4
  refine wp_cutA 200 ha ?_
  refine ⟨_, _, _, hb, ?_⟩
  refine ⟨_, _, _, gx, ?_⟩
  refine ⟨_, _, _, hb, ?_⟩
  refine ⟨_, _, _, gx, ?_⟩
  refine fun g1 m1 => ?_
  have q1 : g1.next = h.next + 20 := by rw [m1.next, if_neg (by show _ ≠ h.next + 20; omega)]; rfl
  have K1 : Keep h g1 := ⟨by omega, fun c hc => by rw [m1.get, if_neg (by omega)]; rfl⟩
  have gx1 := K1.to gx lx
  refine ⟨_, _, _, gx1, ?_⟩
  refine app_fresh (m1.at) (by show h.next + 12 < g1.next; omega) (bv.keep K1) (by simp only [Pc.bytes, List.length_map]; omega) (fun g2 w k2 bw => ?_)
  have K2 := K1.trans k2
  have q2 := K2.1
  have gx2 := K2.to gx lx
  have hb2 := K2.to hb lb
  have xb : px ≠ b := fun e => by rw [e, hb] at gx; cases gx
  have xg : px ≠ gb := fun e => by rw [e, d1] at gx; cases gx
  have xp : px ≠ pb := fun e => by rw [e, d2] at gx; cases gx
  refine And.intro ⟨rfl, _, _, _, gx2, rfl⟩ (And.intro ⟨rfl, _, _, _, hb2, rfl⟩ (And.intro ⟨rfl, _, _, _, gx2, rfl⟩ (And.intro ⟨rfl, _, _, _, hb2, rfl⟩ ?_)))
  refine ⟨gb, [], 0, m, a, 0 + a, rfl, ea, ham, rfl, ?_⟩
  refine And.intro rfl (write1 (K2.to d1 lgb) (by decide) (by simp; omega) fun g3 u3 => ?_)
  have gx3 := u3.ne gx2 xg
  refine And.intro ⟨rfl, _, _, _, gx3, rfl⟩ ?_
  refine ⟨pb, [], 0, m, a, 0 + a, rfl, ea, ham, rfl, ?_⟩
  refine And.intro bw.kd (write1 (u3.ne (K2.to d2 lpb) n3) (by decide) (by simp; omega) fun g4 u4 => ?_)
  have gx4 := u4.ne gx3 xp
  have hb4 := u4.ne (u3.ne hb2 n1.symm) n2.symm
  have F4 : Fr (fun c => c = b ∨ c = gb ∨ c = pb) h g4 := (K2.fr.upd u3 (.inl (.inr (.inl rfl)))).upd u4 (.inl (.inr (.inr rfl)))
  have nb4 : NoB h (fun c => c = b ∨ c = gb ∨ c = pb) := by
    intro c hc k xs hh
    rcases hc with e | e | e
    · rw [e, hb] at hh; cases hh
    · rw [e, d1] at hh; cases hh
    · rw [e, d2] at hh; cases hh
  have bl := bv.len
  unfold Pc.bytes at bl
  rw [List.length_map] at bl
  unfold Jn.Nums at hn
  refine wp_cut 200 ?_
  refine ⟨_, _, _, hb4, ?_⟩
  refine ⟨_, _, _, gx4, ?_⟩
  refine ⟨p.part.length, bl, ?_⟩
  refine ⟨J.bytes + p.part.length, i64_id (by omega) (by omega), ?_⟩
  refine And.intro rfl ⟨_, _, _, hb4, by decide, fun g5 u5 => ?_⟩
  refine wp_cut 200 ?_
  refine ⟨_, _, _, u5.at, ?_⟩
  refine ⟨J.have_ + 1, i64_id (by omega) (by omega), ?_⟩
  refine And.intro rfl ⟨_, _, _, u5.at, by decide, fun g6 u6 => ?_⟩
  refine ⟨_, _, _, u6.at, ?_⟩
  refine ⟨_, _, _, u6.at, ?_⟩
  have F6 : Fr (fun c => c = b ∨ c = gb ∨ c = pb) h g6 := (F4.bump.upd u5 (.inl (.inl rfl))).upd u6 (.inl (.inl rfl))
  have q6 := F6.1
  have FS : Fr S h g6 := F6.mono (fun c _ hc => by rcases hc with e | e | e <;> rw [e]; exact j.sb; exact s1; exact s2)
  have dg : g6.get gb = _ := u6.ne (u5.ne (u4.ne u3.at n3.symm : (g4.bump 11).get gb = _) n1) n1
  have dp : g6.get pb = _ := u6.ne (u5.ne (u4.at : (g4.bump 11).get pb = _) n2) n2
  have ea' : p.at_.toNat = a := by omega
  have j6 : IsJ g6 b S (J.put p) := by
    refine ⟨j.sb, fun c hc => by have := j.lt c hc; omega, fun c hc k xs hh => ?_, .slice pb [] 0 m 39, .slice gb [] 0 m 4, u6.at, fun _ _ => ⟨m, gb, pb, updN pvs a w, e1, e2, s1, s2, n1, n2, n3, rfl, rfl, ?_, ?_, fun i hi => ?_⟩⟩
    · by_cases e : c = b ∨ c = gb ∨ c = pb
      · rcases e with e | e | e
        · rw [e, u6.at] at hh; cases hh
        · rw [e, dg] at hh; cases hh
        · rw [e, dp] at hh; cases hh
      · rw [F6.2 c (j.lt c hc) e] at hh
        exact j.nb c hc k xs hh
    · rw [dg, Nat.zero_add, rngN_set]
      unfold Jn.put
      simp only [ea']
      congr 3
      funext i
      unfold updN
      split <;> rfl
    · rw [dp, Nat.zero_add, rngN_set]
    · unfold Jn.put updN
      simp only [ea']
      split
      · have b4 : IsB g4 w p.bytes := bw.fr (S := fun c => c = b ∨ c = gb ∨ c = pb) (((Fr.refl _ g2).upd u3 (.inl (.inr (.inl rfl)))).upd u4 (.inl (.inr (.inr rfl)))) (by
          intro c hc k xs hh
          rcases hc with e | e | e
          · rw [e, hb2] at hh; cases hh
          · rw [e, K2.to d1 lgb] at hh; cases hh
          · rw [e, K2.to d2 lpb] at hh; cases hh)
        have hb4' : (g4.bump 11).get b = _ := hb4
        refine (b4.keep (Keep.bump g4 11)).fr (S := fun c => c = b) (((Fr.refl (fun c => c = b) (g4.bump 11)).upd u5 (.inl rfl)).upd u6 (.inl rfl)) (fun c hc k xs hh => ?_)
        rw [hc, hb4'] at hh; cases hh
      · exact (hbs i hi).fr F6 nb4
  unfold Jn.tail at hK
  refine sel_intro (fun c1 => ?_) (fun c1 => ?_)
  · have c1 : decide ((J.put p).have_ < J.many) = true := c1
    rw [if_pos (of_decide_eq_true c1)] at hK
    exact ⟨_, rfl, rfl, _, rfl, rfl, _, rfl, rfl, hK (g6.bump 9) .nils FS.bump (j6.keep (Keep.bump _ _)) (.inl ⟨rfl, rfl⟩)⟩
  · have c1 : decide ((J.put p).have_ < J.many) = false := c1
    rw [if_neg (of_decide_eq_false c1)] at hK
    refine whole44 (j6.keep (Keep.bump g6 9)) ha1 ha2 ?_ ⟨rfl, trivial⟩ (fun g v' F' j' b' => ?_)
    · intro i
      unfold Jn.put updN
      simp only
      split
      · exact r5
      · exact hp i
    · refine hK g v' ?_ j' b'
      exact (FS.bump (n := 9)).then F' (fun c _ e => by rw [e]; exact j.sb)
end Go.Dam.S

namespace Go.Dam.S
open Go Go.Dam
noncomputable def sOf (l : List Int) : List UInt8 := (bytesOf (l.map byteV)).getD []
theorem sOf_ok (l : List Int) : bytesOf (l.map byteV) = some (sOf l) := by
  obtain ⟨s, hs⟩ := bytes_of l
  unfold sOf
  rw [hs]
  rfl
noncomputable def unlike (l m : List Int) : Bool := !((⟨(sOf l).toArray⟩ : ByteArray).toList == (⟨(sOf m).toArray⟩ : ByteArray).toList)
noncomputable def Jn.take1 (J : Jn) (p : Pc) : Ans × Jn :=
  if p.many ≠ J.many then (⟨[], false, 10⟩, J)
  else if J.got p.at_.toNat = true then (⟨[], false, if unlike (J.parts p.at_.toNat) p.part = true then 7 else 0⟩, J)
  else if J.bytes + p.part.length > 16384 then (⟨[], false, 8⟩, { J with done := true })
  else J.tail p
def code44b : ACode := (.seq (.block 1 (.seq (.draw f44r9) (.cond (.t 63) (.seq (.reg f44r10) .ret) (.seq (.draw f44r11) (.cond (.t 71) (.seq (.reg f44r12) .ret) (.seq (.draw f44r13) (.cond (.t 95) (.seq (.reg f44r14) .ret) (.seq (.draw f44r15) (.cond (.t 104) (.seq (.reg f44r16) (.seq (.reg f44r17) .ret)) .skip))))))))) code44c)
set_option maxRecDepth 6000 in
theorem take1_ok {b px : Nat} {S : Nat → Prop} {J : Jn} {p : Pc} {v : AV} {h : H} (j : IsJ h b S J) (ha1 : J.any = true) (ha2 : J.done = false) (hp : JnP J) (hn : J.Nums) (hr : rightPc p) (gx : h.get px = some (.row .fixed 91 [pcV p v])) (lx : px < h.next) (bv : IsB h v p.bytes) {K : AV → H → Prop} {r : Env} (ha : agree r [(0, .ptr b [0] 185), (3, .ptr px [0] 91)])
    (hK : ∀ g w, Fr S h g → IsJ g b S (J.take1 p).2 → IsB g w ((J.take1 p).1.body.map byteV) → K (.tup [w, .bool (J.take1 p).1.done, .int .i64 (J.take1 p).1.e]) g) : Wp T [.code code44b] r h (RetQ f44 K) := by
  unfold code44b
  have j0 := j
  obtain ⟨pv, gv, hb, live⟩ := j.cell
  obtain ⟨m, gb, pb, pvs, e1, e2, s1, s2, n1, n2, n3, e3, e4, d1, d2, hbs⟩ := live ha1 ha2
  have lb := j.lt _ j.sb
  have lpb := j.lt _ s2
  have lgb := j.lt _ s1
  obtain ⟨r1, r2, r3, r4, r5⟩ := id hr
  obtain ⟨a, ea⟩ : ∃ a : Nat, p.at_ = a := ⟨p.at_.toNat, by omega⟩
  subst e3 e4
  unfold Jn.take1 at hK
  refine wp_cutA 300 ha ?_
  refine ⟨_, _, _, gx, ?_⟩
  refine ⟨_, _, _, hb, ?_⟩
  refine sel_intro (fun c1 => ?_) (fun c1 => ?_)
  · have c1 : (p.many != J.many) = true := c1
    rw [if_pos (by simpa using c1)] at hK
    exact ⟨_, rfl, rfl, _, rfl, rfl, _, rfl, rfl, hK (h.bump 8) .nils (Fr.refl S h).bump (j0.keep (Keep.bump _ _)) (.inl ⟨rfl, rfl⟩)⟩
  have c1 : (p.many != J.many) = false := c1
  rw [if_neg (by simpa using c1)] at hK
  have hmm : p.many = J.many := by simpa using c1
  have ham : a < m := by omega
  rw [show p.at_.toNat = a by omega] at hK
  have bl := bv.len
  unfold Pc.bytes at bl
  rw [List.length_map] at bl
  refine ⟨_, _, _, hb, ?_⟩
  refine ⟨_, _, _, gx, ?_⟩
  refine ⟨gb, [], 0, m, a, 0 + a, rfl, ea, ham, rfl, ?_⟩
  refine read1 (by exact d1) (by rw [Nat.zero_add]; exact rngN_at ham) ?_
  refine sel_intro (fun c2 => ?_) (fun c2 => ?_)
  · rw [if_pos c2] at hK
    refine ⟨_, _, _, hb, ?_⟩
    refine ⟨_, _, _, gx, ?_⟩
    refine ⟨pb, [], 0, m, a, 0 + a, rfl, ea, ham, rfl, ?_⟩
    refine read1 (by exact d2) (by rw [Nat.zero_add]; exact rngN_at ham) ?_
    refine str_ok (((hbs a ham).keep (Keep.bump _ 8)).keep (Keep.bump _ 24)) (sOf_ok _) ?_
    refine ⟨_, _, _, gx, ?_⟩
    refine str_ok ((bv.keep (Keep.bump _ 8)).keep (Keep.bump _ 24)) (sOf_ok _) ?_
    refine sel_intro (fun c3 => ?_) (fun c3 => ?_)
    · have c3 : unlike (J.parts a) p.part = true := c3
      rw [if_pos c3] at hK
      exact ⟨_, rfl, rfl, _, rfl, rfl, _, rfl, rfl, hK ((h.bump 8).bump 24) .nils (Fr.refl S h).bump.bump ((j0.keep (Keep.bump _ _)).keep (Keep.bump _ _)) (.inl ⟨rfl, rfl⟩)⟩
    · have c3 : unlike (J.parts a) p.part = false := c3
      rw [if_neg (by rw [c3]; simp)] at hK
      refine ⟨_, _, _, hb, ?_⟩
      refine ⟨_, _, _, gx, ?_⟩
      refine ⟨gb, [], 0, m, a, 0 + a, rfl, ea, ham, rfl, ?_⟩
      refine read1 (by exact d1) (by rw [Nat.zero_add]; exact rngN_at ham) ?_
      refine sel_intro (fun c4 => ?_) (fun c4 => ?_)
      · exact ⟨_, rfl, rfl, _, rfl, rfl, _, rfl, rfl, hK (((h.bump 8).bump 24).bump 9) .nils (Fr.refl S h).bump.bump.bump (((j0.keep (Keep.bump _ _)).keep (Keep.bump _ _)).keep (Keep.bump _ _)) (.inl ⟨rfl, rfl⟩)⟩
      · exfalso; rw [c2] at c4; cases c4
  have c2 : J.got a = false := c2
  rw [if_neg (by rw [c2]; simp)] at hK
  refine ⟨_, _, _, hb, ?_⟩
  refine ⟨_, _, _, gx, ?_⟩
  refine ⟨gb, [], 0, m, a, 0 + a, rfl, ea, ham, rfl, ?_⟩
  refine read1 (by exact d1) (by rw [Nat.zero_add]; exact rngN_at ham) ?_
  refine sel_intro (fun c4 => ?_) (fun c4 => ?_)
  · exfalso; have c4 : J.got a = true := c4; rw [c2] at c4; cases c4
  refine ⟨_, _, _, hb, ?_⟩
  refine ⟨_, _, _, gx, ?_⟩
  refine ⟨p.part.length, bl, ?_⟩
  unfold Jn.Nums at hn
  refine ⟨J.bytes + p.part.length, i64_id (by omega) (by omega), ?_⟩
  have kb : Keep h ((((h.bump 8).bump 24).bump 9).bump 10) := (((Keep.bump h 8).trans (Keep.bump _ 24)).trans (Keep.bump _ 9)).trans (Keep.bump _ 10)
  refine sel_intro (fun c5 => ?_) (fun c5 => ?_)
  · have c5 : decide (J.bytes + p.part.length > 16384) = true := c5
    rw [if_pos (of_decide_eq_true c5)] at hK
    refine And.intro rfl ⟨_, _, _, hb, by decide, fun g2 u2 => ?_⟩
    refine And.intro rfl ⟨_, _, _, u2.at, by decide, fun g3 u3 => ?_⟩
    have F3 : Fr (fun c => c = b) h g3 := ((kb.fr (S := fun c => c = b)).upd u2 (.inl rfl)).upd u3 (.inl rfl)
    have j2 : IsJ g3 b S { J with done := true } := by
      refine ⟨j.sb, fun c hc => by have := j.lt c hc; have := F3.1; omega, fun c hc k xs hh => ?_, .nils, _, u3.at, fun _ hh => by cases hh⟩
      by_cases e : c = b
      · rw [e, u3.at] at hh; cases hh
      · rw [F3.2 c (j.lt c hc) e] at hh
        exact j.nb c hc k xs hh
    exact ⟨_, rfl, rfl, _, rfl, rfl, _, rfl, rfl, hK g3 .nils (F3.mono (fun c _ e => by rw [e]; exact j.sb)) j2 (.inl ⟨rfl, rfl⟩)⟩
  · have c5 : decide (J.bytes + p.part.length > 16384) = false := c5
    rw [if_neg (of_decide_eq_false c5)] at hK
    refine tail44 (j0.keep kb) ha1 ha2 hp hn hr (by omega) (by exact gx) (Nat.lt_of_lt_of_le lx kb.1) (bv.keep kb) ⟨rfl, rfl, trivial⟩ (fun g w F' j' b' => ?_)
    exact hK g w (kb.fr.trans F') j' b'
end Go.Dam.S

namespace Go.Dam.S
open Go Go.Dam
noncomputable def Jn.take (J : Jn) (p : Pc) : Ans × Jn :=
  if ¬ rightPc p then (⟨[], false, 1⟩, J)
  else if J.any = true ∧ (p.id < J.id ∨ p.id = J.id ∧ J.done = true) then (⟨[], false, 27⟩, J)
  else if J.any = false ∨ p.id > J.id then (Jn.begin p).take1 p
  else J.take1 p
def code44a : ACode := (.block 0 (.seq (.reg f44r1) (.cond (.t 9) (.seq (.reg f44r2) .ret) (.seq (.reg f44r3) (.cond (.t 12) (.seq (.reg f44r4) .ret) (.seq (.draw f44r5) (.cond (.t 16) (.seq (.reg f44r6) .ret) (.seq (.draw f44r7) (.cond (.t 45) (.reg f44r8) .skip)))))))))
set_option maxRecDepth 6000 in
theorem take_ok {b : Nat} {S : Nat → Prop} {J : Jn} {p : Pc} {v : AV} {h : H} (j : IsJ h b S J) (hp : JnP J) (hn : J.Nums) (bv : IsB h v p.bytes) {K : AV → H → Prop}
    (hK : ∀ g S' w, Fr S h g → IsJ g b S' (J.take p).2 → (∀ c, S' c → S c ∨ h.next ≤ c) → IsB g w ((J.take p).1.body.map byteV) → K (.tup [w, .bool (J.take p).1.done, .int .i64 (J.take p).1.e]) g) : Cw T 44 [.ptr b [0] 185, pcV p v] h K := by
  refine cw_w (ex44 _) fn44 ?_
  refine wp_cut 100 ?_
  refine And.intro rfl fun g1 m1 => ?_
  have n1 := m1.nx
  have k1 : Keep h g1 := (Keep.refl h).new m1 (Nat.le_refl _)
  have gx := m1.at
  have lb := j.lt _ j.sb
  obtain ⟨R, hR⟩ : ∃ R, J.take p = R := ⟨_, rfl⟩
  rw [hR] at hK
  unfold Jn.take at hR
  have stay : ∀ g e, Keep h g → (⟨[], false, e⟩, J) = R → K (.tup [.nils, .bool false, .int .i64 e]) g := by
    intro g e k he
    rw [← he] at hK
    exact hK g S .nils k.fr (j.keep k) (fun _ => .inl) (.inl ⟨rfl, rfl⟩)
  refine wp_cut (a := code44a) (b := code44b) 300 ?_
  unfold code44a
  refine ⟨_, _, _, gx, ?_⟩
  refine rightPc_ok (bv.keep k1) (fun g2 k2 => ?_)
  have K2 := k1.trans k2
  have n2 := k2.1
  have gx2 := k2.to gx (by omega)
  obtain ⟨pv, gv, hb, live⟩ := (j.keep K2).cell
  refine sel_intro (fun c1 => ?_) (fun c1 => ?_)
  · have c1 : (!decide (rightPc p)) = true := c1
    rw [if_pos (fun hh => by simp [hh] at c1)] at hR
    exact ⟨_, rfl, rfl, _, rfl, rfl, _, rfl, rfl, stay g2 1 K2 hR⟩
  have c1 : rightPc p := by have c1 : (!decide (rightPc p)) = false := c1; simpa using c1
  rw [if_neg (not_not_intro c1)] at hR
  have beg : J.any = false ∨ p.id > J.id → ¬ (J.any = true ∧ (p.id < J.id ∨ p.id = J.id ∧ J.done = true)) → ∀ g, Keep g2 g → ∀ {K' : AV → H → Prop}, (∀ g' S', Fr (fun c => c = b) g g' → IsJ g' b S' (Jn.begin p) → (∀ c, S' c → c = b ∨ g.next ≤ c) → K' (.tup []) g') → Cw T 90 [.ptr b [0] 185, pcV p v] g K' := by
    intro _ _ g kg K' hK'
    exact begin_ok (kg.to hb (by omega)) (by have := kg.1; omega) c1.1 c1.2.1 hK'
  have fin : J.any = false ∨ p.id > J.id → ¬ (J.any = true ∧ (p.id < J.id ∨ p.id = J.id ∧ J.done = true)) → ∀ g, Keep g2 g → ∀ g' S', Fr (fun c => c = b) g g' → IsJ g' b S' (Jn.begin p) → (∀ c, S' c → c = b ∨ g.next ≤ c) → ∀ {r : Env}, agree r [(0, .ptr b [0] 185), (3, .ptr h.next [0] 91)] → Wp T [.code code44b] r g' (RetQ f44 K) := by
    intro q1 q2 g kg g' S' F' j' hS r ha
    rw [if_neg q2, if_pos q1] at hR
    have := kg.1
    have Kg := K2.trans kg
    have f := F'.1
    refine take1_ok (J := Jn.begin p) (S := S') j' rfl rfl (fun _ => Nat.zero_le _) ⟨Int.le_refl 0, (by show (0 : Int) ≤ 16384; decide), Int.le_refl 0, (by show (0 : Int) ≤ 1000000; decide)⟩ c1 (F'.to (kg.to gx2 (by omega)) (by omega) (by omega)) (by omega) ((bv.keep Kg).fr F' (fun c e k xs hh => by rw [e, kg.to hb (by omega)] at hh; cases hh)) ha (fun gg w F2 j2 b2 => ?_)
    rw [hR] at j2 b2 ⊢
    refine hK gg S' w ?_ j2 (fun c hc => ?_) b2
    · refine ((Kg.fr (S := S)).then F' (fun c _ e => by rw [e]; exact j.sb)).then F2 (fun c hc hs => ?_)
      rcases hS c hs with e | e
      · rw [e]; exact j.sb
      · have := Kg.1; omega
    · rcases hS c hc with e | e
      · left; rw [e]; exact j.sb
      · right; have := Kg.1; omega
  have cont : J.any = true → ¬ (p.id > J.id) → J.done = false → ¬ (p.id < J.id) → ∀ g, Keep g2 g → ∀ {r : Env}, agree r [(0, .ptr b [0] 185), (3, .ptr h.next [0] 91)] → Wp T [.code code44b] r g (RetQ f44 K) := by
    intro q1 q2 q3 q4 g kg r ha
    have e1 : ¬ (J.any = true ∧ (p.id < J.id ∨ p.id = J.id ∧ J.done = true)) := fun hh => by
      rcases hh.2 with q | q
      · exact q4 q
      · rw [q.2] at q3; cases q3
    have e2 : ¬ (J.any = false ∨ p.id > J.id) := fun hh => by
      rcases hh with q | q
      · rw [q] at q1; cases q1
      · exact q2 q
    rw [if_neg e1, if_neg e2] at hR
    have Kg := K2.trans kg
    have := kg.1
    refine take1_ok (j.keep Kg) q1 q3 hp hn c1 (kg.to gx2 (by omega)) (by omega) (bv.keep Kg) ha (fun gg w F2 j2 b2 => ?_)
    rw [hR] at j2 b2 ⊢
    exact hK gg S w ((Kg.fr (S := S)).trans F2) j2 (fun _ => .inl) b2
  have kb : Keep g2 (g2.bump 29) := Keep.bump _ _
  have kb2 : Keep g2 ((g2.bump 29).bump 15) := kb.trans (Keep.bump _ _)
  refine ⟨_, _, _, hb, ?_⟩
  refine sel_intro (fun c2 => ?_) (fun c2 => ?_)
  · have c2 : J.any = true := c2
    refine ⟨_, _, _, gx2, ?_⟩
    refine ⟨_, _, _, hb, ?_⟩
    refine sel_intro (fun c3 => ?_) (fun c3 => ?_)
    · have c3 : decide (p.id < J.id) = true := c3
      rw [if_pos ⟨c2, .inl (of_decide_eq_true c3)⟩] at hR
      exact ⟨_, rfl, rfl, _, rfl, rfl, _, rfl, rfl, stay _ 27 (K2.trans kb) hR⟩
    have c3 : decide (p.id < J.id) = false := c3
    have c3 := of_decide_eq_false c3
    refine ⟨_, _, _, gx2, ?_⟩
    refine ⟨_, _, _, hb, ?_⟩
    refine sel_intro (fun c4 => ?_) (fun c4 => ?_)
    · have c4 : (p.id == J.id) = true := c4
      have c4 : p.id = J.id := by simpa using c4
      refine ⟨_, _, _, hb, ?_⟩
      refine sel_intro (fun c5 => ?_) (fun c5 => ?_)
      · have c5 : J.done = true := c5
        rw [if_pos ⟨c2, .inr ⟨c4, c5⟩⟩] at hR
        exact ⟨_, rfl, rfl, _, rfl, rfl, _, rfl, rfl, stay _ 27 (K2.trans kb) hR⟩
      have c5 : J.done = false := c5
      refine ⟨_, _, _, hb, ?_⟩
      refine sel_intro (fun c6 => ?_) (fun c6 => ?_)
      · exfalso; have c6 : (!J.any) = true := c6; rw [c2] at c6; cases c6
      refine ⟨_, _, _, gx2, ?_⟩
      refine ⟨_, _, _, hb, ?_⟩
      refine sel_intro (fun c7 => ?_) (fun c7 => ?_)
      · exfalso; have c7 : decide (p.id > J.id) = true := c7; have := of_decide_eq_true c7; omega
      · exact cont c2 (by omega) c5 c3 _ kb2 ⟨rfl, rfl, trivial⟩
    · have c4 : (p.id == J.id) = false := c4
      have c4 : ¬ p.id = J.id := by simpa using c4
      refine ⟨_, _, _, hb, ?_⟩
      refine sel_intro (fun c6 => ?_) (fun c6 => ?_)
      · exfalso; have c6 : (!J.any) = true := c6; rw [c2] at c6; cases c6
      refine ⟨_, _, _, gx2, ?_⟩
      refine ⟨_, _, _, hb, ?_⟩
      have hgt : p.id > J.id := by omega
      have hno : ¬ (J.any = true ∧ (p.id < J.id ∨ p.id = J.id ∧ J.done = true)) := fun hh => by
        rcases hh.2 with q | q
        · omega
        · exact c4 q.1
      refine sel_intro (fun c7 => ?_) (fun c7 => ?_)
      · refine ⟨_, _, _, gx2, ?_⟩
        refine beg (.inr hgt) hno _ kb2 (fun g' S' F' j' hS => ?_)
        exact fin (.inr hgt) hno _ kb2 g' S' F' j' hS ⟨rfl, rfl, trivial⟩
      · exfalso; have c7 : decide (p.id > J.id) = false := c7; exact (of_decide_eq_false c7) hgt
  · have c2 : J.any = false := c2
    have hno : ¬ (J.any = true ∧ (p.id < J.id ∨ p.id = J.id ∧ J.done = true)) := fun hh => by rw [hh.1] at c2; cases c2
    refine ⟨_, _, _, hb, ?_⟩
    refine sel_intro (fun c6 => ?_) (fun c6 => ?_)
    · refine ⟨_, _, _, gx2, ?_⟩
      refine beg (.inl c2) hno _ kb2 (fun g' S' F' j' hS => ?_)
      exact fin (.inl c2) hno _ kb2 g' S' F' j' hS ⟨rfl, rfl, trivial⟩
    · exfalso; have c6 : (!J.any) = false := c6; rw [c2] at c6; cases c6
end Go.Dam.S
