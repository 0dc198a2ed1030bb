/- SECTORS DON'T KNOW OF EACH OTHER: the walks of the device's functions. No conditions. -/
import Derived.Test.YtoipeoafcjjaeaaCode
import Derived.Test.YtoipeoafcjjaeaaDamD
namespace Go.Dam.S
open Go Go.Dam
/-- a device: its sectors, the writes that wait, how many steps were done -/
structure St where
  sure : List (List AV)
  queue : List (Nat × List AV)
  steps : Nat
def sec (xs : List AV) : AV := .agg 47 xs
def wr (w : Nat × List AV) : AV := .agg 173 [.int .i64 w.1, sec w.2]
def qv : Option Nat → Nat → AV
  | none, _ => .nils
  | some c, n => .slice c [] 0 n 173
def slB (bs : Nat) (q : Option Nat) (S : St) : Blk := .row .fixed 171 [.agg 171 [.slice bs [] 0 S.sure.length 47, qv q S.queue.length, .int .i64 (-1), .bool false, .int .i64 S.steps]]
def QOK (h : H) (S : St) : Option Nat → Prop
  | none => S.queue = []
  | some c => S.queue ≠ [] ∧ c < h.next ∧ h.get c = some (.row .grow 173 (S.queue.map wr))
structure Sl (h : H) (b bs : Nat) (q : Option Nat) (S : St) : Prop where
  hb : h.get b = some (slB bs q S)
  hs : h.get bs = some (.row .fixed 47 (S.sure.map sec))
  hq : QOK h S q
  lb : b < h.next
  ls : bs < h.next
  ne : b ≠ bs
  wf : ∀ w ∈ S.queue, w.1 < S.sure.length
  qs : S.queue.length ≤ S.steps
/-- what a device may turn -/
def Own (b bs : Nat) (q : Option Nat) (c : Nat) : Prop := c = b ∨ c = bs ∨ q = some c

theorem up_ok {h : H} {b bs : Nat} {q : Option Nat} {S : St} (s : Sl h b bs q S) {K : AV → H → Prop} (hK : K (.int .i64 0) h) : Cw T 81 [.ptr b [0] 171] h K := by
  refine cw_q 100 (ex81 _) fn81 ?_
  refine ⟨_, _, _, s.hb, ?_⟩
  exact ⟨_, rfl, rfl, hK⟩
theorem power_ok {h : H} {b bs : Nat} {q : Option Nat} {S : St} (s : Sl h b bs q S) (hst : S.steps < 1000000) {K : AV → H → Prop} (hK : ∀ h', Upd h b (slB bs q { S with steps := S.steps + 1 }) h' → K (.bool true) h') : Cw T 82 [.ptr b [0] 171] h K := by
  refine cw_q 100 (ex82 _) fn82 ?_
  refine ⟨_, _, _, s.hb, ?_⟩
  refine ⟨_, _, _, s.hb, ?_⟩
  refine ⟨_, _, _, s.hb, ?_⟩
  refine ⟨((S.steps + 1 : Nat) : Int), by rw [i64_id (by omega) (by omega)]; rfl, ?_⟩
  refine And.intro rfl ⟨_, _, _, s.hb, by decide, fun g1 u1 => ?_⟩
  exact ⟨_, rfl, rfl, hK g1 u1⟩
theorem loose_ok {h : H} {b bs : Nat} {q : Option Nat} {S : St} (s : Sl h b bs q S) {K : AV → H → Prop} (hK : K (.int .i64 S.queue.length) h) : Cw T 23 [.ptr b [0] 171] h K := by
  refine cw_q 100 (ex23 _) fn23 ?_
  refine ⟨_, _, _, s.hb, ?_⟩
  refine ⟨S.queue.length, ?_, ?_⟩
  · have := s.hq
    cases q with
    | none => rw [show S.queue = [] from this]; exact lenIs_nils
    | some c => exact lenIs_slice
  exact ⟨_, rfl, rfl, hK⟩
theorem steps_ok {h : H} {b bs : Nat} {q : Option Nat} {S : St} (s : Sl h b bs q S) {K : AV → H → Prop} (hK : K (.int .i64 S.steps) h) : Cw T 24 [.ptr b [0] 171] h K := by
  refine cw_q 100 (ex24 _) fn24 ?_
  refine ⟨_, _, _, s.hb, ?_⟩
  exact ⟨_, rfl, rfl, hK⟩
theorem sectors_ok {h : H} {b bs : Nat} {q : Option Nat} {S : St} (s : Sl h b bs q S) {K : AV → H → Prop} (hK : K (.int .i64 S.sure.length) h) : Cw T 25 [.ptr b [0] 171] h K := by
  refine cw_q 100 (ex25 _) fn25 ?_
  refine ⟨_, _, _, s.hb, ?_⟩
  refine ⟨_, lenIs_slice, ?_⟩
  exact ⟨_, rfl, rfl, hK⟩
def zsec : List AV := List.replicate 64 (.int .u8 0)
theorem snew_ok {n : Int} {h : H} {K : AV → H → Prop} (h0 : n < 1 ∨ n > 4096 → K (.tup [.nilp, .int .i64 1]) h)
    (h1 : ∀ m : Nat, n = m → 1 ≤ m → m ≤ 4096 → ∀ h' b bs, Keep h h' → h.next ≤ b → h.next ≤ bs → Sl h' b bs none ⟨List.replicate m zsec, [], 0⟩ → K (.tup [.ptr b [0] 171, .int .i64 0]) h') : Cw T 17 [.int .i64 n] h K := by
  refine cw_q 100 (ex17 _) fn17 ?_
  refine sel_intro (fun c1 => ?_) (fun c1 => ?_)
  · exact ⟨_, rfl, rfl, _, rfl, rfl, h0 (.inl (by simpa using c1))⟩
  refine sel_intro (fun c2 => ?_) (fun c2 => ?_)
  · exact ⟨_, rfl, rfl, _, rfl, rfl, h0 (.inr (by simpa using c2))⟩
  simp only [decide_eq_false_iff_not] at c1 c2
  obtain ⟨m, rfl⟩ : ∃ m : Nat, n = m := ⟨n.toNat, by omega⟩
  refine ⟨m, m, rfl, rfl, Nat.le_refl _, by omega, fun g1 m1 => ?_⟩
  have q1 := m1.nx
  refine And.intro rfl fun g2 m2 => ?_
  have q2 := m2.nx
  have k2 : Keep h g2 := ((Keep.refl h).new m1 (Nat.le_refl _)).new m2 (by omega)
  refine ⟨_, rfl, rfl, _, rfl, rfl, h1 m rfl (by omega) (by omega) g2 g1.next h.next k2 (by omega) (by omega) ⟨?_, ?_, rfl, by omega, by omega, by omega, by simp, by simp⟩⟩
  · have := m2.at
    simp only [slB, qv, List.length_replicate]
    exact this
  · have := m2.ne m1.at (by omega)
    rw [this]
    simp only [List.map_replicate]
    rfl

/-! ### writes -/
def St.write (S : St) (at_ : Nat) (to : List AV) : St := ⟨S.sure, S.queue ++ [(at_, to)], S.steps + 1⟩
theorem write_ok {h : H} {b bs : Nat} {q : Option Nat} {S : St} (s : Sl h b bs q S) (hst : S.steps < 1000000) {at_ : Int} {to : List AV} {K : AV → H → Prop}
    (h0 : at_ < 0 ∨ at_ ≥ S.sure.length → ∀ h', Keep h h' → Sl h' b bs q S → K (.int .i64 1) h')
    (h1 : ∀ m : Nat, at_ = m → m < S.sure.length → ∀ h' q', Fr (Own b bs q) h h' → (∀ c, q' = some c → h.next ≤ c) → Sl h' b bs q' (S.write m to) → K (.int .i64 0) h') :
    Cw T 20 [.ptr b [0] 171, .int .i64 at_, sec to] h K := by
  refine cw_q 200 (ex20 _) fn20 ?_
  refine And.intro rfl fun g1 m1 => ?_
  have k1 : Keep h g1 := (Keep.refl h).new m1 (Nat.le_refl _)
  have q1 := m1.nx
  have s1 : Sl g1 b bs q S := by
    refine ⟨k1.to s.hb s.lb, k1.to s.hs s.ls, ?_, by have := s.lb; omega, by have := s.ls; omega, s.ne, s.wf, s.qs⟩
    have := s.hq
    cases q with
    | none => exact this
    | some c => exact ⟨this.1, by have := this.2.1; omega, k1.to this.2.2 this.2.1⟩
  refine up_ok s1 ?_
  refine sel_intro (fun c1 => ?_) (fun c1 => ?_)
  · exact ⟨_, rfl, rfl, h0 (.inl (by simpa using c1)) g1 k1 s1⟩
  refine ⟨_, _, _, s1.hb, ?_⟩
  refine ⟨_, lenIs_slice, ?_⟩
  refine sel_intro (fun c2 => ?_) (fun c2 => ?_)
  · exact ⟨_, rfl, rfl, h0 (.inr (by simpa using c2)) g1 k1 s1⟩
  simp only [decide_eq_false_iff_not] at c1 c2
  obtain ⟨m, rfl⟩ : ∃ m : Nat, at_ = m := ⟨at_.toNat, by omega⟩
  have hm : m < S.sure.length := by omega
  refine power_ok s1 hst (fun g2 u2 => ?_)
  have lb := s.lb
  have ls := s.ls
  have a2 := u2.at
  have p2 := u2.ne m1.at (by omega)
  have n2 : g2.next = g1.next := u2.next
  have bs2 := u2.ne (k1.to s.hs ls) (Ne.symm s.ne)
  refine ⟨_, _, _, a2, ?_⟩
  refine ⟨_, _, _, p2, ?_⟩
  refine fun g3 m3 => ?_
  have F3 : Fr (Own b bs q) h g3 := ((((k1.fr).upd u2 (.inl (.inl rfl))).bump).new m3 (by show h.next ≤ g2.next + 8; omega))
  have e3 : Src 173 false g3 (.slice (g2.next + 8) [] 0 1 173) [wr (m, to)] := src_all m3.at
  have n3 : g3.next = g2.next + 13 := by
    rw [m3.next]
    show (if g2.next + 8 = g2.next + 13 then _ else g2.next + 13) = _
    split <;> omega
  have a3 : g3.get b = some (slB bs q { S with steps := S.steps + 1 }) := m3.ne a2 (by omega)
  have bs3 : g3.get bs = some (.row .fixed 47 (S.sure.map sec)) := m3.ne bs2 (by omega)
  -- the append itself, and the store of its slice
  have fin : ∀ g4 c, Fr (Own b bs q) h g4 → g3.next ≤ c → c < g4.next → g4.get b = some (slB bs q { S with steps := S.steps + 1 }) → g4.get bs = some (.row .fixed 47 (S.sure.map sec)) → g4.get c = some (.row .grow 173 ((S.queue ++ [(m, to)]).map wr)) →
      ∀ g5, Upd g4 b (slB bs (some c) (S.write m to)) g5 → K (.int .i64 0) g5 := by
    intro g4 c F4 hc hc2 a4 b4 c4 g5 u5
    refine h1 m rfl hm g5 (some c) (F4.upd u5 (.inl (.inl rfl))) (fun c' hc' => by cases hc'; omega) ⟨u5.at, u5.ne b4 (Ne.symm s.ne), ⟨by simp [St.write], by rw [u5.next]; exact hc2, u5.ne c4 (by omega)⟩, by rw [u5.next]; omega, by rw [u5.next]; omega, s.ne, ?_, ?_⟩
    · intro w hw
      simp only [St.write, List.mem_append, List.mem_singleton] at hw ⊢
      rcases hw with hw | rfl
      · exact s.wf w hw
      · exact hm
    · have := s.qs
      simp only [St.write, List.length_append, List.length_singleton]
      omega
  have hq := s.hq
  have hqs := s.qs
  cases q with
  | none =>
    have hq : S.queue = [] := hq
    refine app_nil e3 (by simp) (by simp) (fun g4 m4 => ?_)
    have n4 := m4.nx
    refine And.intro rfl ⟨_, _, _, m4.ne a3 (by omega), by decide, fun g5 u5 => ?_⟩
    refine ⟨_, rfl, rfl, fin g4 g3.next (F3.new m4 (by omega)) (Nat.le_refl _) (by omega) (m4.ne a3 (by omega)) (m4.ne bs3 (by omega)) ?_ g5 ?_⟩
    · rw [hq]; exact m4.at
    · simp only [slB, qv, St.write, hq]; exact u5
  | some c =>
    obtain ⟨hne, hc, hcq⟩ := hq
    have c1 : c ≠ b := fun e => by subst e; rw [s.hb] at hcq; cases hcq
    have c2 : c ≠ bs := fun e => by subst e; rw [s.hs] at hcq; cases hcq
    have c3 := m3.ne (u2.ne (k1.to hcq hc) c1) (by omega)
    refine app_grow e3 c3 (by omega) (n := S.queue.length) (off := 0) (by simp) rfl (by simp) (by simp; omega) (fun g4 m4 => ?_)
    have n4 := m4.next
    refine And.intro rfl ⟨_, _, _, m4.ne a3 (by omega) (Ne.symm c1), by decide, fun g5 u5 => ?_⟩
    refine ⟨_, rfl, rfl, fin g4 g3.next (F3.mov m4 (.inl (.inr (.inr rfl)))) (Nat.le_refl _) (by omega) (m4.ne a3 (by omega) (Ne.symm c1)) (m4.ne bs3 (by omega) (Ne.symm c2)) ?_ g5 ?_⟩
    · rw [m4.at, List.drop_zero, List.take_of_length_le (by simp), List.map_append]
      rfl
    · simp only [slB, qv, St.write, List.length_append, List.length_singleton]; exact u5

/-! ### a flush -/
def flushL (sure : List (List AV)) (q : List (Nat × List AV)) : List (List AV) := q.foldl (fun s w => s.set w.1 w.2) sure
def St.flush (S : St) : St := ⟨flushL S.sure S.queue, [], S.steps + 1⟩
theorem flushL_length (sure : List (List AV)) : ∀ (q : List (Nat × List AV)), (flushL sure q).length = sure.length := by
  intro q
  unfold flushL
  induction q generalizing sure with
  | nil => rfl
  | cons w q ih => rw [List.foldl_cons, ih]; simp
theorem flushL_step (sure : List (List AV)) (q : List (Nat × List AV)) {i : Nat} (hi : i < q.length) : flushL sure (q.take (i + 1)) = (flushL sure (q.take i)).set q[i].1 q[i].2 := by
  unfold flushL
  rw [List.take_succ_eq_append_getElem hi, List.foldl_append]
  rfl
def body19 : ACode := (.seq (.reg f19r7) (.seq (.cond (.t 20) .skip (.exit 0)) (.seq (.block 1 (.seq (.reg f19r8) (.draw f19r9))) (.reg f19r10))))
/-- the rows that a flush goes through -/
structure Fl (h : H) (b bs : Nat) (q : Option Nat) (S : St) (i : Nat) : Prop where
  hb : h.get b = some (slB bs q S)
  hs : h.get bs = some (.row .fixed 47 ((flushL S.sure (S.queue.take i)).map sec))
  lb : b < h.next
  ls : bs < h.next
theorem loop19 {b bs : Nat} {q : Option Nat} {S : St} (hne : b ≠ bs) (hwf : ∀ w ∈ S.queue, w.1 < S.sure.length) (hlen : S.queue.length < 1000000) {h0 : H} (hq : QOK h0 S q) (hcb : q ≠ some b) (hcs : q ≠ some bs) {k : List Item} {Q : Env → H → Prop}
    (hk : ∀ r h, agree r [(0, .ptr b [0] 171)] → Fr (fun c => c = bs) h0 h → Fl h b bs q S S.queue.length → Wp T k r h Q) :
    ∀ (d i : Nat) (r : Env) (h : H), i + d = S.queue.length → agree r [(0, .ptr b [0] 171), (17, qv q S.queue.length), (18, .int .i64 S.queue.length), (19, .int .i64 i)] → Fr (fun c => c = bs) h0 h → Fl h b bs q S i →
      Wp T (.inLoop body19 :: .inBlock 0 :: k) r h Q := by
  intro d
  induction d with
  | zero =>
    intro i r h hi ha F f
    refine wp_inLoop (wp_q (items := [.code body19, .inLoop body19, .inBlock 0]) 50 ha ?_)
    unfold body19
    refine sel_intro (fun c1 => ?_) (fun c1 => ?_)
    · exfalso; simp at c1; omega
    · refine hk _ _ ⟨rfl, trivial⟩ F ?_
      rw [show S.queue.length = i by omega]
      exact f
  | succ d ih =>
    intro i r h hi ha F f
    refine wp_inLoop (wp_q (items := [.code body19, .inLoop body19, .inBlock 0]) 100 ha ?_)
    unfold body19
    refine sel_intro (fun c1 => ?_) (fun c1 => ?_)
    · have hil : i < S.queue.length := by omega
      cases q with
      | none => rw [show S.queue = [] from hq] at hil; simp at hil
      | some c =>
        obtain ⟨_, hc, hcq⟩ := hq
        have hcs : c ≠ bs := fun e => hcs (by rw [e])
        have gc := F.to hcq hc hcs
        have q0 := F.1
        refine ⟨c, [], 0, S.queue.length, i, i, rfl, rfl, hil, by omega, ?_⟩
        refine read1 gc (v := wr S.queue[i]) (by simp [hil]) ?_
        have hw := hwf S.queue[i] (List.getElem_mem hil)
        refine fun g1 m1 => ?_
        have p1 := m1.at
        refine And.intro rfl ⟨_, _, _, p1, by decide, fun g2 u2 => ?_⟩
        have n1 := m1.nx
        have n2 : g2.next = g1.next := u2.next
        have lb := f.lb
        have ls := f.ls
        have b2 := u2.ne (m1.ne f.hb (by omega)) (by omega)
        have s2 := u2.ne (m1.ne f.hs (by omega)) (by omega)
        refine ⟨_, _, _, b2, ?_⟩
        refine ⟨_, _, _, u2.at, ?_⟩
        refine ⟨_, _, _, u2.at, ?_⟩
        refine ⟨bs, [], 0, S.sure.length, S.queue[i].1, S.queue[i].1, rfl, rfl, hw, by omega, ?_⟩
        refine And.intro rfl (write1 (by exact s2) (by decide) (by rw [List.length_map, flushL_length]; exact hw) fun g3 u3 => ?_)
        have n3 : g3.next = g2.next + 10 := u3.next
        refine ⟨((i + 1 : Nat) : Int), by rw [i64_id (by omega) (by omega)]; rfl, ?_⟩
        refine ih (i + 1) _ _ (by omega) ⟨rfl, rfl, rfl, rfl, trivial⟩ ((((F.new m1 (by omega)).upd u2 (.inr (by omega))).bump).upd u3 (.inl rfl)) ⟨u3.ne b2 hne, ?_, by omega, by omega⟩
        rw [u3.at, flushL_step _ _ hil, List.map_set]
    · exfalso; simp at c1; omega
theorem flush_ok {h : H} {b bs : Nat} {q : Option Nat} {S : St} (s : Sl h b bs q S) (hst : S.steps < 1000000) {K : AV → H → Prop}
    (hK : ∀ h', Fr (Own b bs q) h h' → Sl h' b bs none S.flush → K (.int .i64 0) h') : Cw T 19 [.ptr b [0] 171] h K := by
  refine cw_q 200 (ex19 _) fn19 ?_
  refine up_ok s ?_
  refine power_ok s hst (fun g1 u1 => ?_)
  have n1 : g1.next = h.next := u1.next
  have lb := s.lb
  have ls := s.ls
  have hqs := s.qs
  refine ⟨_, _, _, u1.at, ?_⟩
  have hcb : q ≠ some b := fun e => by
    have := s.hq
    rw [e] at this
    have := this.2.2
    rw [s.hb] at this
    cases this
  have hcs : q ≠ some bs := fun e => by
    have := s.hq
    rw [e] at this
    have := this.2.2
    rw [s.hs] at this
    cases this
  have hq1 : QOK g1 { S with steps := S.steps + 1 } q := by
    have := s.hq
    cases q with
    | none => exact this
    | some c => exact ⟨this.1, by have := this.2.1; omega, u1.ne this.2.2 (fun e => hcb (by rw [e]))⟩
  refine ⟨S.queue.length, ?_, ?_⟩
  · have := s.hq
    cases q with
    | none => rw [show S.queue = [] from this]; exact lenIs_nils
    | some c => exact lenIs_slice
  refine wp_loop_of (loop19 (S := { S with steps := S.steps + 1 }) s.ne s.wf (by show S.queue.length < _; omega) hq1 hcb hcs (fun r g2 ha F f => ?_) S.queue.length 0 _ _ (by show _ = S.queue.length; omega) ⟨rfl, rfl, rfl, rfl, trivial⟩ (Fr.refl _ _) ⟨u1.at, ?_, by omega, by omega⟩)
  · refine wp_q (items := [.code (.seq (.reg f19r11) (.seq (.reg f19r12) .ret))]) 50 ha ?_
    have e : flushL S.sure (S.queue.take S.queue.length) = flushL S.sure S.queue := by rw [List.take_length]
    have q2 := F.1
    refine And.intro rfl ⟨_, _, _, f.hb, by decide, fun g3 u3 => ?_⟩
    have n3 : g3.next = g2.next := u3.next
    have F1 : Fr (Own b bs q) h g1 := (Fr.refl _ _).upd u1 (.inl (.inl rfl))
    refine ⟨_, rfl, rfl, hK g3 ((F1.then F (fun c _ e => .inr (.inl e))).upd u3 (.inl (.inl rfl))) ⟨?_, ?_, rfl, by omega, by omega, s.ne, by simp [St.flush], by simp [St.flush]⟩⟩
    · have := u3.at
      simp only [slB, qv, St.flush, flushL_length]
      exact this
    · have := u3.ne f.hs (Ne.symm s.ne)
      rw [this]
      show some (Blk.row .fixed 47 ((flushL S.sure (S.queue.take S.queue.length)).map sec)) = _
      rw [e]
      rfl
  · have := u1.ne s.hs (Ne.symm s.ne)
    rw [this]
    rfl

/-! ### a read -/
def lookL (i : Nat) (q : List (Nat × List AV)) : Option (List AV) := q.foldl (fun a w => if w.1 = i then some w.2 else a) none
theorem lookL_step (i : Nat) (q : List (Nat × List AV)) {n : Nat} (hn : n < q.length) : lookL i (q.take (n + 1)) = if q[n].1 = i then some q[n].2 else lookL i (q.take n) := by
  unfold lookL
  rw [List.take_succ_eq_append_getElem hn, List.foldl_append]
  rfl
def St.look (S : St) (i : Nat) : List AV := match lookL i S.queue with
  | some v => v
  | none => S.sure.getD i []
def body22 : ACode := (.seq (.seq (.reg f22r7) (.cond (.t 33) .skip (.exit 0))) (.seq (.block 1 (.seq (.reg f22r8) (.cond (.t 45) (.seq (.reg f22r9) .ret) .skip))) (.reg f22r10)))
theorem loop22 {b bs p at_ : Nat} {q : Option Nat} {S : St} (hlen : S.queue.length < 1000000) {h0 h : H} (k0 : Keep h0 h) (hp0 : h0.next ≤ p) {z : AV} (hpb : h.get p = some (.row .fixed 47 [z])) (hb : h.get b = some (slB bs q S)) (hs : h.get bs = some (.row .fixed 47 (S.sure.map sec))) (hq : QOK h S q) (hqn : q ≠ some p) (hat : at_ < S.sure.length)
    {K : AV → H → Prop} (hK : ∀ h', Keep h0 h' → K (.tup [sec (S.look at_), .int .i64 0]) h') :
    ∀ (n : Nat) (r : Env), n ≤ S.queue.length → agree r [(0, .ptr b [0] 171), (1, .int .i64 at_), (4, .ptr p [0] 47), (7, .int .i64 ((n : Int) - 1))] → lookL at_ (S.queue.take n) = lookL at_ S.queue →
      Wp T [.inLoop body22, .inBlock 0, .code (.seq (.reg f22r11) .ret)] r h (RetQ f22 K) := by
  intro n
  induction n with
  | zero =>
    intro r hn ha he
    refine wp_inLoop (wp_q (k0 := []) (items := [.code body22, .inLoop body22, .inBlock 0, .code (.seq (.reg f22r11) .ret)]) 100 ha ?_)
    unfold body22
    · refine ⟨_, _, _, hb, ?_⟩
      refine ⟨bs, [], 0, S.sure.length, at_, at_, rfl, rfl, hat, by omega, ?_⟩
      refine read1 hs (v := sec S.sure[at_]) (by simp [hat]) ?_
      refine And.intro rfl ⟨_, _, _, hpb, by decide, fun g1 u1 => ?_⟩
      have e : S.look at_ = S.sure[at_] := by
        unfold St.look
        rw [← he]
        simp [lookL, hat]
      rw [e] at hK
      exact ⟨_, _, _, rfl, read_of u1.at rfl, _, rfl, rfl, hK g1 (k0.upd u1 hp0)⟩
  | succ n ih =>
    intro r hn ha he
    refine wp_inLoop (wp_q (k0 := []) (items := [.code body22, .inLoop body22, .inBlock 0, .code (.seq (.reg f22r11) .ret)]) 100 ha ?_)
    unfold body22
    have e7 : ((n + 1 : Nat) : Int) - 1 = n := by omega
    rw [e7]
    · have hil : n < S.queue.length := by omega
      rw [lookL_step _ _ hil] at he
      refine ⟨_, _, _, hb, ?_⟩
      cases q with
      | none => rw [show S.queue = [] from hq] at hil; simp at hil
      | some c =>
        obtain ⟨_, hc, hcq⟩ := hq
        have hcp : c ≠ p := fun e => hqn (by rw [e])
        refine ⟨c, [], 0, S.queue.length, n, n, rfl, rfl, hil, by omega, ?_⟩
        refine readP hcq (v := .int .i64 S.queue[n].1) (at_cons (xs := [.int .i64 S.queue[n].1, sec S.queue[n].2]) (t := 173) (at1 (by simp [hil, wr])) rfl) ?_
        refine sel_intro (fun c2 => ?_) (fun c2 => ?_)
        · have c2 : S.queue[n].1 = at_ := by
            have : (S.queue[n].1 : Int) = at_ := by simpa using c2
            omega
          rw [if_pos c2] at he
          refine ⟨_, _, _, hb, ?_⟩
          refine ⟨c, [], 0, S.queue.length, n, n, rfl, rfl, hil, by omega, ?_⟩
          refine readP hcq (v := sec S.queue[n].2) (at_cons (xs := [.int .i64 S.queue[n].1, sec S.queue[n].2]) (t := 173) (at1 (by simp [hil, wr])) rfl) ?_
          refine And.intro rfl ⟨_, _, _, hpb, by decide, fun g1 u1 => ?_⟩
          have e : S.look at_ = S.queue[n].2 := by
            unfold St.look
            rw [← he]
          rw [e] at hK
          exact ⟨_, _, _, rfl, read_of u1.at rfl, _, rfl, rfl, hK g1 (k0.upd u1 hp0)⟩
        · have c2 : S.queue[n].1 ≠ at_ := fun e => by rw [e] at c2; simp at c2
          rw [if_neg c2] at he
          refine ⟨(n : Int) - 1, i64_id (by omega) (by omega), ?_⟩
          exact ih _ (by omega) ⟨rfl, rfl, rfl, rfl, trivial⟩ he
theorem read_ok {h : H} {b bs : Nat} {q : Option Nat} {S : St} (s : Sl h b bs q S) (hst : S.steps < 1000000) {at_ : Int} {K : AV → H → Prop}
    (h0 : at_ < 0 ∨ at_ ≥ S.sure.length → ∀ h', Keep h h' → K (.tup [sec zsec, .int .i64 1]) h')
    (h1 : ∀ m : Nat, at_ = m → m < S.sure.length → ∀ h', Keep h h' → K (.tup [sec (S.look m), .int .i64 0]) h') : Cw T 22 [.ptr b [0] 171, .int .i64 at_] h K := by
  refine cw_q 200 (ex22 _) fn22 ?_
  refine fun g1 m1 => ?_
  have k1 : Keep h g1 := (Keep.refl h).new m1 (Nat.le_refl _)
  have q1 := m1.nx
  have lb := s.lb
  have ls := s.ls
  have hqs := s.qs
  have hq1 : QOK g1 S q := by
    have := s.hq
    cases q with
    | none => exact this
    | some c => exact ⟨this.1, by have := this.2.1; omega, k1.to this.2.2 this.2.1⟩
  have s1 : Sl g1 b bs q S := ⟨k1.to s.hb s.lb, k1.to s.hs s.ls, hq1, by omega, by omega, s.ne, s.wf, s.qs⟩
  refine up_ok s1 ?_
  refine sel_intro (fun c1 => ?_) (fun c1 => ?_)
  · refine And.intro rfl ⟨_, _, _, m1.at, by decide, fun g2 u2 => ?_⟩
    exact ⟨_, _, _, rfl, read_of u2.at rfl, _, rfl, rfl, h0 (.inl (by simpa using c1)) g2 (k1.upd u2 (Nat.le_refl _))⟩
  refine ⟨_, _, _, s1.hb, ?_⟩
  refine ⟨_, lenIs_slice, ?_⟩
  refine sel_intro (fun c2 => ?_) (fun c2 => ?_)
  · refine And.intro rfl ⟨_, _, _, m1.at, by decide, fun g2 u2 => ?_⟩
    exact ⟨_, _, _, rfl, read_of u2.at rfl, _, rfl, rfl, h0 (.inr (by simpa using c2)) g2 (k1.upd u2 (Nat.le_refl _))⟩
  simp only [decide_eq_false_iff_not] at c1 c2
  obtain ⟨m, rfl⟩ : ∃ m : Nat, at_ = m := ⟨at_.toNat, by omega⟩
  refine ⟨_, _, _, s1.hb, ?_⟩
  refine ⟨S.queue.length, ?_, ?_⟩
  · have := s.hq
    cases q with
    | none => rw [show S.queue = [] from this]; exact lenIs_nils
    | some c => exact lenIs_slice
  refine ⟨(S.queue.length : Int) - 1, i64_id (by omega) (by omega), ?_⟩
  refine wp_loop_of (loop22 (by omega) k1 (Nat.le_refl _) m1.at s1.hb s1.hs hq1 (fun e => ?_) (by omega) (h1 m rfl (by omega)) S.queue.length _ (Nat.le_refl _) ⟨rfl, rfl, rfl, rfl, trivial⟩ (by rw [List.take_length]))
  have := s.hq
  rw [e] at this
  have := this.2.1
  omega

/-! ### a crash that keeps nothing -/
def St.crash (S : St) : St := ⟨S.sure, [], S.steps⟩
set_option maxRecDepth 4000 in
theorem crash_ok {h : H} {b bs : Nat} {q : Option Nat} {S : St} (s : Sl h b bs q S) {K : AV → H → Prop}
    (hK : ∀ h', Fr (Own b bs q) h h' → Sl h' b bs none S.crash → K (.int .i64 0) h') : Cw T 26 [.ptr b [0] 171, .int .i64 0, .int .i64 0] h K := by
  refine cw_q 300 (ex26 _) fn26 ?_
  have lb := s.lb
  have ls := s.ls
  have hqs := s.qs
  have hq := s.hq
  have hlen : lenIs (qv q S.queue.length) S.queue.length := by
    cases q with
    | none => rw [show S.queue = [] from hq]; exact lenIs_nils
    | some c => exact lenIs_slice
  refine ⟨_, _, _, s.hb, ?_⟩
  refine ⟨S.queue.length, hlen, ?_⟩
  refine ⟨0, by rw [if_neg (by omega)], ?_⟩
  refine ⟨0, rfl, ?_⟩
  refine ⟨_, _, _, s.hb, ?_⟩
  refine slice_none (by cases q with
    | none => exact .inl ⟨rfl, trivial⟩
    | some c => exact .inr ⟨_, _, _, _, rfl⟩) (fun _ => rfl) (fun v hv => ?_)
  refine ⟨0, hv, ?_⟩
  refine loop_go 300 ?_
  refine ⟨_, _, _, s.hb, ?_⟩
  refine ⟨S.queue.length, hlen, ?_⟩
  -- what is left to do
  have fin : ∀ g1, Keep h g1 → ∀ g2 g3 g4, Upd g1 b (.row .fixed 171 [.agg 171 [.slice bs [] 0 S.sure.length 47, .nils, .int .i64 (-1), .bool false, .int .i64 S.steps]]) g2 → Upd g2 b (.row .fixed 171 [.agg 171 [.slice bs [] 0 S.sure.length 47, .nils, .int .i64 (-1), .bool false, .int .i64 S.steps]]) g3 → Upd g3 b (.row .fixed 171 [.agg 171 [.slice bs [] 0 S.sure.length 47, .nils, .int .i64 (-1), .bool false, .int .i64 S.steps]]) g4 → K (.int .i64 0) g4 := by
    intro g1 k1 g2 g3 g4 u2 u3 u4
    have n2 : g2.next = g1.next := u2.next
    have n3 : g3.next = g2.next := u3.next
    have n4 : g4.next = g3.next := u4.next
    have l1 := k1.1
    refine hK g4 ((((k1.fr).upd u2 (.inl (.inl rfl))).upd u3 (.inl (.inl rfl))).upd u4 (.inl (.inl rfl))) ⟨u4.at, u4.ne (u3.ne (u2.ne (k1.to s.hs ls) (Ne.symm s.ne)) (Ne.symm s.ne)) (Ne.symm s.ne), rfl, by omega, by omega, s.ne, by simp [St.crash], by simp [St.crash]⟩
  refine sel_intro (fun c1 => ?_) (fun c1 => ?_)
  · have hpos : 0 < S.queue.length := by simpa using c1
    cases q with
    | none => rw [show S.queue = [] from hq] at hpos; simp at hpos
    | some c =>
      obtain ⟨_, hc, hcq⟩ := hq
      refine ⟨_, _, _, s.hb, ?_⟩
      refine ⟨c, [], 0, S.queue.length, 0, 0, rfl, rfl, hpos, rfl, ?_⟩
      refine read1 hcq (v := wr S.queue[0]) (by simp [hpos]) ?_
      refine fun g1 m1 => ?_
      have n1 := m1.nx
      refine And.intro rfl ⟨_, _, _, m1.at, by decide, fun g2 u2 => ?_⟩
      have n2 : g2.next = g1.next := u2.next
      have k2 : Keep h g2 := ((Keep.refl h).new m1 (Nat.le_refl _)).upd u2 (Nat.le_refl _)
      refine ⟨0, rfl, ?_⟩
      refine ⟨0, rfl, ?_⟩
      have b2 := k2.to s.hb lb
      have s2 := k2.to s.hs ls
      have hw := s.wf S.queue[0] (List.getElem_mem hpos)
      refine ⟨_, _, _, b2, ?_⟩
      refine ⟨_, _, _, u2.at, ?_⟩
      refine ⟨bs, [], 0, S.sure.length, S.queue[0].1, S.queue[0].1, rfl, rfl, hw, by omega, ?_⟩
      refine ⟨0, rfl, 0, Nat.le_refl _, by decide, rfl, ?_⟩
      refine ⟨0, rfl, 0, Nat.le_refl _, by decide, rfl, ?_⟩
      refine copy_none (l := []) (src_path (by exact u2.at) (t := 47) (zs := S.queue[0].2) rfl (by simp)) rfl (by simp) ?_
      refine And.intro rfl ⟨_, _, _, b2, by decide, fun g3 u3 => ?_⟩
      refine And.intro rfl ⟨_, _, _, u3.at, by decide, fun g4 u4 => ?_⟩
      refine And.intro rfl ⟨_, _, _, u4.at, by decide, fun g5 u5 => ?_⟩
      exact ⟨_, rfl, rfl, fin (g2.bump 13) (k2.trans (Keep.bump _ _)) g3 g4 g5 u3 u4 u5⟩
  · refine And.intro rfl ⟨_, _, _, s.hb, by decide, fun g3 u3 => ?_⟩
    refine And.intro rfl ⟨_, _, _, u3.at, by decide, fun g4 u4 => ?_⟩
    refine And.intro rfl ⟨_, _, _, u4.at, by decide, fun g5 u5 => ?_⟩
    exact ⟨_, rfl, rfl, fin h (Keep.refl h) g3 g4 g5 u3 u4 u5⟩
end Go.Dam.S

namespace Go.Dam.S
open Go Go.Dam
/-! ### one step of the law -/
structure Stp where
  fl : Bool
  at_ : Int
  b : Int
def stepV (x : Stp) : AV := .agg 44 [.bool x.fl, .int .i64 x.at_, .int .u8 x.b]
def secB (b : Int) (i : Nat) : AV := .int .u8 (IntKind.u8.wrap (b + IntKind.u8.wrap i))
def secOf (b : Int) : List AV := (List.range 64).map (secB b)
def Stp.fits (x : Stp) (n : Nat) : Prop := 0 ≤ x.at_ ∧ x.at_ < n
instance (x : Stp) (n : Nat) : Decidable (x.fits n) := inferInstanceAs (Decidable (_ ∧ _))
def stepS (S : St) (x : Stp) : St := if x.fl = true then S.flush else if x.fits S.sure.length then S.write x.at_.toNat (secOf x.b) else S
def toldS (n : Nat) (x : Stp) : Int := if x.fl = true then 0 else if x.fits n then 0 else 1
def body18 : ACode := (.seq (.reg f18r5) (.seq (.cond (.t 12) .skip (.exit 0)) (.seq (.block 1 (.seq (.reg f18r6) (.reg f18r7))) (.reg f18r8))))
theorem loop18 {p px : Nat} {x : Stp} {d0 : AV} (hpp : p ≠ px) {h0 : H} {k : List Item} {Q : Env → H → Prop}
    (hk : ∀ r h, agree r [(0, d0), (3, .ptr px [0] 44), (5, .ptr p [0] 47)] → Fr (fun c => c = p) h0 h → h.get px = some (.row .fixed 44 [stepV x]) → h.get p = some (.row .fixed 47 [sec (secOf x.b)]) → Wp T k r h Q) :
    ∀ (d i : Nat) (r : Env) (h : H), i + d = 64 → agree r [(0, d0), (3, .ptr px [0] 44), (5, .ptr p [0] 47), (11, .int .i64 i)] → Fr (fun c => c = p) h0 h → h.get px = some (.row .fixed 44 [stepV x]) → h.get p = some (.row .fixed 47 [sec (fillR 64 i (secB x.b) (.int .u8 0))]) →
      Wp T (.inLoop body18 :: .inBlock 0 :: k) r h Q := by
  intro d
  induction d with
  | zero =>
    intro i r h hi ha F gx gp
    refine wp_inLoop (wp_q (items := [.code body18, .inLoop body18, .inBlock 0]) 50 ha ?_)
    unfold body18
    refine sel_intro (fun c1 => ?_) (fun c1 => ?_)
    · exfalso; simp at c1; omega
    · refine hk _ _ ⟨rfl, rfl, rfl, trivial⟩ F gx ?_
      rw [show i = 64 by omega, fillR_all] at gp
      exact gp
  | succ d ih =>
    intro i r h hi ha F gx gp
    refine wp_inLoop (wp_q (items := [.code body18, .inLoop body18, .inBlock 0]) 100 ha ?_)
    unfold body18
    refine sel_intro (fun c1 => ?_) (fun c1 => ?_)
    · refine ⟨_, _, _, gx, ?_⟩
      refine ⟨_, rfl, ?_⟩
      refine ⟨_, rfl, ?_⟩
      refine ⟨i, rfl, by omega, ?_⟩
      refine And.intro rfl (writeP gp (by decide) (put_cons (p := [0]) rfl (by rw [fillR_length]; omega) rfl) fun g1 u1 => ?_)
      refine ⟨((i + 1 : Nat) : Int), by rw [i64_id (by omega) (by omega)]; rfl, ?_⟩
      refine ih (i + 1) _ _ (by omega) ⟨rfl, rfl, rfl, rfl, trivial⟩ (F.upd u1 (.inl rfl)) (u1.ne gx (Ne.symm hpp)) ?_
      rw [u1.at, ← fillR_set]
      rfl
    · exfalso; simp at c1; omega
theorem does18_ok {h : H} {b bs : Nat} {q : Option Nat} {S : St} (s : Sl h b bs q S) (hst : S.steps < 1000000) {x : Stp} {K : AV → H → Prop}
    (hK : ∀ h' q', Fr (Own b bs q) h h' → (q' = q ∨ ∀ c, q' = some c → h.next ≤ c) → Sl h' b bs q' (stepS S x) → K (.int .i64 (toldS S.sure.length x)) h') : Cw T 18 [.ptr b [0] 171, stepV x] h K := by
  refine cw_q 200 (ex18 _) fn18 ?_
  obtain ⟨fl, at_, bb⟩ := x
  refine And.intro rfl fun g1 m1 => ?_
  have lb := s.lb
  have ls := s.ls
  have q1 := m1.nx
  have k1 : Keep h g1 := (Keep.refl h).new m1 (Nat.le_refl _)
  have keepS : ∀ g, Keep h g → Sl g b bs q S := by
    intro g k
    have l1 := k.1
    refine ⟨k.to s.hb s.lb, k.to s.hs s.ls, ?_, by omega, by omega, s.ne, s.wf, s.qs⟩
    have := s.hq
    cases q with
    | none => exact this
    | some c => exact ⟨this.1, by have := this.2.1; omega, k.to this.2.2 this.2.1⟩
  refine ⟨_, _, _, m1.at, ?_⟩
  refine sel_intro (fun c1 => ?_) (fun c1 => ?_)
  · have c1 : fl = true := c1
    refine flush_ok (keepS g1 k1) hst (fun g2 F2 s2 => ?_)
    refine ⟨_, rfl, rfl, ?_⟩
    have := hK g2 none (k1.fr.trans F2) (.inr (fun c hc => by cases hc)) (by simp only [stepS, c1, if_true]; exact s2)
    simp only [toldS, c1, if_true] at this
    exact this
  have c1 : fl = false := c1
  subst c1
  refine fun g2 m2 => ?_
  have q2 := m2.nx
  refine wp_loop_of (loop18 (d0 := .ptr b [0] 171) (p := g1.next) (px := h.next) (x := ⟨false, at_, bb⟩) (by omega) (h0 := g2) (fun r g3 ha F gx gp => ?_) 64 0 _ _ rfl ⟨rfl, rfl, rfl, rfl, trivial⟩ (Fr.refl _ _) (m2.ne m1.at (by omega)) (by rw [fillR_zero]; exact m2.at))
  refine wp_q (k0 := []) (items := [.code (.seq (.reg f18r9) .ret)]) 50 ha ?_
  refine ⟨_, _, _, gx, ?_⟩
  refine ⟨_, _, _, gp, ?_⟩
  have k3 : Keep h g3 := by
    have k2 : Keep h g2 := k1.new m2 (by omega)
    refine ⟨Nat.le_trans k2.1 F.1, fun c hc => ?_⟩
    rw [F.2 c (by omega) (by omega)]
    exact k2.2 c hc
  refine write_ok (keepS g3 k3) hst (at_ := at_) (to := secOf bb) (fun hbad g4 k4 s4 => ?_) (fun m hm hlt g4 q4 F4 hq4 s4 => ?_)
  · refine ⟨_, rfl, rfl, ?_⟩
    have hf : ¬ (Stp.mk false at_ bb).fits S.sure.length := by simp only [Stp.fits]; omega
    have := hK g4 q ((k3.trans k4).fr) (.inl rfl) (by simp only [stepS, hf, if_false, Bool.false_eq_true]; exact s4)
    simp only [toldS, hf, if_false, Bool.false_eq_true] at this
    exact this
  · refine ⟨_, rfl, rfl, ?_⟩
    have hf : (Stp.mk false at_ bb).fits S.sure.length := by simp only [Stp.fits]; omega
    have l3 := k3.1
    have := hK g4 q4 (k3.fr.trans F4) (.inr (fun c hc => Nat.le_trans l3 (hq4 c hc))) (by
      simp only [stepS, hf, if_true, if_false, Bool.false_eq_true]
      rw [show at_.toNat = m by omega]
      exact s4)
    simp only [toldS, hf, if_true, if_false, Bool.false_eq_true] at this
    exact this
end Go.Dam.S

namespace Go.Dam.S
open Go Go.Dam
theorem Sl.keep {h g : H} {b bs : Nat} {q : Option Nat} {S : St} (s : Sl h b bs q S) (k : Keep h g) : Sl g b bs q S := by
  have l1 := k.1
  have := s.lb
  have := s.ls
  refine ⟨k.to s.hb s.lb, k.to s.hs s.ls, ?_, by omega, by omega, s.ne, s.wf, s.qs⟩
  have := s.hq
  cases q with
  | none => exact this
  | some c => exact ⟨this.1, by have := this.2.1; omega, k.to this.2.2 this.2.1⟩
/-- what is alike of two devices -/
structure Like (S S' : St) : Prop where
  n : S'.sure.length = S.sure.length
  look : ∀ i, i < S.sure.length → S'.look i = S.look i
  ql : S'.queue.length = S.queue.length
  st : S'.steps = S.steps
def body21 : ACode := (.seq (.reg f21r2) (.seq (.cond (.t 12) .skip (.exit 0)) (.seq (.block 1 (.seq (.reg f21r3) (.seq (.reg f21r4) (.seq (.reg f21r5) (.seq (.reg f21r6) (.cond (.t 33) (.seq (.reg f21r7) .ret) .skip)))))) (.reg f21r8))))
theorem loop21 {b bs b' bs' p1 p2 : Nat} {q q' : Option Nat} {S S' : St} {d0 : AV} {h0 : H} (s : Sl h0 b bs q S) (s' : Sl h0 b' bs' q' S') (e : Like S S') (hst : S.steps < 1000000) (hn : S.sure.length ≤ 4096)
    (g1 : h0.get p1 = some (.row .fixed 40 [.ptr b [0] 171])) (g2 : h0.get p2 = some (.row .fixed 40 [.ptr b' [0] 171])) (l1 : p1 < h0.next) (l2 : p2 < h0.next) {k : List Item} {Q : Env → H → Prop}
    (hk : ∀ r h, agree r [(0, d0), (1, .ptr p1 [0] 40), (2, .ptr p2 [0] 40)] → Keep h0 h → Wp T k r h Q) :
    ∀ (d i : Nat) (r : Env) (h : H), i + d = S.sure.length + 1 → agree r [(0, d0), (1, .ptr p1 [0] 40), (2, .ptr p2 [0] 40), (10, .int .i64 ((S.sure.length + 1 : Nat) : Int)), (11, .int .i64 i)] → Keep h0 h → Wp T (.inLoop body21 :: .inBlock 0 :: k) r h Q := by
  intro d
  induction d with
  | zero =>
    intro i r h hi ha F
    refine wp_inLoop (wp_q (items := [.code body21, .inLoop body21, .inBlock 0]) 50 ha ?_)
    unfold body21
    refine sel_intro (fun c1 => ?_) (fun c1 => ?_)
    · exfalso; simp only [decide_eq_true_eq] at c1; omega
    · exact hk _ _ ⟨rfl, rfl, rfl, trivial⟩ F
  | succ d ih =>
    intro i r h hi ha F
    refine wp_inLoop (wp_q (items := [.code body21, .inLoop body21, .inBlock 0]) 200 ha ?_)
    unfold body21
    refine sel_intro (fun c1 => ?_) (fun c1 => ?_)
    · -- both reads say the same
      obtain ⟨w, er, hr1, hr2⟩ : ∃ (w : List AV) (er : Int), (∀ (h : H) (K : AV → H → Prop), Keep h0 h → (∀ h', Keep h h' → K (.tup [sec w, .int .i64 er]) h') → Cw T 22 [.ptr b [0] 171, .int .i64 i] h K) ∧ (∀ (h : H) (K : AV → H → Prop), Keep h0 h → (∀ h', Keep h h' → K (.tup [sec w, .int .i64 er]) h') → Cw T 22 [.ptr b' [0] 171, .int .i64 i] h K) := by
        by_cases hi2 : i < S.sure.length
        · refine ⟨S.look i, 0, fun h K k hK => read_ok (s.keep k) hst (fun hh => by omega) (fun m hm _ h' k' => ?_), fun h K k hK => read_ok (s'.keep k) (by rw [e.st]; exact hst) (fun hh => by rw [e.n] at hh; omega) (fun m hm hl h' k' => ?_)⟩
          · rw [show m = i by omega]; exact hK h' k'
          · rw [show m = i by omega, e.look i hi2]; exact hK h' k'
        · exact ⟨zsec, 1, fun h K k hK => read_ok (s.keep k) hst (fun hh h' k' => hK h' k') (fun m hm hl => by omega), fun h K k hK => read_ok (s'.keep k) (by rw [e.st]; exact hst) (fun hh h' k' => hK h' k') (fun m hm hl => by rw [e.n] at hl; omega)⟩
      refine ⟨_, _, _, F.to g1 l1, ?_⟩
      refine hr1 _ _ F (fun h1 k1 => ?_)
      have F1 := F.trans k1
      have n0 := F1.1
      refine fun h2 m2 => ?_
      have n2 := m2.nx
      refine And.intro rfl ⟨_, _, _, m2.at, by decide, fun h3 u3 => ?_⟩
      have n3 : h3.next = h2.next := u3.next
      have F3 : Keep h0 h3 := (F1.new m2 n0).upd u3 n0
      refine ⟨_, _, _, F3.to g2 l2, ?_⟩
      refine hr2 _ _ F3 (fun h4 k4 => ?_)
      have n4 := k4.1
      have F4 := F3.trans k4
      refine fun h5 m5 => ?_
      have n5 := m5.nx
      refine And.intro rfl ⟨_, _, _, m5.at, by decide, fun h6 u6 => ?_⟩
      have n6 : h6.next = h5.next := u6.next
      have F6 : Keep h0 h6 := (F4.new m5 (by omega)).upd u6 (by omega)
      refine ⟨_, _, _, u6.ne (m5.ne (k4.to u3.at (by omega)) (by omega)) (by omega), ?_⟩
      refine ⟨_, _, _, u6.at, ?_⟩
      refine sel_intro (fun c2 => ?_) (fun c2 => ?_)
      · exfalso
        have c2 : (!AV.beqs w w) = true := c2
        rw [beqs_self] at c2
        cases c2
      refine sel_intro (fun c3 => ?_) (fun c3 => ?_)
      · exfalso; simp at c3
      refine ⟨((i + 1 : Nat) : Int), by rw [i64_id (by omega) (by omega)]; rfl, ?_⟩
      exact ih (i + 1) _ _ (by omega) ⟨rfl, rfl, rfl, rfl, rfl, trivial⟩ F6
    · exfalso; simp only [decide_eq_false_iff_not] at c1; omega
theorem same_ok {b bs b' bs' p0 p1 p2 : Nat} {q q' : Option Nat} {S S' : St} {h : H} (s : Sl h b bs q S) (s' : Sl h b' bs' q' S') (e : Like S S') (hst : S.steps < 1000000) (hn : S.sure.length ≤ 4096)
    (g0 : h.get p0 = some (.row .fixed 3 [.int .i64 S.sure.length])) (g1 : h.get p1 = some (.row .fixed 40 [.ptr b [0] 171])) (g2 : h.get p2 = some (.row .fixed 40 [.ptr b' [0] 171])) (l1 : p1 < h.next) (l2 : p2 < h.next)
    {K : AV → H → Prop} (hK : ∀ h', Keep h h' → K (.bool true) h') : Cw T 21 [.ptr p0 [0] 3, .ptr p1 [0] 40, .ptr p2 [0] 40] h K := by
  refine cw_q 200 (ex21 _) fn21 ?_
  refine ⟨_, _, _, g0, ?_⟩
  refine ⟨((S.sure.length + 1 : Nat) : Int), by rw [i64_id (by omega) (by omega)]; rfl, ?_⟩
  refine wp_loop_of (loop21 (d0 := .ptr p0 [0] 3) s s' e hst hn g1 g2 l1 l2 (fun r h1 ha k1 => ?_) (S.sure.length + 1) 0 _ _ (by omega) ⟨rfl, rfl, rfl, rfl, rfl, trivial⟩ (Keep.refl _))
  have n1 := k1.1
  have k2 : Keep h (h1.bump 20) := k1.trans (Keep.bump _ _)
  refine wp_q (k0 := []) (items := [.code (.seq (.draw f21r9) .ret)]) 100 ha ?_
  have r1 := k2.to g1 l1
  have r2 := k2.to g2 l2
  refine ⟨_, _, _, r1, ?_⟩
  refine loose_ok (s.keep k2) ?_
  refine ⟨_, _, _, r2, ?_⟩
  refine And.intro ⟨rfl, _, _, _, r2, rfl⟩ ?_
  refine loose_ok (s'.keep k2) ?_
  rw [e.ql]
  refine sel_intro (fun c1 => ?_) (fun c1 => ?_)
  · refine ⟨_, _, _, r1, ?_⟩
    refine steps_ok (s.keep k2) ?_
    refine ⟨_, _, _, r2, ?_⟩
    refine And.intro ⟨rfl, _, _, _, r2, rfl⟩ ?_
    refine steps_ok (s'.keep k2) ?_
    rw [e.st]
    refine sel_intro (fun c2 => ?_) (fun c2 => ?_)
    · refine ⟨_, _, _, r1, ?_⟩
      refine sectors_ok (s.keep k2) ?_
      refine ⟨_, _, _, r2, ?_⟩
      refine And.intro ⟨rfl, _, _, _, r2, rfl⟩ ?_
      refine sectors_ok (s'.keep k2) ?_
      rw [e.n]
      refine ⟨.bool ((S.sure.length : Int) == (S.sure.length : Int)), rfl, rfl, ?_⟩
      rw [show ((S.sure.length : Int) == (S.sure.length : Int)) = true by simp]
      exact hK _ k2
    · exfalso; simp at c2
  · exfalso; simp at c1
end Go.Dam.S

namespace Go.Dam.S
open Go Go.Dam
/-! ### the plain law -/
structure Eqv (S S' : St) : Prop where
  sure : S'.sure = S.sure
  fil : ∀ a : Nat, S'.queue.filter (fun w => w.1 == a) = S.queue.filter (fun w => w.1 == a)
  ql : S'.queue.length = S.queue.length
  st : S'.steps = S.steps
theorem Eqv.refl (S : St) : Eqv S S := ⟨rfl, fun _ => rfl, rfl, rfl⟩
theorem Eqv.trans {a b c : St} (h : Eqv a b) (k : Eqv b c) : Eqv a c := ⟨k.sure.trans h.sure, fun i => (k.fil i).trans (h.fil i), k.ql.trans h.ql, k.st.trans h.st⟩
theorem lookL_fil (i : Nat) (q : List (Nat × List AV)) : lookL i (q.filter fun w => w.1 == i) = lookL i q := by
  unfold lookL
  rw [List.foldl_filter]
  congr 1
  funext a w
  by_cases h : w.1 = i <;> simp [h]
def atF (i n : Nat) (a : Option (List AV)) (q : List (Nat × List AV)) : Option (List AV) := q.foldl (fun a w => if w.1 = i then (if i < n then some w.2 else none) else a) a
theorem flushL_at (i : Nat) : ∀ (q : List (Nat × List AV)) (sure : List (List AV)), (flushL sure q)[i]? = atF i sure.length sure[i]? q := by
  intro q
  induction q with
  | nil => intro sure; rfl
  | cons w q ih =>
    intro sure
    show (flushL (sure.set w.1 w.2) q)[i]? = _
    rw [ih]
    simp only [atF, List.length_set, List.foldl_cons, List.getElem?_set]
    congr 1
    by_cases h : w.1 = i
    · subst h; simp
    · simp [h]
theorem atF_fil (i n : Nat) (a : Option (List AV)) (q : List (Nat × List AV)) : atF i n a (q.filter fun w => w.1 == i) = atF i n a q := by
  unfold atF
  rw [List.foldl_filter]
  congr 1
  funext a w
  by_cases h : w.1 = i <;> simp [h]
theorem flushL_eqv {sure : List (List AV)} {q q' : List (Nat × List AV)} (h : ∀ a : Nat, q'.filter (fun w => w.1 == a) = q.filter (fun w => w.1 == a)) : flushL sure q' = flushL sure q := by
  apply List.ext_getElem?
  intro i
  rw [flushL_at, flushL_at, ← atF_fil, h i, atF_fil]
theorem Eqv.step {S S' : St} (e : Eqv S S') (x : Stp) : Eqv (stepS S x) (stepS S' x) := by
  unfold stepS
  rw [e.sure]
  split
  · refine ⟨?_, fun _ => rfl, rfl, by simp only [St.flush, e.st]⟩
    simp only [St.flush]
    rw [e.sure, flushL_eqv e.fil]
  split
  · refine ⟨e.sure, fun a => ?_, by simp only [St.write, List.length_append, e.ql], by simp only [St.write, e.st]⟩
    simp only [St.write, List.filter_append, e.fil a]
  · exact e
def run (S : St) (xs : List Stp) : St := xs.foldl stepS S
theorem Eqv.run {S S' : St} (e : Eqv S S') : ∀ (xs : List Stp), Eqv (run S xs) (run S' xs) := by
  intro xs
  induction xs generalizing S S' with
  | nil => exact e
  | cons x xs ih => exact ih (e.step x)
theorem stepS_len (S : St) (x : Stp) : (stepS S x).sure.length = S.sure.length := by
  unfold stepS
  split
  · exact flushL_length _ _
  split <;> rfl
theorem stepS_no {S : St} {x : Stp} (hx : x.fl = false) (hf : ¬ x.fits S.sure.length) : stepS S x = S := by
  unfold stepS
  rw [if_neg (by rw [hx]; simp), if_neg hf]
theorem swap_step {S : St} {x y : Stp} (hx : x.fl = false) (hy : y.fl = false) (hn : x.at_ ≠ y.at_) : Eqv (stepS (stepS S x) y) (stepS (stepS S y) x) := by
  by_cases fx : x.fits S.sure.length <;> by_cases fy : y.fits S.sure.length
  · have e1 : stepS S x = S.write x.at_.toNat (secOf x.b) := by simp only [stepS, hx, fx, Bool.false_eq_true, if_false, if_true]
    have e2 : stepS S y = S.write y.at_.toNat (secOf y.b) := by simp only [stepS, hy, fy, Bool.false_eq_true, if_false, if_true]
    rw [e1, e2]
    simp only [stepS, hx, hy, St.write, fx, fy, Bool.false_eq_true, if_false, if_true]
    refine ⟨rfl, fun a => ?_, by simp, rfl⟩
    have hne : x.at_.toNat ≠ y.at_.toNat := by have := fx.1; have := fy.1; omega
    simp only [List.append_assoc, List.filter_append, List.append_cancel_left_eq]
    by_cases h1 : x.at_.toNat = a
    · have : ¬ y.at_.toNat = a := fun h => hne (h1.trans h.symm)
      simp [h1, this]
    · simp [h1]
  · rw [stepS_no hy fy, stepS_no hy (by rw [stepS_len]; exact fy)]; exact Eqv.refl _
  · rw [stepS_no hx fx, stepS_no hx (by rw [stepS_len]; exact fx)]; exact Eqv.refl _
  · rw [stepS_no hx fx, stepS_no hy fy, stepS_no hx fx]; exact Eqv.refl _
def dfl : Stp := ⟨true, 0, 0⟩
/-- how the steps may stand: some neighbours were exchanged, again and again -/
inductive Rch (l : List Stp) : List Nat → Prop where
  | id : Rch l (List.range l.length)
  | swap (pre : List Nat) (a b : Nat) (post : List Nat) (h : Rch l (pre ++ a :: b :: post)) (ha : (l.getD a dfl).fl = false) (hb : (l.getD b dfl).fl = false) (hn : (l.getD a dfl).at_ ≠ (l.getD b dfl).at_) : Rch l (pre ++ b :: a :: post)
theorem Rch.eqv {l : List Stp} {p : List Nat} (r : Rch l p) (S : St) : Eqv (run S l) (run S (p.map fun j => l.getD j dfl)) := by
  induction r with
  | id =>
    have : (List.range l.length).map (fun j => l.getD j dfl) = l := by
      apply List.ext_getElem (by simp)
      intro i h1 h2
      simp at h1
      simp [h1]
    rw [this]
    exact Eqv.refl _
  | swap pre a b post h ha hb hn ih =>
    refine ih.trans ?_
    simp only [List.map_append, List.map_cons, run, List.foldl_append, List.foldl_cons]
    exact (swap_step ha hb hn).run _
theorem Rch.lt {l : List Stp} {p : List Nat} (r : Rch l p) : p.length = l.length ∧ ∀ j ∈ p, j < l.length := by
  induction r with
  | id => simp
  | swap pre a b post h ha hb hn ih =>
    refine ⟨by simpa using ih.1, fun j hj => ih.2 j ?_⟩
    simp only [List.mem_append, List.mem_cons] at hj ⊢
    rcases hj with h | h | h | h
    · exact .inl h
    · exact .inr (.inr (.inl h))
    · exact .inr (.inl h)
    · exact .inr (.inr (.inr h))
theorem Eqv.like {S S' : St} (e : Eqv S S') : Like S S' := by
  refine ⟨by rw [e.sure], fun i _ => ?_, e.ql, e.st⟩
  unfold St.look
  rw [← lookL_fil, e.fil i, lookL_fil, e.sure]
theorem Eqv.crash {S S' : St} (e : Eqv S S') : Like S.crash S'.crash := ⟨by simp only [St.crash, e.sure], fun i _ => by simp only [St.look, St.crash, e.sure], rfl, e.st⟩
theorem run_take {S : St} {xs : List Stp} {i : Nat} (hi : i < xs.length) : run S (xs.take (i + 1)) = stepS (run S (xs.take i)) xs[i] := by
  unfold run
  rw [List.take_succ_eq_append_getElem hi, List.foldl_append]
  rfl
theorem stepS_steps (S : St) (x : Stp) : (stepS S x).steps ≤ S.steps + 1 := by
  unfold stepS
  split
  · exact Nat.le_refl _
  split
  · exact Nat.le_refl _
  · exact Nat.le_succ _
theorem run_steps (xs : List Stp) : ∀ (S : St), (run S xs).steps ≤ S.steps + xs.length := by
  induction xs with
  | nil => intro S; exact Nat.le_refl _
  | cons x xs ih =>
    intro S
    have h1 := ih (stepS S x)
    have h2 := stepS_steps S x
    have h3 : run S (x :: xs) = run (stepS S x) xs := rfl
    rw [h3, List.length_cons]
    omega
theorem run_len (xs : List Stp) : ∀ (S : St), (run S xs).sure.length = S.sure.length := by
  induction xs with
  | nil => intro S; rfl
  | cons x xs ih =>
    intro S
    have h3 : run S (x :: xs) = run (stepS S x) xs := rfl
    rw [h3, ih, stepS_len]
end Go.Dam.S

namespace Go.Dam.S
open Go Go.Dam
/-! ### the law's loops -/
def intV (j : Nat) : AV := .int .i64 j
abbrev base4 (ls pk : AV) (pn ps pt ba n : Nat) : EL := [(1, ls), (2, pk), (3, .ptr pn [0] 3), (7, .ptr ps [0] 40), (9, .ptr pt [0] 40), (11, .slice ba [] 0 n 3)]
def bodyA : ACode := (.seq (.reg f4r9) (.seq (.cond (.t 67) .skip (.exit 0)) (.seq (.block 1 (.seq (.reg f4r10) (.reg f4r11))) (.reg f4r12))))
theorem loopA {ls pk z : AV} {pn ps pt ba n : Nat} (hn : n ≤ 100) {h0 : H} {k : List Item} {Q : Env → H → Prop}
    (hk : ∀ r h, agree r (base4 ls pk pn ps pt ba n) → Fr (fun c => c = ba) h0 h → h.get ba = some (.row .fixed 3 ((List.range n).map intV)) → Wp T k r h Q) :
    ∀ (d i : Nat) (r : Env) (h : H), i + d = n → agree r ((64, .slice ba [] 0 n 3) :: (65, .int .i64 n) :: (66, .int .i64 i) :: base4 ls pk pn ps pt ba n) → Fr (fun c => c = ba) h0 h → h.get ba = some (.row .fixed 3 (fillR n i intV z)) →
      Wp T (.inLoop bodyA :: .inBlock 0 :: k) r h Q := by
  intro d
  induction d with
  | zero =>
    intro i r h hi ha F g
    refine wp_inLoop (wp_q (items := [.code bodyA, .inLoop bodyA, .inBlock 0]) 50 ha ?_)
    unfold bodyA
    refine sel_intro (fun c1 => ?_) (fun c1 => ?_)
    · exfalso; simp only [decide_eq_true_eq] at c1; omega
    · refine hk _ _ ⟨rfl, rfl, rfl, rfl, rfl, rfl, trivial⟩ F ?_
      rw [show i = n by omega, fillR_all] at g
      exact g
  | succ d ih =>
    intro i r h hi ha F g
    refine wp_inLoop (wp_q (items := [.code bodyA, .inLoop bodyA, .inBlock 0]) 100 ha ?_)
    unfold bodyA
    refine sel_intro (fun c1 => ?_) (fun c1 => ?_)
    · refine ⟨ba, [], 0, n, i, i, rfl, rfl, by omega, by omega, ?_⟩
      refine And.intro rfl (write1 g (by decide) (by rw [fillR_length]; omega) fun g1 u1 => ?_)
      refine ⟨((i + 1 : Nat) : Int), by rw [i64_id (by omega) (by omega)]; rfl, ?_⟩
      refine ih (i + 1) _ _ (by omega) ⟨rfl, rfl, rfl, rfl, rfl, rfl, rfl, rfl, rfl, trivial⟩ (F.upd u1 (.inl rfl)) ?_
      rw [u1.at, ← fillR_set]
      rfl
    · exfalso; simp only [decide_eq_false_iff_not] at c1; omega

theorem cut2 {p : List Nat} {k : Nat} (hk : k + 1 < p.length) : ∃ pre a b post, p = pre ++ a :: b :: post ∧ pre.length = k := by
  refine ⟨p.take k, p[k], p[k + 1], p.drop (k + 2), ?_, by rw [List.length_take]; omega⟩
  rw [List.getElem_cons_drop, List.getElem_cons_drop, List.take_append_drop]
theorem swap_map {pre post : List Nat} {a b : Nat} : (((pre ++ a :: b :: post).map intV).set pre.length (intV b)).set (pre.length + 1) (intV a) = (pre ++ b :: a :: post).map intV := by
  simp
def bodyB : ACode := (.seq (.reg f4r14) (.seq (.cond (.t 77) .skip (.exit 2)) (.seq (.block 3 (.seq (.reg f4r15) (.seq (.seq (.reg f4r16) (.cond (.t 82) (.exit 2) .skip)) (.seq (.reg f4r17) (.seq (.draw f4r18) (.seq (.reg f4r19) (.cond (.t 118) (.draw f4r20) .skip))))))) (.reg f4r21))))
def u8V (x : Int) : AV := .int .u8 x
set_option maxRecDepth 4000 in
theorem loopB {ls pk : AV} {l : List Stp} {pks : List Int} {pn ps pt ba : Nat} (hn : l.length ≤ 100) (hm : pks.length ≤ 100) (hpk : ∀ x ∈ pks, 0 ≤ x ∧ x ≤ 255) {h0 : H} (ro : IsRo h0 ls 44 (l.map stepV)) (rp : IsRo h0 pk 5 (pks.map u8V)) {ar : List AV} (ga : h0.get ba = some (.row .fixed 3 ar)) (lba : ba < h0.next) {k : List Item} {Q : Env → H → Prop}
    (hk : ∀ r h p, agree r (base4 ls pk pn ps pt ba l.length) → Fr (fun c => c = ba) h0 h → Rch l p → h.get ba = some (.row .fixed 3 (p.map intV)) → Wp T k r h Q) :
    ∀ (d i : Nat) (p : List Nat) (r : Env) (h : H), i + d = pks.length → agree r ((74, pk) :: (75, .int .i64 pks.length) :: (76, .int .i64 i) :: base4 ls pk pn ps pt ba l.length) → Fr (fun c => c = ba) h0 h → Rch l p → h.get ba = some (.row .fixed 3 (p.map intV)) →
      Wp T (.inLoop bodyB :: .inBlock 2 :: k) r h Q := by
  intro d
  induction d with
  | zero =>
    intro i p r h hi ha F rc g
    refine wp_inLoop (wp_q (items := [.code bodyB, .inLoop bodyB, .inBlock 2]) 50 ha ?_)
    unfold bodyB
    refine sel_intro (fun c1 => ?_) (fun c1 => ?_)
    · exfalso; simp only [decide_eq_true_eq] at c1; omega
    · exact hk _ _ p ⟨rfl, rfl, rfl, rfl, rfl, rfl, trivial⟩ F rc g
  | succ d ih =>
    intro i p r h hi ha F rc g
    refine wp_inLoop (wp_q (items := [.code bodyB, .inLoop bodyB, .inBlock 2]) 200 ha ?_)
    unfold bodyB
    refine sel_intro (fun c1 => ?_) (fun c1 => ?_)
    · have nro : ∀ b k xs, b = ba → h0.get b ≠ some (.row .ro k xs) := by
        rintro b k xs rfl hc
        rw [ga] at hc
        cases hc
      have hil : i < pks.length := by omega
      rcases rp.fr F nro with ⟨_, he⟩ | ⟨bp, rfl, hbp, gp⟩
      · simp at he; subst he; simp at hil
      refine ⟨bp, [], 0, pks.length, i, i, by simp, rfl, hil, by omega, ?_⟩
      have hx := hpk pks[i] (List.getElem_mem hil)
      refine read1 gp (v := u8V pks[i]) (by simp [hil]) ?_
      generalize pks[i] = x at hx
      have roh := ro.fr F nro
      refine ⟨l.length, by have := lenIs_ro roh; simpa using this, ?_⟩
      refine sel_intro (fun c2 => ?_) (fun c2 => ?_)
      · exact hk _ _ p ⟨rfl, rfl, rfl, rfl, rfl, rfl, trivial⟩ F rc g
      simp only [decide_eq_false_iff_not] at c2
      refine ⟨x, i64_id (by omega) (by omega), ?_⟩
      refine ⟨l.length, by have := lenIs_ro roh; simpa using this, ?_⟩
      refine ⟨(l.length : Int) - 1, i64_id (by omega) (by omega), ?_⟩
      obtain ⟨kk, hkk, hkl⟩ : ∃ kk : Nat, x.tmod ((l.length : Int) - 1) = kk ∧ kk + 1 < l.length := by
        have h1 : 0 ≤ x.tmod ((l.length : Int) - 1) := Int.tmod_nonneg _ hx.1
        have h2 : x.tmod ((l.length : Int) - 1) < (l.length : Int) - 1 := Int.tmod_lt_of_pos _ (by omega)
        exact ⟨(x.tmod ((l.length : Int) - 1)).toNat, by omega, by omega⟩
      refine And.intro (by omega) ⟨kk, hkk, ?_⟩
      have rl := rc.lt
      obtain ⟨pre, a, b, post, hp, hpre⟩ := cut2 (p := p) (k := kk) (by omega)
      subst hpre
      have hal : a < l.length := rl.2 a (by rw [hp]; simp)
      have hbl : b < l.length := rl.2 b (by rw [hp]; simp)
      rcases roh with ⟨_, he⟩ | ⟨bl, rfl, hbl2, gl⟩
      · simp at he; subst he; simp at hal
      have pa : (p.map intV)[pre.length]? = some (intV a) := by rw [hp]; simp
      have pb : (p.map intV)[pre.length + 1]? = some (intV b) := by rw [hp]; simp
      have la : (l.map stepV)[a]? = some (stepV (l.getD a dfl)) := by simp [hal]
      have lb : (l.map stepV)[b]? = some (stepV (l.getD b dfl)) := by simp [hbl]
      refine ⟨ba, [], 0, l.length, pre.length, pre.length, rfl, rfl, by omega, by omega, ?_⟩
      refine read1 (by exact g) pa ?_
      refine ⟨bl, [], 0, l.length, a, a, by simp, rfl, hal, by omega, ?_⟩
      refine read1 (by exact gl) la ?_
      refine ⟨((pre.length + 1 : Nat) : Int), by rw [i64_id (by omega) (by omega)]; rfl, ?_⟩
      refine ⟨ba, [], 0, l.length, pre.length + 1, pre.length + 1, rfl, rfl, by omega, by omega, ?_⟩
      refine read1 (by exact g) pb ?_
      refine ⟨bl, [], 0, l.length, b, b, by simp, rfl, hbl, by omega, ?_⟩
      refine read1 (by exact gl) lb ?_
      have hba : ba < h.next := Nat.lt_of_lt_of_le lba F.1
      refine fun g1 m1 => ?_
      refine fun g2 m2 => ?_
      have b1 := m1.next
      have b2 := m2.next
      rw [if_neg (by show _ ≠ h.next + 19; omega)] at b1
      rw [if_neg (by rw [b1]; show _ ≠ h.next + 19; omega)] at b2
      have b1 : g1.next = h.next + 19 := b1
      refine And.intro rfl ⟨_, _, _, m2.ne m1.at (by omega), by decide, fun g3 u3 => ?_⟩
      have K3 : Keep h g3 := ((((Keep.refl h).trans (Keep.bump h 19)).new m1 (by omega)).new m2 (by omega)).upd u3 (by omega)
      refine And.intro ⟨rfl, read1 (K3.to gl hbl2) lb rfl⟩ (And.intro ⟨rfl, read1 (K3.to g hba) pb rfl⟩ ?_)
      refine And.intro rfl ⟨_, _, _, u3.ne m2.at (by omega), by decide, fun g4 u4 => ?_⟩
      have K4 : Keep h g4 := K3.upd u4 (by omega)
      have n3 : g3.next = g2.next := u3.next
      have n4 : g4.next = g3.next := u4.next
      have x4 := u4.ne u3.at (by omega)
      have y4 := u4.at
      refine ⟨_, _, _, x4, ?_⟩
      refine sel_intro (fun c3 => ?_) (fun c3 => ?_)
      · refine ⟨_, _, _, y4, ?_⟩
        refine sel_intro (fun c4 => ?_) (fun c4 => ?_)
        · refine ⟨_, _, _, x4, ?_⟩
          refine ⟨_, _, _, y4, ?_⟩
          refine sel_intro (fun c5 => ?_) (fun c5 => ?_)
          · have g4a : (g4.bump 18).get ba = some (.row .fixed 3 (p.map intV)) := K4.to g hba
            refine ⟨((pre.length + 1 : Nat) : Int), by rw [i64_id (by omega) (by omega)]; rfl, ?_⟩
            refine ⟨((pre.length + 1 : Nat) : Int), by rw [i64_id (by omega) (by omega)]; rfl, ?_⟩
            refine ⟨ba, [], 0, l.length, pre.length + 1, pre.length + 1, rfl, rfl, by omega, by omega, ?_⟩
            refine read1 (by exact g4a) pb ?_
            refine ⟨ba, [], 0, l.length, pre.length, pre.length, rfl, rfl, by omega, by omega, ?_⟩
            refine read1 (by exact g4a) pa ?_
            refine ⟨ba, [], 0, l.length, pre.length, pre.length, rfl, rfl, by omega, by omega, ?_⟩
            refine And.intro rfl (write1 (by exact g4a) (by decide) (by rw [List.length_map]; omega) fun g5 u5 => ?_)
            refine ⟨ba, [], 0, l.length, pre.length + 1, pre.length + 1, rfl, rfl, by omega, by omega, ?_⟩
            refine And.intro rfl (write1 u5.at (by decide) (by rw [List.length_set, List.length_map]; omega) fun g6 u6 => ?_)
            refine ⟨((i + 1 : Nat) : Int), by rw [i64_id (by omega) (by omega)]; rfl, ?_⟩
            rw [hp] at rc
            refine ih (i + 1) (pre ++ b :: a :: post) _ _ (by omega) ⟨rfl, rfl, rfl, rfl, rfl, rfl, rfl, rfl, rfl, trivial⟩ ((((F.keep K4).bump).upd u5 (.inl rfl)).upd u6 (.inl rfl)) (.swap pre a b post rc (by simpa using c3) (by simpa using c4) ?_) ?_
            · have c5 : ((l.getD a dfl).at_ != (l.getD b dfl).at_) = true := c5
              simpa using c5
            · rw [u6.at, hp]
              congr 2
              exact swap_map
          · refine ⟨((i + 1 : Nat) : Int), by rw [i64_id (by omega) (by omega)]; rfl, ?_⟩
            exact ih (i + 1) p _ _ (by omega) ⟨rfl, rfl, rfl, rfl, rfl, rfl, rfl, rfl, rfl, trivial⟩ (F.keep K4) rc (K4.to g hba)
        · refine ⟨((i + 1 : Nat) : Int), by rw [i64_id (by omega) (by omega)]; rfl, ?_⟩
          exact ih (i + 1) p _ _ (by omega) ⟨rfl, rfl, rfl, rfl, rfl, rfl, rfl, rfl, rfl, trivial⟩ (F.keep K4) rc (K4.to g hba)
      · refine ⟨((i + 1 : Nat) : Int), by rw [i64_id (by omega) (by omega)]; rfl, ?_⟩
        exact ih (i + 1) p _ _ (by omega) ⟨rfl, rfl, rfl, rfl, rfl, rfl, rfl, rfl, rfl, trivial⟩ (F.keep K4) rc (K4.to g hba)
    · exfalso; simp only [decide_eq_false_iff_not] at c1; omega
end Go.Dam.S

namespace Go.Dam.S
open Go Go.Dam
abbrev base5 (ls pk : AV) (pn ps pt ba bo n : Nat) : EL := (18, .fn 18 [] []) :: (19, .slice bo [] 0 n 3) :: base4 ls pk pn ps pt ba n
def toldV (l : List Stp) (N : Nat) (j : Nat) : AV := .int .i64 (toldS N (l.getD j dfl))
def bodyC : ACode := (.seq (.reg f4r25) (.seq (.cond (.t 142) .skip (.exit 4)) (.seq (.block 5 (.seq (.reg f4r26) (.reg f4r27))) (.reg f4r28))))
theorem loopC {ls pk z : AV} {l : List Stp} {pn ps pt ba bo b bs : Nat} {S0 : St} (hn : l.length ≤ 100) (hs0 : S0.steps ≤ 1000) {h0 : H} (ro : IsRo h0 ls 44 (l.map stepV)) (d1 : ps ≠ b) (d2 : ps ≠ bs) (d3 : ps ≠ bo) (d4 : bo ≠ b) (d5 : bo ≠ bs) (gps : h0.get ps = some (.row .fixed 40 [.ptr b [0] 171])) (lps : ps < h0.next) (lbo : bo < h0.next)
    (nro : ∀ c k xs, (c = b ∨ c = bs ∨ c = bo) → h0.get c ≠ some (.row .ro k xs)) {k : List Item} {Q : Env → H → Prop}
    (hk : ∀ r h q, agree r (base5 ls pk pn ps pt ba bo l.length) → Fr (fun c => c = b ∨ c = bs ∨ c = bo) h0 h → (∀ c, q = some c → h0.next ≤ c) → Sl h b bs q (run S0 l) → h.get bo = some (.row .fixed 3 ((List.range l.length).map (toldV l S0.sure.length))) → Wp T k r h Q) :
    ∀ (d i : Nat) (r : Env) (h : H) (q : Option Nat), i + d = l.length → agree r ((139, ls) :: (140, .int .i64 l.length) :: (141, .int .i64 i) :: base5 ls pk pn ps pt ba bo l.length) → Fr (fun c => c = b ∨ c = bs ∨ c = bo) h0 h → (∀ c, q = some c → h0.next ≤ c) → Sl h b bs q (run S0 (l.take i)) → h.get bo = some (.row .fixed 3 (fillR l.length i (toldV l S0.sure.length) z)) →
      Wp T (.inLoop bodyC :: .inBlock 4 :: k) r h Q := by
  intro d
  induction d with
  | zero =>
    intro i r h q hi ha F hq s g
    refine wp_inLoop (wp_q (items := [.code bodyC, .inLoop bodyC, .inBlock 4]) 50 ha ?_)
    unfold bodyC
    refine sel_intro (fun c1 => ?_) (fun c1 => ?_)
    · exfalso; simp only [decide_eq_true_eq] at c1; omega
    · refine hk _ _ q ⟨rfl, rfl, rfl, rfl, rfl, rfl, rfl, rfl, trivial⟩ F hq ?_ ?_
      · rw [show i = l.length by omega, List.take_length] at s
        exact s
      · rw [show i = l.length by omega, fillR_all] at g
        exact g
  | succ d ih =>
    intro i r h q hi ha F hq s g
    refine wp_inLoop (wp_q (items := [.code bodyC, .inLoop bodyC, .inBlock 4]) 200 ha ?_)
    unfold bodyC
    refine sel_intro (fun c1 => ?_) (fun c1 => ?_)
    · have hil : i < l.length := by omega
      rcases ro.fr F nro with ⟨_, he⟩ | ⟨bl, rfl, hbl, gl⟩
      · simp at he; subst he; simp at hil
      have q0 := F.1
      refine ⟨bl, [], 0, l.length, i, i, by simp, rfl, hil, by omega, ?_⟩
      refine read1 gl (v := stepV l[i]) (by simp [hil]) ?_
      refine fun g1 m1 => ?_
      have n1 := m1.nx
      refine And.intro rfl ⟨_, _, _, m1.at, by decide, fun g2 u2 => ?_⟩
      have n2 : g2.next = g1.next := u2.next
      have k2 : Keep h g2 := ((Keep.refl h).new m1 (Nat.le_refl _)).upd u2 (Nat.le_refl _)
      refine ⟨_, _, _, k2.to (F.to gps lps (by omega)) (by omega), ?_⟩
      refine ⟨_, _, _, u2.at, ?_⟩
      have hsteps : (run S0 (l.take i)).steps < 1000000 := by
        have := run_steps (l.take i) S0
        rw [List.length_take] at this
        omega
      refine does18_ok (s.keep k2) hsteps (x := l[i]) (fun g3 q3 F3 hq3 s3 => ?_)
      rw [run_len]
      have n3 := F3.1
      have nbo : ¬ Own b bs q bo := by
        rintro (e | e | e)
        · exact d4 e
        · exact d5 e
        · have := hq bo e; omega
      refine ⟨bo, [], 0, l.length, i, i, rfl, rfl, hil, by omega, ?_⟩
      refine And.intro rfl (write1 (F3.to (k2.to g (by omega)) (by omega) nbo) (by decide) (by rw [fillR_length]; exact hil) fun g4 u4 => ?_)
      have n4 : g4.next = g3.next := u4.next
      refine ⟨((i + 1 : Nat) : Int), by rw [i64_id (by omega) (by omega)]; rfl, ?_⟩
      have hq3' : ∀ c, q3 = some c → h0.next ≤ c := by
        intro c hc
        rcases hq3 with rfl | h3
        · exact hq c hc
        · have := h3 c hc; omega
      have F4 : Fr (fun c => c = b ∨ c = bs ∨ c = bo) h0 g4 := by
        refine ((F.keep k2).then F3 ?_).upd u4 (.inl (.inr (.inr rfl)))
        rintro c hc (e | e | e)
        · exact .inl e
        · exact .inr (.inl e)
        · have := hq c e; omega
      refine ih (i + 1) _ _ q3 (by omega) ⟨rfl, rfl, rfl, rfl, rfl, rfl, rfl, rfl, rfl, rfl, rfl, trivial⟩ F4 hq3' ?_ ?_
      · rw [run_take hil]
        have c3 : q3 ≠ some bo := fun e => by have := hq3' bo e; omega
        refine ⟨u4.ne s3.hb (Ne.symm d4), u4.ne s3.hs (Ne.symm d5), ?_, by have := s3.lb; omega, by have := s3.ls; omega, s3.ne, s3.wf, s3.qs⟩
        have := s3.hq
        cases q3 with
        | none => exact this
        | some c => exact ⟨this.1, by have := this.2.1; omega, u4.ne this.2.2 (fun e => c3 (by rw [e]))⟩
      · rw [u4.at, ← fillR_set]
        simp only [toldV, List.getD_eq_getElem?_getD, List.getElem?_eq_getElem hil, Option.getD_some]
    · exfalso; simp only [decide_eq_false_iff_not] at c1; omega

def bodyD : ACode := (.seq (.reg f4r30) (.seq (.cond (.t 157) .skip (.exit 6)) (.seq (.block 7 (.seq (.reg f4r31) (.seq (.draw f4r32) (.cond (.t 171) (.seq (.reg f4r33) .ret) .skip)))) (.reg f4r34))))
theorem loopD {ls pk : AV} {l : List Stp} {p : List Nat} {pn ps pt ba bo b bs : Nat} {S0 : St} (hn : l.length ≤ 100) (hs0 : S0.steps ≤ 1000) (hpl : p.length = l.length) (hp : ∀ j ∈ p, j < l.length) {h0 : H} (ro : IsRo h0 ls 44 (l.map stepV)) (d1 : pt ≠ b) (d2 : pt ≠ bs) (d4 : bo ≠ b) (d5 : bo ≠ bs) (d6 : ba ≠ b) (d7 : ba ≠ bs) (gpt : h0.get pt = some (.row .fixed 40 [.ptr b [0] 171])) (lpt : pt < h0.next)
    (gbo : h0.get bo = some (.row .fixed 3 ((List.range l.length).map (toldV l S0.sure.length)))) (lbo : bo < h0.next) (gba : h0.get ba = some (.row .fixed 3 (p.map intV))) (lba : ba < h0.next)
    (nro : ∀ c k xs, (c = b ∨ c = bs) → h0.get c ≠ some (.row .ro k xs)) {k : List Item} {Q : Env → H → Prop}
    (hk : ∀ r h q, agree r (base5 ls pk pn ps pt ba bo l.length) → Fr (fun c => c = b ∨ c = bs) h0 h → (∀ c, q = some c → h0.next ≤ c) → Sl h b bs q (run S0 (p.map fun j => l.getD j dfl)) → Wp T k r h Q) :
    ∀ (d i : Nat) (r : Env) (h : H) (q : Option Nat), i + d = l.length → agree r ((154, .slice ba [] 0 l.length 3) :: (155, .int .i64 l.length) :: (156, .int .i64 i) :: base5 ls pk pn ps pt ba bo l.length) → Fr (fun c => c = b ∨ c = bs) h0 h → (∀ c, q = some c → h0.next ≤ c) → Sl h b bs q (run S0 ((p.map fun j => l.getD j dfl).take i)) →
      Wp T (.inLoop bodyD :: .inBlock 6 :: k) r h Q := by
  intro d
  induction d with
  | zero =>
    intro i r h q hi ha F hq s
    refine wp_inLoop (wp_q (items := [.code bodyD, .inLoop bodyD, .inBlock 6]) 50 ha ?_)
    unfold bodyD
    refine sel_intro (fun c1 => ?_) (fun c1 => ?_)
    · exfalso; simp only [decide_eq_true_eq] at c1; omega
    · refine hk _ _ q ⟨rfl, rfl, rfl, rfl, rfl, rfl, rfl, rfl, trivial⟩ F hq ?_
      rw [List.take_of_length_le (by rw [List.length_map]; omega)] at s
      exact s
  | succ d ih =>
    intro i r h q hi ha F hq s
    refine wp_inLoop (wp_q (items := [.code bodyD, .inLoop bodyD, .inBlock 6]) 200 ha ?_)
    unfold bodyD
    refine sel_intro (fun c1 => ?_) (fun c1 => ?_)
    · have hil : i < l.length := by omega
      rcases ro.fr F nro with ⟨_, he⟩ | ⟨bl, rfl, hbl, gl⟩
      · simp at he; subst he; simp at hil
      have q0 := F.1
      have hip : i < p.length := by omega
      have hj := hp p[i] (List.getElem_mem hip)
      have k1 := Keep.bump h 12
      refine ⟨ba, [], 0, l.length, i, i, rfl, rfl, hil, by omega, ?_⟩
      refine read1 (F.to gba lba (by omega)) (v := intV p[i]) (by simp [hip]) ?_
      refine ⟨_, _, _, F.to gpt lpt (by omega), ?_⟩
      refine ⟨bl, [], 0, l.length, p[i], p[i], by simp, rfl, hj, by omega, ?_⟩
      refine read1 (by exact gl) (v := stepV (l.getD p[i] dfl)) (by simp [hj]) ?_
      have hsteps : (run S0 ((p.map fun j => l.getD j dfl).take i)).steps < 1000000 := by
        have := run_steps ((p.map fun j => l.getD j dfl).take i) S0
        rw [List.length_take] at this
        omega
      refine does18_ok (s.keep k1) hsteps (x := l.getD p[i] dfl) (fun g3 q3 F3 hq3 s3 => ?_)
      rw [run_len]
      have n3 : h.next + 12 ≤ g3.next := F3.1
      have nbo : ¬ Own b bs q bo := by
        rintro (e | e | e)
        · exact d4 e
        · exact d5 e
        · have := hq bo e; omega
      have gbh := F.to gbo lbo (by omega)
      refine ⟨bo, [], 0, l.length, p[i], p[i], rfl, rfl, hj, by omega, ?_⟩
      have hv : ((List.range l.length).map (toldV l S0.sure.length))[p[i]]? = some (toldV l S0.sure.length p[i]) := by simp [hj]
      refine read1 (F3.to (k1.to gbh (by omega)) (by show bo < h.next + 12; omega) nbo) hv ?_
      refine And.intro ⟨rfl, read1 (by exact gbh) hv rfl⟩ ?_
      refine sel_intro (fun c2 => ?_) (fun c2 => ?_)
      · exfalso
        simp at c2
      refine ⟨((i + 1 : Nat) : Int), by rw [i64_id (by omega) (by omega)]; rfl, ?_⟩
      have hq3' : ∀ c, q3 = some c → h0.next ≤ c := by
        intro c hc
        rcases hq3 with rfl | h3
        · exact hq c hc
        · have : h.next + 12 ≤ c := h3 c hc
          omega
      have F4 : Fr (fun c => c = b ∨ c = bs) h0 g3 := by
        refine (F.keep k1).then F3 ?_
        rintro c hc (e | e | e)
        · exact .inl e
        · exact .inr e
        · have := hq c e; omega
      refine ih (i + 1) _ _ q3 (by omega) ⟨rfl, rfl, rfl, rfl, rfl, rfl, rfl, rfl, rfl, rfl, rfl, trivial⟩ F4 hq3' ?_
      rw [run_take (by rw [List.length_map]; omega), List.getElem_map]
      exact s3
    · exfalso; simp only [decide_eq_false_iff_not] at c1; omega
end Go.Dam.S

namespace Go.Dam.S
open Go Go.Dam
theorem Sl.fr {h g : H} {b bs : Nat} {q : Option Nat} {S : St} {P : Nat → Prop} (s : Sl h b bs q S) (k : Fr P h g) (h1 : ¬ P b) (h2 : ¬ P bs) (h3 : ∀ c, q = some c → ¬ P c) : Sl g b bs q S := by
  have l1 := k.1
  have := s.lb
  have := s.ls
  refine ⟨k.to s.hb s.lb h1, k.to s.hs s.ls h2, ?_, by omega, by omega, s.ne, s.wf, s.qs⟩
  have := s.hq
  cases q with
  | none => exact this
  | some c => exact ⟨this.1, by have := this.2.1; omega, k.to this.2.2 this.2.1 (h3 c rfl)⟩
theorem wakes_ok {h : H} {K : AV → H → Prop} (hK : K (.bool true) h) : Cw T 11 [] h K := ⟨by unfold CwD; rw [exw]; exact hK⟩
def stepShp : Shp := .agg 44 [.bool, .int .i64, .int .u8]
set_option maxRecDepth 4000 in
theorem law4 (h : H) (avs : List AV) (ha : ArgsOf h [.int .i64, .slice 44 stepShp, .slice 5 (.int .u8)] avs) : Cw T 4 avs h fun v _ => v = .bool true := by
  obtain ⟨_, r0, rfl, ⟨n, rfl, hn0, hn1⟩, ls, r1, rfl, hls, pk, r2, rfl, hpk, hr⟩ := ha
  simp only [ArgsOf] at hr
  subst hr
  obtain ⟨l, ro, hmax, _⟩ := slice_arg (f := stepV) (p := fun _ => True) hls (fun x hx => by
    obtain ⟨_, rfl, _, _, rfl, ⟨a, rfl⟩, _, _, rfl, ⟨b, rfl, _, _⟩, _, _, rfl, ⟨c, rfl, _, _⟩, hx⟩ := hx
    simp only [ArgsOf] at hx
    subst hx
    exact ⟨⟨a, b, c⟩, rfl, trivial⟩)
  obtain ⟨pks, rp, hmax2, hpos⟩ := slice_arg (f := u8V) (p := fun x => 0 ≤ x ∧ x ≤ 255) hpk (fun x hx => by
    obtain ⟨a, rfl, a0, a1⟩ := hx
    exact ⟨a, rfl, a0, a1⟩)
  refine cw_q 600 (ex4 _) fn4 ?_
  refine And.intro rfl (fun g1 m1 => ?_)
  have k1 : Keep h g1 := (Keep.refl h).new m1 (Nat.le_refl _)
  have n1 := m1.nx
  refine wakes_ok ?_
  refine ⟨_, _, _, m1.at, ?_⟩
  by_cases hbad : n < 1 ∨ n > 4096
  · refine snew_ok (fun _ => ?_) (fun m hm h1 h2 => by omega)
    refine fun g2 m2 => ?_
    refine And.intro rfl ⟨_, _, _, m2.at, by decide, fun g3 u3 => ?_⟩
    refine ⟨_, _, _, u3.ne (m2.ne m1.at (by omega)) (by omega), ?_⟩
    refine snew_ok (fun _ => ?_) (fun m hm h1 h2 => by omega)
    refine fun g4 m4 => ?_
    refine And.intro rfl ⟨_, _, _, m4.at, by decide, fun g5 u5 => ?_⟩
    exact ⟨_, rfl, rfl, rfl⟩
  refine snew_ok (fun hh => (hbad hh).elim) (fun m hm hm1 hm2 g2 b bs k2 lb lbs s => ?_)
  subst hm
  have n2 := k2.1
  refine fun g3 m3 => ?_
  have n3 := m3.nx
  refine And.intro rfl ⟨_, _, _, m3.at, by decide, fun g4 u4 => ?_⟩
  have n4 : g4.next = g3.next := u4.next
  have k4 : Keep g2 g4 := ((Keep.refl g2).new m3 (Nat.le_refl _)).upd u4 (Nat.le_refl _)
  have p1 := k4.to (k2.to m1.at (by omega)) (by omega)
  refine ⟨_, _, _, p1, ?_⟩
  refine snew_ok (fun hh => (hbad hh).elim) (fun m' hm' _ _ g5 b' bs' k5 lb' lbs' s' => ?_)
  have hm' : m' = m := by omega
  subst hm'
  have n5 := k5.1
  have lb2 := s.lb
  have ls2 := s.ls
  have lb5 := s'.lb
  have ls5 := s'.ls
  refine fun g6 m6 => ?_
  have n6 := m6.nx
  refine And.intro rfl ⟨_, _, _, m6.at, by decide, fun g7 u7 => ?_⟩
  have n7 : g7.next = g6.next := u7.next
  have k7 : Keep g5 g7 := ((Keep.refl g5).new m6 (Nat.le_refl _)).upd u7 (Nat.le_refl _)
  have kh7 : Keep h g7 := (((k1.trans k2).trans k4).trans k5).trans k7
  have ro7 := ro.keep kh7
  have rp7 := rp.keep kh7
  refine ⟨l.length, by have := lenIs_ro ro7; simpa using this, ?_⟩
  refine sel_intro (fun c1 => ⟨_, rfl, rfl, rfl⟩) (fun c1 => ?_)
  refine ⟨pks.length, by have := lenIs_ro rp7; simpa using this, ?_⟩
  refine sel_intro (fun c2 => ⟨_, rfl, rfl, rfl⟩) (fun c2 => ?_)
  have p7 := k7.to (k5.to p1 (by omega)) (by omega)
  refine ⟨_, _, _, p7, ?_⟩
  refine sel_intro (fun c3 => ⟨_, rfl, rfl, rfl⟩) (fun c3 => ?_)
  simp only [decide_eq_false_iff_not] at c1 c2 c3
  have s7 : Sl g7 b bs none _ := s.keep (k4.trans (k5.trans k7))
  have s7' : Sl g7 b' bs' none _ := s'.keep k7
  have ps7 := k7.to (k5.to u4.at (by omega)) (by omega)
  have pt7 := u7.at
  have hn : l.length ≤ 100 := by omega
  refine ⟨l.length, by have := lenIs_ro ro7; simpa using this, ?_⟩
  refine ⟨l.length, l.length, rfl, rfl, Nat.le_refl _, by omega, fun g8 m8 => ?_⟩
  have n8 := m8.nx
  have k8 : Keep g7 g8 := (Keep.refl g7).new m8 (Nat.le_refl _)
  refine ⟨l.length, lenIs_slice, ?_⟩
  refine wp_loop_of (loopA (ls := ls) (pk := pk) (pn := h.next) (ps := g2.next) (pt := g5.next) (ba := g7.next) (z := zeroOf T.te zeroFuel 3) hn (fun r g9 ha F9 ga => ?_) l.length 0 _ g8 (by omega) ⟨rfl, rfl, rfl, rfl, rfl, rfl, rfl, rfl, rfl, trivial⟩ (Fr.refl _ _) (by rw [fillR_zero]; exact m8.at))
  have k9 : Keep g7 g9 := by
    refine ⟨by have := F9.1; omega, fun c hc => ?_⟩
    rw [F9.2 c (by omega) (by omega)]
    exact k8.2 c hc
  have n9 := k9.1
  have l9 := F9.1
  refine wp_q0 300 ha ?_
  refine ⟨pks.length, by have := lenIs_ro rp7; simpa using this, ?_⟩
  refine wp_loop_of (loopB hn (by omega) hpos (ro7.keep k9) (rp7.keep k9) ga (by omega) (fun r g10 p ha F10 rc gp => ?_) pks.length 0 _ _ g9 (by omega) ⟨rfl, rfl, rfl, rfl, rfl, rfl, rfl, rfl, rfl, trivial⟩ (Fr.refl _ _) .id ga)
  have l10 := F10.1
  have k10 : Keep g7 g10 := by
    refine ⟨by omega, fun c hc => ?_⟩
    rw [F10.2 c (by omega) (by omega)]
    exact k9.2 c hc
  refine wp_q0 300 ha ?_
  refine ⟨l.length, by have := lenIs_ro ro7; simpa using this, ?_⟩
  refine ⟨l.length, l.length, rfl, rfl, Nat.le_refl _, by omega, fun g11 m11 => ?_⟩
  have n11 := m11.nx
  have k11 : Keep g7 g11 := k10.new m11 (by omega)
  refine ⟨l.length, by have := lenIs_ro ro7; simpa using this, ?_⟩
  have s11 := s7.keep k11
  have s11' := s7'.keep k11
  have gp11 := m11.ne gp (by omega)
  refine wp_loop_of (loopC (ls := ls) (pk := pk) (pn := h.next) (ps := g2.next) (pt := g5.next) (ba := g7.next) (bo := g10.next) (b := b) (bs := bs) (z := zeroOf T.te zeroFuel 3) (S0 := ⟨List.replicate m' zsec, [], 0⟩) hn (by simp) (ro7.keep k11) (by omega) (by omega) (by omega) (by omega) (by omega) (k11.to ps7 (by omega)) (by omega) (by omega) ?_ (fun r g12 q ha F12 hq s12 gt => ?_) l.length 0 _ g11 none (by omega) ⟨rfl, rfl, rfl, rfl, rfl, rfl, rfl, rfl, rfl, rfl, rfl, trivial⟩ (Fr.refl _ _) (fun c hc => by cases hc) s11 (by rw [fillR_zero]; exact m11.at))
  · rintro c kk xs (rfl | rfl | rfl) hc
    · rw [s11.hb] at hc; cases hc
    · rw [s11.hs] at hc; cases hc
    · rw [m11.at] at hc; cases hc
  have n12 := F12.1
  refine wp_q0 300 ha ?_
  refine ⟨l.length, lenIs_slice, ?_⟩
  have hrl := rc.lt
  have s12' := s11'.fr F12 (by omega) (by omega) (fun c hc => by cases hc)
  have ro12 : IsRo g12 ls 44 (l.map stepV) := by
    refine (ro7.keep k11).fr F12 ?_
    rintro c kk xs (rfl | rfl | rfl) hc
    · rw [s11.hb] at hc; cases hc
    · rw [s11.hs] at hc; cases hc
    · rw [m11.at] at hc; cases hc
  refine wp_loop_of (loopD (ls := ls) (pk := pk) (pn := h.next) (ps := g2.next) (pt := g5.next) (ba := g7.next) (bo := g10.next) (b := b') (bs := bs') (p := p) (S0 := ⟨List.replicate m' zsec, [], 0⟩) hn (by simp) hrl.1 hrl.2 ro12 (by omega) (by omega) (by omega) (by omega) (by omega) (by omega) (F12.to (k11.to pt7 (by omega)) (by omega) (by omega)) (by omega) gt (by omega) (F12.to gp11 (by omega) (by omega)) (by omega) ?_ (fun r g13 q' ha F13 hq' s13' => ?_) l.length 0 _ g12 none (by omega) ⟨rfl, rfl, rfl, rfl, rfl, rfl, rfl, rfl, rfl, rfl, rfl, trivial⟩ (Fr.refl _ _) (fun c hc => by cases hc) s12')
  · rintro c kk xs (rfl | rfl) hc
    · rw [s12'.hb] at hc; cases hc
    · rw [s12'.hs] at hc; cases hc
  have n13 := F13.1
  have s13 := s12.fr F13 (by omega) (by omega) (fun c hc => by have := hq c hc; omega)
  have E := rc.eqv ⟨List.replicate m' zsec, [], 0⟩
  have hlen : (run ⟨List.replicate m' zsec, [], 0⟩ l).sure.length = m' := by rw [run_len]; simp
  have hst : (run ⟨List.replicate m' zsec, [], 0⟩ l).steps < 1000000 := by
    have := run_steps l ⟨List.replicate m' zsec, [], 0⟩
    simp only at this
    omega
  have o1 := F13.to (F12.to (k11.to p7 (by omega)) (by omega) (by omega)) (by omega) (by omega)
  have o2 := F13.to (F12.to (k11.to ps7 (by omega)) (by omega) (by omega)) (by omega) (by omega)
  have o3 := F13.to (F12.to (k11.to pt7 (by omega)) (by omega) (by omega)) (by omega) (by omega)
  refine wp_q0 300 ha ?_
  refine same_ok s13 s13' E.like hst (by rw [hlen]; exact hm2) (by rw [hlen]; exact o1) o2 o3 (by omega) (by omega) (fun g14 k14 => ?_)
  have n14 := k14.1
  refine ⟨_, _, _, k14.to o2 (by omega), ?_⟩
  refine crash_ok (s13.keep k14) (fun g15 F15 s15 => ?_)
  have n15 := F15.1
  have nq : ∀ c, (g1.next ≤ c ∧ c < g11.next ∧ c ≠ b ∧ c ≠ bs) ∨ c < g1.next → ¬ Own b bs q c := by
    rintro c hc (e | e | e)
    · omega
    · omega
    · have := hq c e; omega
  refine ⟨_, _, _, F15.to (k14.to o3 (by omega)) (by omega) (nq _ (.inl (by omega))), ?_⟩
  have s15' := (s13'.keep k14).fr F15 (nq _ (.inl (by omega))) (nq _ (.inl (by omega))) (fun c hc => by
    have h1 := hq' c hc
    rintro (e | e | e)
    · omega
    · omega
    · have h2 := s12.hq
      rw [e] at h2
      have := h2.2.1
      omega)
  refine crash_ok s15' (fun g16 F16 s16' => ?_)
  have nq' : ∀ c, c < g12.next → c ≠ b' → c ≠ bs' → ¬ Own b' bs' q' c := by
    rintro c hc h1 h2 (e | e | e)
    · exact h1 e
    · exact h2 e
    · have := hq' c e; omega
  have s16 := s15.fr F16 (nq' _ (by omega) (by omega) (by omega)) (nq' _ (by omega) (by omega) (by omega)) (fun c hc => by cases hc)
  have on : ∀ {c y}, g13.get c = some y → c < g1.next ∨ (g2.next ≤ c ∧ c < g4.next) ∨ (g5.next ≤ c ∧ c < g7.next) → g16.get c = some y := by
    intro c y hc hr
    refine F16.to (F15.to (k14.to hc (by omega)) (by omega) (nq _ (by omega))) (by omega) (nq' _ (by omega) (by omega) (by omega))
  have hsure : (run ⟨List.replicate m' zsec, [], 0⟩ l).crash.sure.length = m' := hlen
  refine same_ok s16 s16' E.crash hst (by rw [hsure]; exact hm2) (by rw [hsure]; exact on o1 (by omega)) (on o2 (by omega)) (on o3 (by omega)) (by have := F16.1; omega) (by have := F16.1; omega) (fun g17 k17 => ?_)
  exact ⟨_, rfl, rfl, rfl⟩
end Go.Dam.S
