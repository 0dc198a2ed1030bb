/- A joiner of pieces: the walks of its functions. No conditions. -/
import Derived.Test.YtoipeoafcjjaeaaCode
import Derived.Test.YtoipeoafcjjaeaaDamD
namespace Go.Dam.S
open Go Go.Dam
/-- bytes that may be read -/
def IsB (h : H) (v : AV) (l : List AV) : Prop := (v = .nils ∧ l = []) ∨ ∃ c o k xs, v = .slice c [] o l.length 5 ∧ c < h.next ∧ h.get c = some (.row k 5 xs) ∧ o + l.length ≤ xs.length ∧ (xs.drop o).take l.length = l
/-- places where no bytes lie -/
def NoB (h : H) (S : Nat → Prop) : Prop := ∀ c, S c → ∀ k xs, h.get c ≠ some (.row k 5 xs)
theorem IsB.fr {h g : H} {v : AV} {l : List AV} {S : Nat → Prop} (b : IsB h v l) (F : Fr S h g) (n : NoB h S) : IsB g v l := by
  rcases b with b | ⟨c, o, k, xs, h1, h2, h3, h4⟩
  · exact .inl b
  · exact .inr ⟨c, o, k, xs, h1, Nat.lt_of_lt_of_le h2 F.1, F.to h3 h2 (fun s => n c s k xs h3), h4⟩
theorem IsB.keep {h g : H} {v : AV} {l : List AV} (b : IsB h v l) (k : Keep h g) : IsB g v l := b.fr (S := fun _ => False) k.fr (fun _ h => h.elim)
theorem IsB.len {h : H} {v : AV} {l : List AV} (b : IsB h v l) : lenIs v l.length := by
  rcases b with ⟨rfl, rfl⟩ | ⟨c, o, k, xs, rfl, _⟩
  · exact lenIs_nils
  · exact lenIs_slice
theorem IsB.src {h : H} {v : AV} {l : List AV} (b : IsB h v l) : Src 5 false h v l := by
  rcases b with ⟨rfl, rfl⟩ | ⟨c, o, k, xs, rfl, _, h3, h4, h5⟩
  · exact src_nils
  · have := src_row (e := 5) (off := o) (n := l.length) h3 h4
    rwa [h5] at this
theorem IsB.notTup {h : H} {v : AV} {l : List AV} (b : IsB h v l) : v.isTup = false := by
  rcases b with ⟨rfl, rfl⟩ | ⟨c, o, k, xs, rfl, _⟩ <;> rfl
theorem IsB.kd {h : H} {v : AV} {l : List AV} (b : IsB h v l) : Kd.slice.ok v = true := by
  rcases b with ⟨rfl, rfl⟩ | ⟨c, o, k, xs, rfl, _⟩ <;> rfl
theorem IsB.one {h : H} {v : AV} {ys : List AV} (o : IsB h v ys) {i : Nat} {y : AV} (hi : ys[i]? = some y) : ∃ c off k xs, v = .slice c [] off ys.length 5 ∧ h.get c = some (.row k 5 xs) ∧ xs[off + i]? = some y ∧ c < h.next := by
  have hl := (List.getElem?_eq_some_iff.1 hi).1
  rcases o with ⟨_, rfl⟩ | ⟨c, o, k, xs, h1, h2, h3, h4, h5⟩
  · simp at hi
  · refine ⟨c, o, k, xs, h1, h3, ?_, h2⟩
    have : ((xs.drop o).take ys.length)[i]? = some y := by rw [h5]; exact hi
    rw [List.getElem?_take, if_pos hl, List.getElem?_drop] at this
    exact this
theorem isRo_b {h : H} {v : AV} {l : List AV} (r : IsRo h v 5 l) : IsB h v l := by
  rcases r with r | ⟨c, h1, h2, h3⟩
  · exact .inl r
  · exact .inr ⟨c, 0, _, _, h1, h2, h3, by omega, by simp⟩
theorem str_ok {te : TypeId → ATy} {r : Env} {nid : Nat} {x : Opnd} {h : H} {l : List AV} {s : List UInt8} {K : AV → H → Prop} (b : IsB h (x.ev r) l) (hs : bytesOf l = some s) (hK : K (.str ⟨s.toArray⟩) h) : optP (evOp te r h nid (.toStr x)) K := by
  rcases b with ⟨e, rfl⟩ | ⟨c, o, k, xs, e, _, h3, h4, h5⟩
  · simp only [bytesOf, Option.some.injEq] at hs
    subst hs
    unfold evOp
    simp only [e]
    exact hK
  · unfold evOp
    simp only [e, H.elems, H.read, h3, at?, h4, if_true, h5, hs]
    exact hK
def byteV (x : Int) : AV := .int .u8 x
theorem bytes_of (l : List Int) : ∃ s, bytesOf (l.map byteV) = some s := by
  induction l with
  | nil => exact ⟨[], rfl⟩
  | cons a l ih =>
    obtain ⟨s, hs⟩ := ih
    exact ⟨UInt8.ofNat a.toNat :: s, by rw [List.map_cons]; show (match bytesOf (l.map byteV) with | some r => some (UInt8.ofNat a.toNat :: r) | none => none) = _; rw [hs]⟩

/-! ### equal bytes -/
def body45 : ACode := (.seq (.reg f45r4) (.seq (.cond (.t 14) .skip (.exit 0)) (.seq (.block 1 (.seq (.reg f45r5) (.seq (.draw f45r6) (.cond (.t 24) (.seq (.reg f45r7) .ret) .skip)))) (.reg f45r8))))
theorem equalB_ok {v w : AV} {xs : List Int} {h : H} (hl : xs.length < 1000000) (r1 : IsB h v (xs.map byteV)) (r2 : IsB h w (xs.map byteV)) {K : AV → H → Prop} (hK : ∀ h', Keep h h' → K (.bool true) h') : Cw S.T 45 [v, w] h K := by
  refine cw_q 200 (ex45 _) fn45 ?_
  have l1 := r1.len
  have l2 := r2.len
  rw [List.length_map] at l1 l2
  refine ⟨xs.length, l1, ?_⟩
  refine ⟨xs.length, l2, ?_⟩
  refine sel_intro (fun c1 => ?_) (fun c1 => ?_)
  · exfalso; simp at c1
  refine ⟨xs.length, l1, ?_⟩
  have loop : ∀ (d i : Nat) (r : Env) (g : H), i + d = xs.length → agree r [(0, v), (1, w), (12, .int .i64 xs.length), (13, .int .i64 i)] → Keep h g → Wp S.T [.inLoop body45, .inBlock 0, .code (.seq (.reg f45r9) .ret)] r g (RetQ f45 K) := by
    intro d
    induction d with
    | zero =>
      intro i r g hi ha kg
      refine wp_inLoop (wp_q0 (items := [.code body45, .inLoop body45, .inBlock 0, .code (.seq (.reg f45r9) .ret)]) 50 ha ?_)
      unfold body45
      refine sel_intro (fun c1 => ?_) (fun c1 => ?_)
      · exfalso; simp only [decide_eq_true_eq] at c1; omega
      · exact ⟨_, rfl, rfl, hK g kg⟩
    | succ d ih =>
      intro i r g hi ha kg
      refine wp_inLoop (wp_q0 (items := [.code body45, .inLoop body45, .inBlock 0, .code (.seq (.reg f45r9) .ret)]) 100 ha ?_)
      unfold body45
      have hil : i < xs.length := by omega
      have hx : (xs.map byteV)[i]? = some (byteV xs[i]) := by simp [hil]
      obtain ⟨c, o, kk, zs, hv, hc, hz, lt⟩ := r1.one hx
      obtain ⟨c', o', kk', zs', hv', hc', hz', lt'⟩ := r2.one hx
      rw [List.length_map] at hv hv'
      refine sel_intro (fun c1 => ?_) (fun c1 => ?_)
      · refine ⟨c, [], o, xs.length, i, o + i, hv, rfl, hil, rfl, ?_⟩
        refine read1 (kg.to hc lt) hz ?_
        refine ⟨c', [], o', xs.length, i, o' + i, hv', rfl, hil, rfl, ?_⟩
        refine read1 (kg.to hc' lt') hz' ?_
        refine sel_intro (fun c2 => ?_) (fun c2 => ?_)
        · exfalso; simp at c2
        refine ⟨((i + 1 : Nat) : Int), by rw [i64_id (by omega) (by omega)]; rfl, ?_⟩
        exact ih (i + 1) _ _ (by omega) ⟨rfl, rfl, rfl, rfl, trivial⟩ (kg.trans (Keep.bump _ _))
      · exfalso; simp only [decide_eq_false_iff_not] at c1; omega
  exact wp_loop_of (loop xs.length 0 _ h (by omega) ⟨rfl, rfl, rfl, rfl, trivial⟩ (Keep.refl _))
/-- bytes, copied behind none -/
theorem app_fresh {lim : Nat} {h : H} {b : Nat} {y : AV} {l : List AV} {K : AV → H → Prop} (hb : h.get b = some (.row .fixed 5 [])) (lb : b < h.next) (hy : IsB h y l) (hl : l.length ≤ lim) (hK : ∀ h' v, Keep h h' → IsB h' v l → K v h') : AppP 5 false lim h (.slice b [] 0 0 5) y K := by
  cases l with
  | nil =>
    exact app_none hy.src (.inr ⟨_, _, _, _, rfl⟩) (hK h _ (Keep.refl _) (.inr ⟨b, 0, _, _, rfl, lb, hb, by simp, by simp⟩))
  | cons a l =>
    refine app_full hy.src hb (by simp) (by simp) (old := []) rfl (by simpa using hl) (fun g m => ?_)
    refine hK g _ ((Keep.refl h).new m (Nat.le_refl _)) (.inr ⟨h.next, 0, _, _, by simp, by rw [m.nx]; omega, m.at, by simp, by simp⟩)
theorem clone_ok {v : AV} {l : List AV} {h : H} (hl : l.length ≤ 8796093022208) (r : IsB h v l) {K : AV → H → Prop} (hK : ∀ h' w, Keep h h' → IsB h' w l → K w h') : Cw S.T 43 [v] h K := by
  refine cw_q 100 (ex43 _) fn43 ?_
  rcases r with ⟨rfl, rfl⟩ | ⟨c, o, k, xs, rfl, h2, h3, h4, h5⟩
  · exact ⟨_, rfl, rfl, hK h _ (Keep.refl _) (.inl ⟨rfl, rfl⟩)⟩
  · refine fun g1 m1 => ?_
    have k1 : Keep h g1 := (Keep.refl h).new m1 (Nat.le_refl _)
    have b1 : IsB g1 (.slice c [] o l.length 5) l := .inr ⟨c, o, k, xs, rfl, Nat.lt_of_lt_of_le h2 k1.1, k1.to h3 h2, h4, h5⟩
    refine app_fresh m1.at (by rw [m1.nx]; omega) b1 hl (fun g2 w k2 b2 => ?_)
    exact ⟨_, rfl, b2.notTup, hK g2 w (k1.trans k2) b2⟩
end Go.Dam.S

namespace Go.Dam.S
open Go Go.Dam
theorem wakes_ok {h : H} {K : AV → H → Prop} (hK : K (.bool true) h) : Cw T 11 [] h K := ⟨by unfold CwD; rw [exw]; exact hK⟩
structure Pc where
  id : Int
  at_ : Int
  many : Int
  part : List Int
def pcV (p : Pc) (v : AV) : AV := .agg 91 [.int .u32 p.id, .int .i64 p.at_, .int .i64 p.many, v]
def Pc.bytes (p : Pc) : List AV := p.part.map byteV
/-! ### which pieces are too great -/
def badP (p : Pc) : Bool := decide ((p.part.length : Int) > 600) || decide (p.id ≥ 2147483648)
theorem bad_ok {p : Pc} {v : AV} {h : H} (b : IsB h v p.bytes) {K : AV → H → Prop} (hK : ∀ h', Keep h h' → K (.bool (badP p)) h') : Cw S.T 42 [pcV p v] h K := by
  refine cw_q 100 (ex42 _) fn42 ?_
  refine And.intro rfl fun g1 m1 => ?_
  have k1 : Keep h g1 := (Keep.refl h).new m1 (Nat.le_refl _)
  have l1 := b.len
  unfold Pc.bytes at l1
  rw [List.length_map] at l1
  have hK := hK g1 k1
  unfold badP at hK
  refine ⟨_, _, _, m1.at, ?_⟩
  refine ⟨p.part.length, l1, ?_⟩
  refine sel_intro (fun c1 => ?_) (fun c1 => ?_)
  · have c1 : decide ((p.part.length : Int) > 600) = true := c1
    rw [c1] at hK
    exact ⟨_, rfl, rfl, hK⟩
  · have c1 : decide ((p.part.length : Int) > 600) = false := c1
    rw [c1, Bool.false_or] at hK
    refine ⟨_, _, _, m1.at, ?_⟩
    exact ⟨_, rfl, rfl, hK⟩
def elV (x : Pc × AV) : AV := pcV x.1 x.2
def body88 : ACode := (.seq (.reg f88r2) (.seq (.cond (.t 9) .skip (.exit 0)) (.seq (.block 1 (.seq (.reg f88r3) (.seq (.reg f88r4) (.cond (.t 16) (.seq (.reg f88r5) .ret) .skip)))) (.reg f88r6))))
theorem index_ok {lv : AV} {ds : List (Pc × AV)} {h : H} (hlen : ds.length < 4000000000000000000) (ro : IsRo h lv 91 (ds.map elV)) (hb : ∀ x ∈ ds, IsB h x.2 x.1.bytes) {K : AV → H → Prop} (hK : ∀ h' (n : Int), Keep h h' → (n < 0 → ∀ x ∈ ds, badP x.1 = false) → K (.int .i64 n) h') : Cw S.T 88 [lv, .fn 42 [] []] h K := by
  refine cw_q 100 (ex88 _) fn88 ?_
  have l1 := lenIs_ro ro
  rw [List.length_map] at l1
  refine ⟨ds.length, l1, ?_⟩
  have loop : ∀ (m i : Nat) (r : Env) (g : H), i + m = ds.length → (∀ x ∈ ds.take i, badP x.1 = false) → agree r [(0, lv), (1, .fn 42 [] []), (7, .int .i64 ds.length), (8, .int .i64 i)] → Keep h g → Wp S.T [.inLoop body88, .inBlock 0, .code (.seq (.reg f88r7) .ret)] r g (RetQ f88 K) := by
    intro m
    induction m with
    | zero =>
      intro i r g hi hp ha kg
      refine wp_inLoop (wp_q0 (items := [.code body88, .inLoop body88, .inBlock 0, .code (.seq (.reg f88r7) .ret)]) 50 ha ?_)
      unfold body88
      refine sel_intro (fun c1 => ?_) (fun c1 => ?_)
      · exfalso; simp only [decide_eq_true_eq] at c1; omega
      · refine ⟨_, rfl, rfl, hK g _ kg (fun _ => ?_)⟩
        rwa [List.take_of_length_le (by omega)] at hp
    | succ m ih =>
      intro i r g hi hp ha kg
      have hil : i < ds.length := by omega
      refine wp_inLoop (wp_q0 (items := [.code body88, .inLoop body88, .inBlock 0, .code (.seq (.reg f88r7) .ret)]) 100 ha ?_)
      unfold body88
      have hx : (ds.map elV)[i]? = some (elV ds[i]) := by simp [hil]
      have hbi := hb _ (List.getElem_mem hil)
      have hpre : badP ds[i].1 = false → ∀ x ∈ ds.take (i + 1), badP x.1 = false := by
        intro hf x hx
        rw [List.take_succ_eq_append_getElem hil, List.mem_append] at hx
        rcases hx with hx | hx
        · exact hp x hx
        · rw [List.mem_singleton] at hx; rw [hx]; exact hf
      generalize ds[i] = d at hx hbi hpre
      obtain ⟨c, o, kk, eb, zs, hv, hc, hz⟩ := ro.row.at hx
      rw [List.length_map] at hv
      refine sel_intro (fun c1 => ?_) (fun c1 => ?_)
      · have hc : g.get c = some (.row kk eb zs) := by
          rcases ro with ⟨e, _⟩ | ⟨c', e, e2, _⟩
          · rw [e] at hv; cases hv
          · rw [e] at hv
            simp only [AV.slice.injEq] at hv
            exact kg.to hc (by omega)
        refine ⟨c, [], o, ds.length, i, o + i, hv, rfl, hil, rfl, ?_⟩
        refine read1 hc hz ?_
        refine bad_ok (hbi.keep kg) (fun g1 k1 => ?_)
        refine sel_intro (fun c2 => ?_) (fun c2 => ?_)
        · exact ⟨_, rfl, rfl, hK g1 _ (kg.trans k1) (fun hh => by omega)⟩
        · refine ⟨((i + 1 : Nat) : Int), by rw [i64_id (by omega) (by omega)]; rfl, ?_⟩
          exact ih (i + 1) _ _ (by omega) (hpre c2) ⟨rfl, rfl, rfl, rfl, trivial⟩ (kg.trans k1)
      · exfalso; simp only [decide_eq_false_iff_not] at c1; omega
  exact wp_loop_of (loop ds.length 0 _ h (by omega) (fun x hx => by simp at hx) ⟨rfl, rfl, rfl, rfl, trivial⟩ (Keep.refl _))
theorem contains_ok {lv : AV} {ds : List (Pc × AV)} {h : H} (hlen : ds.length < 4000000000000000000) (ro : IsRo h lv 91 (ds.map elV)) (hb : ∀ x ∈ ds, IsB h x.2 x.1.bytes) {K : AV → H → Prop} (hK : ∀ h' b, Keep h h' → (b = false → ∀ x ∈ ds, badP x.1 = false) → K (.bool b) h') : Cw S.T 41 [lv, .fn 42 [] []] h K := by
  refine cw_q 100 (ex41 _) fn41 ?_
  refine index_ok hlen ro hb (fun g n k1 hn => ?_)
  exact ⟨_, rfl, rfl, hK g _ k1 (fun hf => hn (by simpa using hf))⟩

/-! ### joiners -/
structure Jn where
  id : Int
  many : Int
  have_ : Int
  bytes : Int
  parts : Nat → List Int
  got : Nat → Bool
  any : Bool
  done : Bool
def jV (J : Jn) (pv gv : AV) : AV := .agg 185 [.int .u32 J.id, .int .i64 J.many, .int .i64 J.have_, .int .i64 J.bytes, pv, gv, .bool J.any, .bool J.done]
def jn0 : Jn := ⟨0, 0, 0, 0, fun _ => [], fun _ => false, false, false⟩
structure IsJ (h : H) (b : Nat) (S : Nat → Prop) (J : Jn) : Prop where
  sb : S b
  lt : ∀ c, S c → c < h.next
  nb : NoB h S
  cell : ∃ pv gv, h.get b = some (.row .fixed 185 [jV J pv gv]) ∧ (J.any = true → J.done = false → ∃ m gb pb, ∃ pvs : Nat → AV, J.many = (m : Nat) ∧ m ≤ 32 ∧ S gb ∧ S pb ∧ gb ≠ b ∧ pb ≠ b ∧ pb ≠ gb ∧ gv = .slice gb [] 0 m 4 ∧ pv = .slice pb [] 0 m 39 ∧ h.get gb = some (.row .fixed 4 ((List.range m).map fun i => .bool (J.got i))) ∧ h.get pb = some (.row .fixed 39 ((List.range m).map pvs)) ∧ ∀ i, i < m → IsB h (pvs i) ((J.parts i).map byteV))
theorem IsJ.fr {h g : H} {b : Nat} {S S' : Nat → Prop} {J : Jn} (j : IsJ h b S J) (F : Fr S' h g) (n : NoB h S') (d : ∀ c, S c → ¬ S' c) : IsJ g b S J := by
  refine ⟨j.sb, fun c hc => Nat.lt_of_lt_of_le (j.lt c hc) F.1, fun c hc k xs => ?_, ?_⟩
  · rw [F.2 c (j.lt c hc) (d c hc)]; exact j.nb c hc k xs
  · obtain ⟨pv, gv, h1, h2⟩ := j.cell
    refine ⟨pv, gv, F.to h1 (j.lt _ j.sb) (d _ j.sb), fun a1 a2 => ?_⟩
    obtain ⟨m, gb, pb, pvs, e1, e2, s1, s2, n1, n2, n3, e3, e4, g1, g2, hb⟩ := h2 a1 a2
    exact ⟨m, gb, pb, pvs, e1, e2, s1, s2, n1, n2, n3, e3, e4, F.to g1 (j.lt _ s1) (d _ s1), F.to g2 (j.lt _ s2) (d _ s2), fun i hi => (hb i hi).fr F n⟩
theorem IsJ.keep {h g : H} {b : Nat} {S : Nat → Prop} {J : Jn} (j : IsJ h b S J) (k : Keep h g) : IsJ g b S J := j.fr (S' := fun _ => False) k.fr (fun _ h => h.elim) (fun _ _ h => h)
theorem pnew_ok {h : H} {K : AV → H → Prop} (hK : ∀ h' b, Keep h h' → h.next ≤ b → IsJ h' b (fun c => c = b) jn0 → K (.ptr b [0] 185) h') : Cw S.T 40 [] h K := by
  refine cw_q 100 (ex40 _) fn40 ?_
  refine And.intro rfl fun g1 m1 => ?_
  refine ⟨_, rfl, rfl, hK g1 h.next ((Keep.refl h).new m1 (Nat.le_refl _)) (Nat.le_refl _) ⟨rfl, fun c e => by rw [e, m1.nx]; omega, fun c e k xs hh => ?_, .nils, .nils, m1.at, fun a => by cases a⟩⟩
  rw [e, m1.at] at hh
  cases hh
theorem waits_ok {b : Nat} {S : Nat → Prop} {J : Jn} {h : H} (j : IsJ h b S J) {K : AV → H → Prop} (hK : ∀ h', Keep h h' → K (.tup [.int .i64 (if J.any = true ∧ J.done = false then J.have_ else 0), .int .i64 (if J.any = true ∧ J.done = false then J.many else 0)]) h') : Cw T 46 [.ptr b [0] 185] h K := by
  obtain ⟨pv, gv, hb, _⟩ := j.cell
  refine cw_q 100 (ex46 _) fn46 ?_
  refine ⟨_, _, _, hb, ?_⟩
  refine sel_intro (fun c1 => ?_) (fun c1 => ?_)
  · have c1 : (!J.any) = true := c1
    have e : ¬ (J.any = true ∧ J.done = false) := fun hh => by rw [hh.1] at c1; cases c1
    rw [if_neg e, if_neg e] at hK
    exact ⟨_, rfl, rfl, _, rfl, rfl, hK h (Keep.refl _)⟩
  have c1 : (!J.any) = false := c1
  refine ⟨_, _, _, hb, ?_⟩
  refine sel_intro (fun c2 => ?_) (fun c2 => ?_)
  · have c2 : J.done = true := c2
    have e : ¬ (J.any = true ∧ J.done = false) := fun hh => by rw [hh.2] at c2; cases c2
    rw [if_neg e, if_neg e] at hK
    exact ⟨_, rfl, rfl, _, rfl, rfl, hK h (Keep.refl _)⟩
  have c2 : J.done = false := c2
  have e : J.any = true ∧ J.done = false := ⟨by simpa using c1, c2⟩
  rw [if_pos e, if_pos e] at hK
  refine ⟨_, _, _, hb, ?_⟩
  refine ⟨_, _, _, hb, ?_⟩
  exact ⟨_, rfl, rfl, _, rfl, rfl, hK _ (Keep.bump _ _)⟩
def rightPc (p : Pc) : Prop := 1 ≤ p.many ∧ p.many ≤ 32 ∧ 0 ≤ p.at_ ∧ p.at_ < p.many ∧ p.part.length ≤ 4096
instance (p : Pc) : Decidable (rightPc p) := inferInstanceAs (Decidable (_ ∧ _))
theorem rightPc_ok {p : Pc} {v : AV} {h : H} (b : IsB h v p.bytes) {K : AV → H → Prop} (hK : ∀ h', Keep h h' → K (.bool (decide (rightPc p))) h') : Cw S.T 89 [pcV p v] h K := by
  refine cw_q 200 (ex89 _) fn89 ?_
  refine And.intro rfl fun g1 m1 => ?_
  have k1 : Keep h g1 := (Keep.refl h).new m1 (Nat.le_refl _)
  have l1 := b.len
  unfold Pc.bytes at l1
  rw [List.length_map] at l1
  have hK := hK g1 k1
  have a1 := m1.at
  have no : ¬ rightPc p → K (.bool false) g1 := fun hn => by rw [decide_eq_false hn] at hK; exact hK
  unfold rightPc at no
  refine ⟨_, _, _, a1, ?_⟩
  refine sel_intro (fun c1 => ?_) (fun c1 => ?_)
  · refine ⟨_, _, _, a1, ?_⟩
    refine sel_intro (fun c2 => ?_) (fun c2 => ?_)
    · refine ⟨_, _, _, a1, ?_⟩
      refine sel_intro (fun c3 => ?_) (fun c3 => ?_)
      · refine ⟨_, _, _, a1, ?_⟩
        refine ⟨_, _, _, a1, ?_⟩
        refine sel_intro (fun c4 => ?_) (fun c4 => ?_)
        · refine ⟨_, _, _, a1, ?_⟩
          refine ⟨p.part.length, l1, ?_⟩
          simp only [decide_eq_true_eq] at c1 c2 c3 c4
          refine ⟨.bool (decide ((p.part.length : Int) ≤ 4096)), rfl, rfl, ?_⟩
          rw [show decide ((p.part.length : Int) ≤ 4096) = decide (rightPc p) from dec_congr ⟨fun h => ⟨c1, c2, c3, c4, by omega⟩, fun h => by have := h.2.2.2.2; omega⟩]
          exact hK
        · simp only [decide_eq_false_iff_not] at c4
          exact ⟨_, rfl, rfl, no (by omega)⟩
      · simp only [decide_eq_false_iff_not] at c3
        exact ⟨_, rfl, rfl, no (by omega)⟩
    · simp only [decide_eq_false_iff_not] at c2
      exact ⟨_, rfl, rfl, no (by omega)⟩
  · simp only [decide_eq_false_iff_not] at c1
    exact ⟨_, rfl, rfl, no (by omega)⟩
end Go.Dam.S

namespace Go.Dam.S
open Go Go.Dam
def Jn.begin (p : Pc) : Jn := ⟨p.id, p.many, 0, 0, fun _ => [], fun _ => false, true, false⟩
theorem rep_range {n : Nat} {x : AV} : List.replicate n x = (List.range n).map fun _ => x := by
  apply List.ext_getElem (by simp)
  intro i h1 h2
  simp
set_option maxRecDepth 4000 in
theorem begin_ok {b : Nat} {x : AV} {p : Pc} {v : AV} {h : H} (hb : h.get b = some (.row .fixed 185 [x])) (lb : b < h.next) (h1 : 1 ≤ p.many) (h2 : p.many ≤ 32) {K : AV → H → Prop} (hK : ∀ g S', Fr (fun c => c = b) h g → IsJ g b S' (Jn.begin p) → (∀ c, S' c → c = b ∨ h.next ≤ c) → K (.tup []) g) : Cw T 90 [.ptr b [0] 185, pcV p v] h K := by
  obtain ⟨m, hm⟩ : ∃ m : Nat, p.many = m := ⟨p.many.toNat, by omega⟩
  refine cw_q 200 (ex90 _) fn90 ?_
  refine And.intro rfl fun g1 m1 => ?_
  have n1 := m1.nx
  refine ⟨_, _, _, m1.at, ?_⟩
  refine ⟨_, _, _, m1.at, ?_⟩
  refine ⟨_, _, _, m1.at, ?_⟩
  refine ⟨m, m, hm, hm, Nat.le_refl _, by omega, fun g2 m2 => ?_⟩
  have n2 : g2.next = g1.next + 14 := by rw [m2.next, if_neg (by show _ ≠ g1.next + 14; omega)]; rfl
  have a2 := m2.ne (m1.at : (g1.bump 14).get h.next = _) (by omega)
  refine ⟨_, _, _, a2, ?_⟩
  refine ⟨m, m, hm, hm, Nat.le_refl _, by omega, fun g3 m3 => ?_⟩
  have n3 : g3.next = g1.next + 14 := by rw [m3.next, if_neg (by rw [n2]; omega), n2]
  have b3 : g3.get b = some (.row .fixed 185 [x]) := m3.ne (m2.ne (m1.ne hb (by omega) : (g1.bump 14).get b = _) (by omega)) (by omega)
  refine And.intro rfl ⟨_, _, _, b3, by decide, fun g4 u4 => ?_⟩
  have n4 := u4.next
  have k3 : Keep h g3 := ⟨by omega, fun c hc => by
    rw [m3.get, if_neg (by omega), m2.get, if_neg (by omega)]
    show g1.get c = _
    rw [m1.get, if_neg (by omega)]⟩
  refine wp_nil (hK g4 (fun c => c = b ∨ c = g1.next + 10 ∨ c = g1.next + 7) (k3.fr.upd u4 (.inl rfl)) ?_ (fun c hc => by omega))
  have e10 : g4.get (g1.next + 10) = _ := u4.ne m3.at (by omega)
  have e7 : g4.get (g1.next + 7) = _ := u4.ne (m3.ne m2.at (by omega)) (by omega)
  refine ⟨.inl rfl, fun c hc => by omega, fun c hc k xs hh => ?_, .slice (g1.next + 7) [] 0 m 39, .slice (g1.next + 10) [] 0 m 4, u4.at, fun _ _ => ⟨m, g1.next + 10, g1.next + 7, fun _ => .nils, hm, by omega, .inr (.inl rfl), .inr (.inr rfl), by omega, by omega, by omega, rfl, rfl, ?_, ?_, fun i hi => .inl ⟨rfl, rfl⟩⟩⟩
  · rcases hc with e | e | e
    · rw [e, u4.at] at hh; cases hh
    · rw [e, e10] at hh; cases hh
    · rw [e, e7] at hh; cases hh
  · rw [e10, rep_range]; rfl
  · rw [e7, rep_range]; rfl

/-! ### a body that grows -/
def IsG (lo : Nat) (h : H) (v : AV) (l : List AV) : Prop := ∃ c k, v = .slice c [] 0 l.length 5 ∧ lo ≤ c ∧ c < h.next ∧ h.get c = some (.row k 5 l) ∧ (k = .grow ∨ (k = .fixed ∧ l = []))
theorem IsG.b {lo : Nat} {h : H} {v : AV} {l : List AV} (o : IsG lo h v l) : IsB h v l := by
  obtain ⟨c, k, h1, _, h3, h4, _⟩ := o
  exact .inr ⟨c, 0, _, _, h1, h3, h4, by omega, by simp⟩
theorem g_app {h0 h : H} {v y : AV} {l l2 : List AV} {lim : Nat} (k0 : Keep h0 h) (o : IsG h0.next h v l) (hy : IsB h y l2) (hl : l.length + l2.length ≤ lim) {K : AV → H → Prop} (hK : ∀ g w, Keep h0 g → IsG h0.next g w (l ++ l2) → K w g) : AppP 5 false lim h v y K := by
  obtain ⟨c, k, rfl, h2, h3, h4, h5⟩ := o
  have n0 := k0.1
  cases l2 with
  | nil =>
    rw [List.append_nil] at hK
    exact app_none hy.src (.inr ⟨_, _, _, _, rfl⟩) (hK h _ k0 ⟨c, k, rfl, h2, h3, h4, h5⟩)
  | cons a l2 =>
    rcases h5 with rfl | ⟨rfl, rfl⟩
    · refine app_grow hy.src h4 h3 (by omega) rfl (by simp) hl (fun g m => ?_)
      refine hK g _ (k0.mov m h2) ⟨h.next, .grow, by simp, n0, by rw [m.next]; omega, ?_, .inl rfl⟩
      have := m.at
      rw [List.drop_zero, List.take_of_length_le (Nat.le_refl _)] at this
      exact this
    · refine app_full hy.src h4 (by simp) (by simp) (old := []) rfl (by simpa using hl) (fun g m => ?_)
      exact hK g _ (k0.new m n0) ⟨h.next, .grow, by simp, n0, by rw [m.nx]; omega, m.at, .inl rfl⟩
end Go.Dam.S

namespace Go.Dam.S
open Go Go.Dam
def updN {α : Type} (f : Nat → α) (i : Nat) (x : α) : Nat → α := fun j => if j = i then x else f j
theorem rngN_at {f : Nat → AV} {i n : Nat} (hi : i < n) : ((List.range n).map f)[i]? = some (f i) := by simp [hi]
theorem rngN_set {f : Nat → AV} {i n : Nat} {x : AV} : ((List.range n).map f).set i x = (List.range n).map (updN f i x) := by
  apply List.ext_getElem (by simp)
  intro j h1 h2
  rw [List.getElem_set]
  simp only [List.getElem_map, List.getElem_range, updN]
  by_cases h : i = j
  · subst h; simp
  · rw [if_neg h, if_neg (fun e => h e.symm)]
/-- the bytes of a body's parts, one behind the other -/
def joinTo (f : Nat → List Int) (i : Nat) : List Int := (List.range i).flatMap f
theorem joinTo_succ {f : Nat → List Int} {i : Nat} : joinTo f (i + 1) = joinTo f i ++ f i := by
  unfold joinTo
  rw [List.range_succ, List.flatMap_append]
  simp
theorem joinTo_len {f : Nat → List Int} {i : Nat} (hf : ∀ j, (f j).length ≤ 4096) : (joinTo f i).length ≤ 4096 * i := by
  induction i with
  | zero => exact Nat.le_refl _
  | succ i ih =>
    rw [joinTo_succ, List.length_append]
    have := hf i
    omega
def body44 : ACode := (.seq (.reg f44r25) (.seq (.cond (.t 171) .skip (.exit 2)) (.seq (.block 3 (.seq (.reg f44r26) (.reg f44r27))) (.reg f44r28))))
theorem loop44 {h0 : H} {b pb m : Nat} {pvs : Nat → AV} {f : Nat → List Int} (hm : m ≤ 32) (hf : ∀ j, (f j).length ≤ 4096) (lpb : pb < h0.next) (g2 : h0.get pb = some (.row .fixed 39 ((List.range m).map pvs))) (hb : ∀ i, i < m → IsB h0 (pvs i) ((f i).map byteV)) {k : List Item} {Q : Env → H → Prop}
    (hk : ∀ r g v, agree r [(0, .ptr b [0] 185), (4, v)] → Keep h0 g → IsG h0.next g v ((joinTo f m).map byteV) → Wp T k r g Q) :
    ∀ (n i : Nat) (r : Env) (g : H) (v : AV), i + n = m → agree r [(0, .ptr b [0] 185), (4, v), (168, .slice pb [] 0 m 39), (169, .int .i64 m), (170, .int .i64 i)] → Keep h0 g → IsG h0.next g v ((joinTo f i).map byteV) → Wp T (.inLoop body44 :: .inBlock 2 :: k) r g Q := by
  intro n
  induction n with
  | zero =>
    intro i r g v hi ha kg o
    have him : i = m := by omega
    subst him
    refine wp_inLoop (wp_q (items := [.code body44, .inLoop body44, .inBlock 2]) 50 ha ?_)
    unfold body44
    refine sel_intro (fun c1 => ?_) (fun c1 => ?_)
    · exfalso; simp only [decide_eq_true_eq] at c1; omega
    · exact hk _ _ v ⟨rfl, rfl, trivial⟩ kg o
  | succ n ih =>
    intro i r g v hi ha kg o
    have him : i < m := by omega
    refine wp_inLoop (wp_q (items := [.code body44, .inLoop body44, .inBlock 2]) 50 ha ?_)
    unfold body44
    have ih := fun r g v => ih (i + 1) r g v (by omega)
    rw [joinTo_succ, List.map_append] at ih
    have hlen := joinTo_len (i := i) hf
    have hfi := hf i
    refine sel_intro (fun c1 => ?_) (fun c1 => ?_)
    · refine ⟨pb, [], 0, m, i, 0 + i, rfl, rfl, him, rfl, ?_⟩
      refine read1 (kg.to g2 lpb) (by rw [Nat.zero_add]; exact rngN_at him) ?_
      refine g_app kg o ((hb i him).keep kg) (by simp only [List.length_map]; omega) (fun g' w kg' o' => ?_)
      refine ⟨((i + 1 : Nat) : Int), by rw [i64_id (by omega) (by omega)]; rfl, ?_⟩
      exact ih _ g' w ⟨rfl, rfl, rfl, rfl, rfl, trivial⟩ kg' o'
    · exfalso; simp only [decide_eq_false_iff_not] at c1; omega
def code44d : ACode := (.seq (.reg f44r23) (.seq (.seq (.reg f44r24) (.block 2 (.loop body44))) (.seq (.reg f44r29) (.seq (.reg f44r30) .ret))))
def JnP (J : Jn) : Prop := ∀ j, (J.parts j).length ≤ 4096
/-- the whole body -/
theorem whole44 {b : Nat} {S : Nat → Prop} {J : Jn} {h : H} (j : IsJ h b S J) (ha1 : J.any = true) (ha2 : J.done = false) (hp : JnP J) {K : AV → H → Prop} {r : Env} (ha : agree r [(0, .ptr b [0] 185)])
    (hK : ∀ g v, Fr (fun c => c = b) h g → IsJ g b S { J with done := true } → IsB g v ((joinTo J.parts J.many.toNat).map byteV) → K (.tup [v, .bool true, .int .i64 0]) g) : Wp T [.code code44d] r h (RetQ f44 K) := by
  unfold code44d
  refine wp_q0 100 ha ?_
  obtain ⟨pv, gv, hb, live⟩ := j.cell
  obtain ⟨m, gb, pb, pvs, e1, e2, s1, s2, n1, n2, n3, e3, e4, d1, d2, hbs⟩ := live ha1 ha2
  have lb := j.lt _ j.sb
  have lpb := j.lt _ s2
  refine fun g1 m1 => ?_
  have q1 := m1.nx
  have k1 : Keep h g1 := (Keep.refl h).new m1 (Nat.le_refl _)
  have hb1 := k1.to hb lb
  subst e4
  refine ⟨_, _, _, hb1, ?_⟩
  refine ⟨m, lenIs_slice, ?_⟩
  rw [show J.many.toNat = m by omega] at hK
  refine wp_loop_of (loop44 (h0 := h) (b := b) (pb := pb) (m := m) (pvs := pvs) (f := J.parts) e2 hp lpb d2 hbs (fun r g v ha kg o => ?_) m 0 _ g1 _ (by omega) ⟨rfl, rfl, rfl, rfl, rfl, trivial⟩ k1 ⟨h.next, .fixed, rfl, Nat.le_refl _, by omega, m1.at, .inr ⟨rfl, rfl⟩⟩)
  refine wp_q0 100 ha ?_
  have hbg := kg.to hb lb
  refine And.intro rfl ⟨_, _, _, hbg, by decide, fun g2 u2 => ?_⟩
  refine And.intro rfl ⟨_, _, _, u2.at, by decide, fun g3 u3 => ?_⟩
  have F3 : Fr (fun c => c = b) g g3 := ((Fr.refl (fun c => c = b) g).upd u2 (.inl rfl)).upd u3 (.inl rfl)
  have nb : NoB g (fun c => c = b) := fun c e k xs hh => by rw [e, hbg] at hh; cases hh
  have o3 := o.b.fr F3 nb
  have j2 : IsJ g3 b S { J with done := true } := by
    refine ⟨j.sb, fun c hc => by have := j.lt c hc; have := kg.1; have := F3.1; omega, fun c hc k xs hh => ?_, .nils, gv, u3.at, fun _ hh => by cases hh⟩
    by_cases e : c = b
    · rw [e, u3.at] at hh; cases hh
    · rw [F3.2 c (by have := j.lt c hc; have := kg.1; omega) e, kg.2 c (j.lt c hc)] at hh
      exact j.nb c hc k xs hh
  exact ⟨v, rfl, o.b.notTup, _, rfl, rfl, _, rfl, rfl, hK g3 v (kg.fr.trans F3) j2 o3⟩
end Go.Dam.S
