/- A node's table of routes: the walks of its functions. No conditions. -/
import Derived.Test.YtoipeoafcjjaeaaCode
import Derived.Test.YtoipeoafcjjaeaaDamD
import Derived.Test.YtoipeoafcjjaeaaDamC
namespace Go.Dam.S
open Go Go.Dam
structure Key where
  e : Int
  s : Int
  m : Int
  deriving DecidableEq
def keyV (k : Key) : AV := .agg 106 [.int .u32 k.e, .int .u32 k.s, .int .i64 k.m]
def signF (b : Bool) : Int := if b = true then 1 else -1
def cmpF (a b : Key) : Int := if a.e ≠ b.e then signF (decide (a.e > b.e)) else if a.s ≠ b.s then signF (decide (a.s > b.s)) else if a.m ≠ b.m then signF (decide (a.m < b.m)) else 0
theorem sign_ok {b : Bool} {h : H} {K : AV → H → Prop} (hK : K (.int .i64 (signF b)) h) : Cw T 143 [.bool b] h K := by
  refine cw_q 50 (ex143 _) fn143 ?_
  unfold signF at hK
  refine sel_intro (fun c => ?_) (fun c => ?_) <;> subst c
  · exact ⟨_, rfl, rfl, hK⟩
  · exact ⟨_, rfl, rfl, hK⟩
theorem compare_ok {a b : Key} {h : H} {K : AV → H → Prop} (hK : ∀ h', Keep h h' → K (.int .i64 (cmpF a b)) h') : Cw T 125 [keyV a, keyV b] h K := by
  refine cw_q 200 (ex125 _) fn125 ?_
  refine And.intro rfl fun g1 m1 => ?_
  refine And.intro rfl fun g2 m2 => ?_
  have k2 : Keep h g2 := ((Keep.refl h).new m1 (Nat.le_refl _)).new m2 (by rw [m1.nx]; omega)
  have a2 := m2.ne m1.at (by rw [m1.nx]; omega)
  have b2 := m2.at
  have hK := hK g2 k2
  unfold cmpF at hK
  refine ⟨_, _, _, a2, ?_⟩
  refine ⟨_, _, _, b2, ?_⟩
  refine sel_intro (fun c1 => ?_) (fun c1 => ?_)
  · rw [if_pos (by simpa using c1)] at hK
    refine ⟨_, _, _, a2, ?_⟩
    refine ⟨_, _, _, b2, ?_⟩
    exact sign_ok ⟨_, rfl, rfl, hK⟩
  rw [if_neg (by simpa using c1)] at hK
  refine ⟨_, _, _, a2, ?_⟩
  refine ⟨_, _, _, b2, ?_⟩
  refine sel_intro (fun c2 => ?_) (fun c2 => ?_)
  · rw [if_pos (by simpa using c2)] at hK
    refine ⟨_, _, _, a2, ?_⟩
    refine ⟨_, _, _, b2, ?_⟩
    exact sign_ok ⟨_, rfl, rfl, hK⟩
  rw [if_neg (by simpa using c2)] at hK
  refine ⟨_, _, _, a2, ?_⟩
  refine ⟨_, _, _, b2, ?_⟩
  refine sel_intro (fun c3 => ?_) (fun c3 => ?_)
  · rw [if_pos (by simpa using c3)] at hK
    refine ⟨_, _, _, a2, ?_⟩
    refine ⟨_, _, _, b2, ?_⟩
    exact sign_ok ⟨_, rfl, rfl, hK⟩
  rw [if_neg (by simpa using c3)] at hK
  exact ⟨_, rfl, rfl, hK⟩
def newerF (a b : Key) : Bool := decide (cmpF { a with m := 0 } { b with m := 0 } > 0)
theorem newer_ok {a b : Key} {h : H} {K : AV → H → Prop} (hK : ∀ h', Keep h h' → K (.bool (newerF a b)) h') : Cw T 126 [keyV a, keyV b] h K := by
  refine cw_q 200 (ex126 _) fn126 ?_
  refine And.intro rfl fun g1 m1 => ?_
  refine And.intro rfl fun g2 m2 => ?_
  have n1 := m1.nx
  have k2 : Keep h g2 := ((Keep.refl h).new m1 (Nat.le_refl _)).new m2 (by omega)
  refine And.intro rfl ⟨_, _, _, m2.ne m1.at (by omega), by decide, fun g3 u3 => ?_⟩
  refine And.intro rfl ⟨_, _, _, u3.ne m2.at (by omega), by decide, fun g4 u4 => ?_⟩
  have k4 := (k2.upd u3 (Nat.le_refl _)).upd u4 (by omega)
  refine ⟨_, _, _, u4.ne u3.at (by omega), ?_⟩
  refine ⟨_, _, _, u4.at, ?_⟩
  refine compare_ok (a := { a with m := 0 }) (b := { b with m := 0 }) (fun g5 k5 => ?_)
  exact ⟨_, rfl, rfl, hK g5 (k4.trans k5)⟩
def rightK (k : Key) : Prop := k.e ≤ 65536 ∧ k.s < 64 ∧ 0 ≤ k.m ∧ k.m ≤ 15
instance (k : Key) : Decidable (rightK k) := inferInstanceAs (Decidable (_ ∧ _))
theorem rightK_ok {a : Key} {h : H} {K : AV → H → Prop} (hK : ∀ h', Keep h h' → K (.bool (decide (rightK a))) h') : Cw T 124 [keyV a] h K := by
  refine cw_q 200 (ex124 _) fn124 ?_
  refine And.intro rfl fun g1 m1 => ?_
  have k1 : Keep h g1 := (Keep.refl h).new m1 (Nat.le_refl _)
  have a1 := m1.at
  have hK := hK g1 k1
  have no : ¬ rightK a → K (.bool false) g1 := fun hn => by rw [decide_eq_false hn] at hK; exact hK
  unfold rightK at no
  refine ⟨_, _, _, a1, ?_⟩
  refine sel_intro (fun c1 => ?_) (fun c1 => ?_)
  · refine ⟨_, _, _, a1, ?_⟩
    refine sel_intro (fun c2 => ?_) (fun c2 => ?_)
    · refine ⟨_, _, _, a1, ?_⟩
      refine sel_intro (fun c3 => ?_) (fun c3 => ?_)
      · refine ⟨_, _, _, a1, ?_⟩
        simp only [decide_eq_true_eq] at c1 c2 c3
        refine ⟨.bool (decide (a.m ≤ 15)), rfl, rfl, ?_⟩
        rw [show decide (a.m ≤ 15) = decide (rightK a) from dec_congr ⟨fun h => ⟨c1, c2, c3, h⟩, fun h => h.2.2.2⟩]
        exact hK
      · simp only [decide_eq_false_iff_not] at c3
        exact ⟨_, rfl, rfl, no (by omega)⟩
    · simp only [decide_eq_false_iff_not] at c2
      exact ⟨_, rfl, rfl, no (by omega)⟩
  · simp only [decide_eq_false_iff_not] at c1
    exact ⟨_, rfl, rfl, no (by omega)⟩
def timeF (n : Int) : Prop := 0 ≤ n ∧ n ≤ 1099511627776
instance (n : Int) : Decidable (timeF n) := inferInstanceAs (Decidable (_ ∧ _))
theorem time_ok {n : Int} {h : H} {K : AV → H → Prop} (hK : K (.bool (decide (timeF n))) h) : Cw T 92 [.int .i64 n] h K := by
  refine cw_q 200 (ex92 _) fn92 ?_
  refine sel_intro (fun c1 => ?_) (fun c1 => ?_)
  · simp only [decide_eq_true_eq] at c1
    refine ⟨.bool (decide (n ≤ 1099511627776)), rfl, rfl, ?_⟩
    rw [show decide (n ≤ 1099511627776) = decide (timeF n) from dec_congr ⟨fun h => ⟨c1, h⟩, fun h => h.2⟩]
    exact hK
  · simp only [decide_eq_false_iff_not] at c1
    rw [decide_eq_false (fun h : timeF n => c1 h.1)] at hK
    exact ⟨_, rfl, rfl, hK⟩

/-! ### tables -/
structure Off where
  has : Bool
  key : Key
  since : Int
  kd : Int
  kk : Key
  held : Bool
  until_ : Int
  last : Key
def k0 : Key := ⟨0, 0, 0⟩
def off0 : Off := ⟨false, k0, 0, 0, k0, false, 0, k0⟩
def zleaf : AV := .agg 62 (List.replicate 16 (.int .u8 0))
def knownV (kd : Int) (kk : Key) (p : AV) : AV := .agg 154 [.int .i64 kd, keyV kk, zleaf, p]
def offV (o : Off) (p : AV) : AV := .agg 190 [.bool o.has, keyV o.key, .int .i64 o.since, knownV o.kd o.kk p, .bool o.held, .int .i64 o.until_, keyV o.last]
structure Tab where
  self : Int
  hold : Int
  life : Int
  l : Nat → Nat → Off
  nx : Nat → Int
def rowV (T : Tab) (p : Nat → Nat → AV) (d : Nat) : AV := .agg 192 ((List.range 8).map fun n => offV (T.l d n) (p d n))
def tabV (T : Tab) (p : Nat → Nat → AV) : AV := .agg 195 [.int .i64 T.self, .agg 99 [.int .i64 T.hold, .int .i64 T.life], .agg 193 ((List.range 8).map (rowV T p)), .agg 194 ((List.range 8).map fun d => .int .i64 (T.nx d))]
/-- an empty path -/
def PathOK (h : H) (v : AV) : Prop := v = .nils ∨ ∃ c k, v = .slice c [] 0 0 62 ∧ c < h.next ∧ h.get c = some (.row k 62 [])
structure IsTab (h : H) (b : Nat) (T : Tab) (p : Nat → Nat → AV) : Prop where
  hb : h.get b = some (.row .fixed 195 [tabV T p])
  lb : b < h.next
  hp : ∀ d n, d < 8 → n < 8 → PathOK h (p d n)
theorem IsTab.fr {h g : H} {b : Nat} {T : Tab} {p : Nat → Nat → AV} {S : Nat → Prop} (t : IsTab h b T p) (k : Fr S h g) (hs : ¬ S b) (hn : ∀ c k, S c → h.get c ≠ some (.row k 62 [])) : IsTab g b T p := by
  refine ⟨k.to t.hb t.lb hs, Nat.lt_of_lt_of_le t.lb k.1, fun d n hd hn' => ?_⟩
  rcases t.hp d n hd hn' with h1 | ⟨c, kk, h1, h2, h3⟩
  · exact .inl h1
  · exact .inr ⟨c, kk, h1, Nat.lt_of_lt_of_le h2 k.1, k.to h3 h2 (fun q => hn c kk q h3)⟩
theorem IsTab.keep {h g : H} {b : Nat} {T : Tab} {p : Nat → Nat → AV} (t : IsTab h b T p) (k : Keep h g) : IsTab g b T p := t.fr (S := fun _ => False) k.fr id (fun _ _ h => h.elim)
theorem PathOK.upd {h g : H} {b : Nat} {T : Tab} {p : Nat → Nat → AV} (t : IsTab h b T p) {x : Blk} (u : Upd h b x g) {v : AV} (hv : PathOK h v) : PathOK g v := by
  rcases hv with h1 | ⟨c, kk, h1, h2, h3⟩
  · exact .inl h1
  · refine .inr ⟨c, kk, h1, by rw [u.next]; exact h2, u.ne h3 (fun e => ?_)⟩
    rw [e, t.hb] at h3
    cases h3
theorem PathOK.keep {h g : H} (k : Keep h g) {v : AV} (hv : PathOK h v) : PathOK g v := by
  rcases hv with h1 | ⟨c, kk, h1, h2, h3⟩
  · exact .inl h1
  · exact .inr ⟨c, kk, h1, Nat.lt_of_lt_of_le h2 k.1, k.to h3 h2⟩
theorem rng_at {f : Nat → AV} {i : Nat} (hi : i < 8) : ((List.range 8).map f)[i]? = some (f i) := by simp [hi]
def upd {α : Type} (f : Nat → α) (i : Nat) (x : α) : Nat → α := fun j => if j = i then x else f j
theorem rng_set {f : Nat → AV} {i : Nat} {x : AV} : ((List.range 8).map f).set i x = (List.range 8).map (upd f i x) := by
  apply List.ext_getElem (by simp)
  intro j h1 h2
  rw [List.getElem_set]
  simp only [List.getElem_map, List.getElem_range, upd]
  by_cases h : i = j
  · subst h; simp
  · rw [if_neg h, if_neg (fun e => h e.symm)]
section
variable {T : Tab} {p : Nat → Nat → AV}
theorem at_rows : at? [2, 0] (.agg 195 [tabV T p]) = some (.agg 193 ((List.range 8).map (rowV T p))) := rfl
theorem at_row {d : Nat} (hd : d < 8) : at? [d, 2, 0] (.agg 195 [tabV T p]) = some (rowV T p d) := at_cons at_rows (rng_at hd)
theorem at_off {d n : Nat} (hd : d < 8) (hn : n < 8) : at? [n, d, 2, 0] (.agg 195 [tabV T p]) = some (offV (T.l d n) (p d n)) := at_cons (at_row hd) (rng_at hn)
theorem at_nx {d : Nat} (hd : d < 8) : at? [d, 3, 0] (.agg 195 [tabV T p]) = some (.int .i64 (T.nx d)) := at_cons (p := [3, 0]) rfl (rng_at hd)
end
def Tab.setL (T : Tab) (d n : Nat) (o : Off) : Tab := { T with l := fun i j => if i = d ∧ j = n then o else T.l i j }
def Tab.setN (T : Tab) (d : Nat) (x : Int) : Tab := { T with nx := upd T.nx d x }
def setP (p : Nat → Nat → AV) (d n : Nat) (v : AV) : Nat → Nat → AV := fun i j => if i = d ∧ j = n then v else p i j
theorem put_off {T : Tab} {p : Nat → Nat → AV} {d n : Nat} {o : Off} {v : AV} (hd : d < 8) (hn : n < 8) : put? [n, d, 2, 0] (.agg 195 [tabV T p]) (offV o v) = some (.agg 195 [tabV (T.setL d n o) (setP p d n v)]) := by
  refine put_cons (at_row hd) (by simpa using hn) (put_cons (p := [2, 0]) at_rows (by simpa using hd) ?_)
  have e : ((List.range 8).map (rowV T p)).set d (.agg 192 (((List.range 8).map fun n => offV (T.l d n) (p d n)).set n (offV o v))) = (List.range 8).map (rowV (T.setL d n o) (setP p d n v)) := by
    rw [rng_set, rng_set]
    apply List.map_congr_left
    intro i _
    simp only [upd, rowV]
    by_cases h : i = d
    · subst h
      rw [if_pos rfl]
      congr 1
      apply List.map_congr_left
      intro j _
      simp only [upd, Tab.setL, setP]
      by_cases h2 : j = n
      · subst h2; simp
      · simp [h2]
    · rw [if_neg h]
      congr 1
      apply List.map_congr_left
      intro j _
      simp [Tab.setL, setP, h]
  rw [e]
  rfl
theorem put_nx {T : Tab} {p : Nat → Nat → AV} {d : Nat} {x : Int} (hd : d < 8) : put? [d, 3, 0] (.agg 195 [tabV T p]) (.int .i64 x) = some (.agg 195 [tabV (T.setN d x) p]) := by
  refine put_cons (p := [3, 0]) rfl (by simpa using hd) ?_
  rw [rng_set]
  have e : (List.range 8).map (upd (fun d => AV.int .i64 (T.nx d)) d (.int .i64 x)) = (List.range 8).map fun i => AV.int .i64 ((T.setN d x).nx i) := by
    apply List.map_congr_left
    intro i _
    simp only [upd, Tab.setN]
    split <;> rfl
  rw [e]
  rfl
end Go.Dam.S

namespace Go.Dam.S
open Go Go.Dam
/-! ### choose -/
def bestStep (T : Tab) (d : Nat) (best : Option Nat) (n : Nat) : Option Nat :=
  if (T.l d n).has = false then best else match best with
  | none => some n
  | some m => if cmpF (T.l d n).key (T.l d m).key > 0 then some n else if cmpF (T.l d n).key (T.l d m).key = 0 ∧ (n : Int) = T.nx d then some n else some m
def bestTo (T : Tab) (d i : Nat) : Option Nat := (List.range i).foldl (bestStep T d) none
theorem bestTo_succ {T : Tab} {d i : Nat} : bestTo T d (i + 1) = bestStep T d (bestTo T d i) i := by
  unfold bestTo
  rw [List.range_succ, List.foldl_append]
  rfl
theorem bestTo_lt {T : Tab} {d : Nat} : ∀ {i m : Nat}, bestTo T d i = some m → m < i := by
  intro i
  induction i with
  | zero => intro m h; simp [bestTo] at h
  | succ i ih =>
    intro m h
    rw [bestTo_succ] at h
    unfold bestStep at h
    split at h
    · have := ih h; omega
    split at h
    · cases h; omega
    · rename_i m' hm
      have := ih hm
      split at h
      · cases h; omega
      split at h
      · cases h; omega
      · cases h; omega
def bestI : Option Nat → Int
  | none => -1
  | some m => m
def Tab.choose (T : Tab) (d : Nat) : Tab := T.setN d (bestI (bestTo T d 8))
def body94 : ACode := (.seq (.reg f94r2) (.seq (.cond (.t 14) .skip (.exit 0)) (.seq (.block 1 (.seq (.reg f94r3) (.block 2 (.seq (.reg f94r4) (.cond (.t 17) (.exit 1) (.seq (.draw f94r5) (.cond (.t 21) (.reg f94r6) (.seq (.draw f94r7) (.cond (.t 40) (.reg f94r8) .skip))))))))) (.reg f94r9))))
set_option maxRecDepth 4000 in
theorem loop94 {b d : Nat} {T : Tab} {p : Nat → Nat → AV} (hd : d < 8) {h0 : H} (t : IsTab h0 b T p) {k : List Item} {Q : Env → H → Prop}
    (hk : ∀ r h, agree r [(0, .ptr b [0] 195), (1, .int .i64 d), (4, .int .i64 (bestI (bestTo T d 8)))] → Keep h0 h → Wp S.T k r h Q) :
    ∀ (n i : Nat) (r : Env) (h : H), i + n = 8 → agree r [(0, .ptr b [0] 195), (1, .int .i64 d), (4, .int .i64 (bestI (bestTo T d i))), (12, rowV T p d), (13, .int .i64 i)] → Keep h0 h → Wp S.T (.inLoop body94 :: .inBlock 0 :: k) r h Q := by
  intro n
  induction n with
  | zero =>
    intro i r h hi ha F
    have hi8 : i = 8 := by omega
    subst hi8
    refine wp_inLoop (wp_q (items := [.code body94, .inLoop body94, .inBlock 0]) 50 ha ?_)
    unfold body94
    exact hk _ _ ⟨rfl, rfl, rfl, trivial⟩ F
  | succ n ih =>
    intro i r h hi ha F
    have hi8 : i < 8 := by omega
    refine wp_inLoop (wp_q (items := [.code body94, .inLoop body94, .inBlock 0]) 200 ha ?_)
    unfold body94
    have n0 := F.1
    have th := t.keep F
    have ih := fun r h => ih (i + 1) r h (by omega)
    rw [bestTo_succ] at ih
    unfold bestStep at ih
    refine sel_intro (fun c1 => ?_) (fun c1 => ?_)
    · refine ⟨i, rfl, hi8, ?_⟩
      refine optW_of (v := offV (T.l d i) (p d i)) (rng_at hi8) ?_
      refine fun g1 m1 => ?_
      refine And.intro rfl ⟨_, _, _, m1.at, by decide, fun g2 u2 => ?_⟩
      have n1 := m1.nx
      have n2 : g2.next = g1.next := u2.next
      have K2 : Keep h g2 := ((Keep.refl h).new m1 (Nat.le_refl _)).upd u2 (Nat.le_refl _)
      have o2 := u2.at
      have F2 := F.trans K2
      have t2 := t.keep F2
      refine ⟨_, _, _, o2, ?_⟩
      refine sel_intro (fun c2 => ?_) (fun c2 => ?_)
      · refine ⟨((i + 1 : Nat) : Int), by rw [i64_id (by omega) (by omega)]; rfl, ?_⟩
        have c2 : (!(T.l d i).has) = true := c2
        rw [if_pos (by simpa using c2)] at ih
        exact ih _ _ ⟨rfl, rfl, rfl, rfl, rfl, trivial⟩ F2
      have c2 : (!(T.l d i).has) = false := c2
      rw [if_neg (by simpa using c2)] at ih
      cases hb : bestTo T d i with
      | none =>
        rw [hb] at ih
        refine ⟨((i + 1 : Nat) : Int), by rw [i64_id (by omega) (by omega)]; rfl, ?_⟩
        exact ih _ _ ⟨rfl, rfl, rfl, rfl, rfl, trivial⟩ (F2.trans (Keep.bump _ _))
      | some m =>
        rw [hb] at ih
        simp only at ih
        have hm : m < 8 := by have := bestTo_lt hb; omega
        have tb := t2.hb
        refine ⟨_, _, _, o2, ?_⟩
        refine ⟨d, rfl, hd, ?_⟩
        refine ⟨m, rfl, hm, ?_⟩
        refine readP (by exact tb) (at_cons (at_off hd hm) rfl) ?_
        refine compare_ok (a := (T.l d i).key) (b := (T.l d m).key) (fun g3 k3 => ?_)
        have k3 := k3.unbump
        have F3 := F2.trans k3
        have n3 := k3.1
        refine sel_intro (fun c4 => ?_) (fun c4 => ?_)
        · rw [if_pos (by simpa using c4)] at ih
          refine ⟨((i + 1 : Nat) : Int), by rw [i64_id (by omega) (by omega)]; rfl, ?_⟩
          exact ih _ _ ⟨rfl, rfl, rfl, rfl, rfl, trivial⟩ F3
        rw [if_neg (by simpa using c4)] at ih
        have o3 := k3.to o2 (by omega)
        have t3 := (t2.keep k3).hb
        refine ⟨_, _, _, o3, ?_⟩
        refine ⟨d, rfl, hd, ?_⟩
        refine ⟨m, rfl, hm, ?_⟩
        refine readP (by exact t3) (at_cons (at_off hd hm) rfl) ?_
        refine compare_ok (a := (T.l d i).key) (b := (T.l d m).key) (fun g4 k4 => ?_)
        have k4 := k4.unbump
        have F4 := F3.trans k4
        have t4 := (t.keep F4).hb
        refine sel_intro (fun c5 => ?_) (fun c5 => ?_)
        · refine ⟨d, rfl, hd, ?_⟩
          refine readP (by exact t4) (at_nx hd) ?_
          refine sel_intro (fun c6 => ?_) (fun c6 => ?_)
          · have c6 : ((i : Int) == T.nx d) = true := c6
            rw [if_pos ⟨by simpa using c5, by simpa using c6⟩] at ih
            refine ⟨((i + 1 : Nat) : Int), by rw [i64_id (by omega) (by omega)]; rfl, ?_⟩
            exact ih _ _ ⟨rfl, rfl, rfl, rfl, rfl, trivial⟩ F4
          · have c6 : ((i : Int) == T.nx d) = false := c6
            rw [if_neg (fun hh => by simp [hh.2] at c6)] at ih
            refine ⟨((i + 1 : Nat) : Int), by rw [i64_id (by omega) (by omega)]; rfl, ?_⟩
            exact ih _ _ ⟨rfl, rfl, rfl, rfl, rfl, trivial⟩ F4
        · rw [if_neg (fun hh => by simp [hh.1] at c5)] at ih
          refine ⟨((i + 1 : Nat) : Int), by rw [i64_id (by omega) (by omega)]; rfl, ?_⟩
          exact ih _ _ ⟨rfl, rfl, rfl, rfl, rfl, trivial⟩ F4
    · exfalso; simp only [decide_eq_false_iff_not] at c1; omega
theorem IsTab.set {h h0 g : H} {b : Nat} {T T' : Tab} {p p' : Nat → Nat → AV} (t : IsTab h b T p) (u : Upd h b (.row .fixed 195 [tabV T' p']) g) (_ : Keep h0 h) (hp : ∀ d n, d < 8 → n < 8 → PathOK h (p' d n)) (_ : True) : IsTab g b T' p' :=
  ⟨u.at, by rw [u.next]; exact t.lb, fun d n hd hn => (hp d n hd hn).upd t u⟩
theorem choose_ok {b d : Nat} {T : Tab} {p : Nat → Nat → AV} (hd : d < 8) {h : H} (t : IsTab h b T p) {K : AV → H → Prop} (hK : ∀ h', Fr (fun c => c = b) h h' → IsTab h' b (T.choose d) p → K (.tup []) h') : Cw S.T 94 [.ptr b [0] 195, .int .i64 d] h K := by
  refine cw_q 200 (ex94 _) fn94 ?_
  refine ⟨d, rfl, hd, ?_⟩
  refine readP t.hb (at_row hd) ?_
  refine wp_loop_of (loop94 hd t (fun r h1 ha F => ?_) 8 0 _ _ rfl ⟨rfl, rfl, rfl, rfl, rfl, trivial⟩ (Keep.refl _))
  refine wp_q0 100 ha ?_
  have t1 := t.keep F
  refine ⟨d, rfl, hd, ?_⟩
  refine And.intro rfl (writeP t1.hb (by decide) (put_nx hd) fun g2 u2 => ?_)
  exact wp_nil (hK g2 ((F.fr).upd u2 (.inl rfl)) (t1.set u2 F t1.hp trivial))

/-! ### drop, twin, Get -/
def Tab.drop (T : Tab) (d n : Nat) (now : Int) : Tab := T.setL d n { off0 with held := true, until_ := now + T.hold, last := (T.l d n).key }
theorem drop_ok {b d n : Nat} {now : Int} {T : Tab} {p : Nat → Nat → AV} (hd : d < 8) (hn : n < 8) (hnow : timeF now) (hho : 0 ≤ T.hold ∧ T.hold ≤ 1048576) {h : H} (t : IsTab h b T p) {K : AV → H → Prop} (hK : ∀ h' p', Fr (fun c => c = b) h h' → IsTab h' b (T.drop d n now) p' → K (.tup []) h') : Cw S.T 93 [.ptr b [0] 195, .int .i64 d, .int .i64 n, .int .i64 now] h K := by
  refine cw_q 200 (ex93 _) fn93 ?_
  unfold timeF at hnow
  refine ⟨d, rfl, hd, ?_⟩
  refine ⟨n, rfl, hn, ?_⟩
  refine ⟨_, _, _, t.hb, ?_⟩
  refine ⟨now + T.hold, i64_id (by omega) (by omega), ?_⟩
  refine readP (by exact t.hb) (at_cons (at_off hd hn) rfl) ?_
  refine And.intro rfl (writeP (by exact t.hb) (by decide) (put_off (o := { off0 with held := true, until_ := now + T.hold, last := (T.l d n).key }) (v := .nils) hd hn) fun g2 u2 => ?_)
  have tb : IsTab (h.bump 15) b T p := t.keep (Keep.bump _ _)
  refine wp_nil (hK g2 _ (((Fr.refl _ _).bump).upd u2 (.inl rfl)) (tb.set u2 (Keep.bump h 15) (fun i j hi hj => ?_) trivial))
  unfold setP
  split
  · exact .inl rfl
  · exact (t.hp i j hi hj).keep (Keep.bump _ _)
theorem twin_ok {kd : Int} {kk : Key} {v : AV} {h : H} (hv : PathOK h v) {K : AV → H → Prop} (hK : ∀ h' v', Keep h h' → PathOK h' v' → K (knownV kd kk v') h') : Cw S.T 127 [knownV kd kk v] h K := by
  refine cw_q 200 (ex127 _) fn127 ?_
  refine And.intro rfl fun g1 m1 => ?_
  refine fun g2 m2 => ?_
  refine fun g3 m3 => ?_
  have n1 := m1.nx
  have n2 := m2.nx
  have n3 := m3.nx
  have k3 : Keep h g3 := (((Keep.refl h).new m1 (Nat.le_refl _)).new m2 (by omega)).new m3 (by omega)
  have a3 := m3.ne (m2.ne m1.at (by omega)) (by omega)
  refine ⟨_, _, _, a3, ?_⟩
  have src : Src 62 false g3 v [] := by
    rcases hv.keep k3 with rfl | ⟨c, kk, rfl, _, h3⟩
    · exact src_nils
    · exact src_all h3
  refine app_none src (.inr ⟨_, _, _, _, rfl⟩) ?_
  refine And.intro rfl ⟨_, _, _, a3, by decide, fun g4 u4 => ?_⟩
  refine ⟨_, _, _, u4.at, ?_⟩
  refine And.intro rfl ⟨_, _, _, u4.ne (m3.ne m2.at (by omega)) (by omega), by decide, fun g5 u5 => ?_⟩
  have n4 : g4.next = g3.next := u4.next
  have n5 : g5.next = g4.next := u5.next
  refine ⟨_, _, _, rfl, read_of u5.at rfl, hK g5 (.slice g2.next [] 0 0 62) ((k3.upd u4 (Nat.le_refl _)).upd u5 (by omega)) (.inr ⟨g2.next, .fixed, rfl, by omega, u5.ne (u4.ne m3.at (by omega)) (by omega)⟩)⟩
/-- a route, as Get says it -/
structure Rt where
  dest : Int
  key : Key
  next : Int
  valid : Bool
  since : Int
  kd : Int
  kk : Key
def rtV (r : Rt) (v : AV) : AV := .agg 204 [.int .i64 r.dest, keyV r.key, .int .i64 r.next, .bool r.valid, .int .i64 r.since, knownV r.kd r.kk v]
def rt0 : Rt := ⟨0, k0, 0, false, 0, 0, k0⟩
/-- next hops are nobody, or a node -/
def Tab.Ok (T : Tab) : Prop := ∀ d, d < 8 → T.nx d = -1 ∨ ∃ m : Nat, T.nx d = m ∧ m < 8
def Tab.get (T : Tab) (d : Int) : Option Rt := if 0 ≤ d ∧ d < 8 ∧ 0 ≤ T.nx d.toNat then
    let o := T.l d.toNat (T.nx d.toNat).toNat
    some ⟨d, o.key, T.nx d.toNat, true, o.since, o.kd, o.kk⟩ else none
def getR (o : Option Rt) : Rt := o.getD rt0
set_option maxRecDepth 4000 in
theorem get_ok {b : Nat} {d : Int} {T : Tab} {p : Nat → Nat → AV} {h : H} (t : IsTab h b T p) (ok : T.Ok) {K : AV → H → Prop} (hK : ∀ h' v, Keep h h' → PathOK h' v → K (.tup [rtV (getR (T.get d)) v, .bool (T.get d).isSome]) h') : Cw S.T 99 [.ptr b [0] 195, .int .i64 d] h K := by
  refine cw_q 300 (ex99 _) fn99 ?_
  refine fun g1 m1 => ?_
  have n1 := m1.nx
  have k1 : Keep h g1 := (Keep.refl h).new m1 (Nat.le_refl _)
  have t1 := t.keep k1
  have lb := t.lb
  have none_ : T.get d = none → ∀ g, Upd g1 h.next (.row .fixed 204 [rtV rt0 .nils]) g → RetP (fun i => if i = 4 then .ptr h.next [0] 204 else .bool false) g f99.results fun vs => K (tupOf vs) g := by
    intro hg g u
    have := hK g .nils (k1.upd u (Nat.le_refl _)) (.inl rfl)
    rw [hg] at this
    exact ⟨_, _, _, rfl, read_of u.at rfl, _, rfl, rfl, this⟩
  refine sel_intro (fun c1 => ?_) (fun c1 => ?_)
  · refine And.intro rfl ⟨_, _, _, m1.at, by decide, fun g2 u2 => ?_⟩
    simp only [decide_eq_true_eq] at c1
    have := none_ (by unfold Tab.get; rw [if_neg (by omega)]) g2 u2
    exact this
  refine sel_intro (fun c2 => ?_) (fun c2 => ?_)
  · refine And.intro rfl ⟨_, _, _, m1.at, by decide, fun g2 u2 => ?_⟩
    simp only [decide_eq_true_eq] at c2
    have := none_ (by unfold Tab.get; rw [if_neg (by omega)]) g2 u2
    exact this
  simp only [decide_eq_false_iff_not] at c1 c2
  obtain ⟨d, rfl⟩ : ∃ m : Nat, d = m := ⟨d.toNat, by omega⟩
  have hd : d < 8 := by omega
  refine ⟨d, rfl, hd, ?_⟩
  refine readP t1.hb (at_nx hd) ?_
  refine sel_intro (fun c3 => ?_) (fun c3 => ?_)
  · refine And.intro rfl ⟨_, _, _, m1.at, by decide, fun g2 u2 => ?_⟩
    simp only [decide_eq_true_eq] at c3
    have := none_ (by unfold Tab.get; rw [if_neg (fun hh => by have := hh.2.2; simp at this; omega)]) g2 u2
    exact this
  simp only [decide_eq_false_iff_not] at c3
  rcases ok d hd with hnx | ⟨m, hnx, hm⟩
  · rw [hnx] at c3; omega
  have hg : T.get (d : Int) = some ⟨d, (T.l d m).key, m, true, (T.l d m).since, (T.l d m).kd, (T.l d m).kk⟩ := by
    unfold Tab.get
    rw [if_pos ⟨by omega, by omega, by simp [hnx]⟩]
    simp [hnx]
  rw [hg] at hK
  refine ⟨d, rfl, hd, ?_⟩
  refine readP (by exact t1.hb) (at_nx hd) ?_
  refine ⟨d, rfl, hd, ?_⟩
  refine ⟨m, hnx, hm, ?_⟩
  refine readP (by exact t1.hb) (at_off hd hm) ?_
  refine fun g2 m2 => ?_
  have n2 : g2.next = g1.next + 15 := by rw [m2.next, if_neg (by show _ ≠ g1.next + 15; omega)]; rfl
  refine And.intro rfl ⟨_, _, _, m2.at, by decide, fun g3 u3 => ?_⟩
  have n3 : g3.next = g2.next := u3.next
  have k3 : Keep h g3 := (((k1.trans (Keep.bump g1 15)).new m2 (by omega)).upd u3 (by omega))
  have t3 := t.keep k3
  have o3 := u3.at
  refine ⟨_, _, _, o3, ?_⟩
  refine ⟨d, rfl, hd, ?_⟩
  refine readP (by exact t3.hb) (at_nx hd) ?_
  refine ⟨_, _, _, o3, ?_⟩
  refine ⟨_, _, _, o3, ?_⟩
  refine twin_ok ((t3.hp d m hd hm).keep (Keep.bump _ _)) (fun g4 v k4 hv => ?_)
  have k4 := k4.unbump
  have n4 := k4.1
  have o4 := k4.to o3 (by omega)
  refine And.intro ⟨rfl, _, _, _, o4, rfl⟩ (And.intro ⟨rfl, readP ((t3.keep k4).hb) (at_nx hd) rfl⟩ (And.intro ⟨rfl, _, _, _, o4, rfl⟩ ?_))
  have a4 := k4.to (u3.ne (m2.ne m1.at (by omega)) (by omega)) (by omega)
  refine And.intro rfl ⟨_, _, _, a4, by decide, fun g5 u5 => ?_⟩
  have hv5 : PathOK g5 v := by
    rcases hv with h1 | ⟨c, kk, h1, h2, h3⟩
    · exact .inl h1
    · refine .inr ⟨c, kk, h1, by rw [u5.next]; exact h2, u5.ne h3 (fun e => ?_)⟩
      rw [e, a4] at h3
      cases h3
  have hf := hK g5 v ((k3.trans k4).upd u5 (Nat.le_refl _)) hv5
  refine ⟨_, _, _, rfl, read_of u5.at rfl, _, rfl, rfl, ?_⟩
  have e : (AV.int IntKind.i64 (T.nx d)) = .int .i64 m := by rw [hnx]
  rw [e]
  exact hf
end Go.Dam.S

namespace Go.Dam.S
open Go Go.Dam
def Tab.node (T : Tab) (n : Int) : Prop := 0 ≤ n ∧ n < 8 ∧ n ≠ T.self
instance (T : Tab) (n : Int) : Decidable (T.node n) := inferInstanceAs (Decidable (_ ∧ _))
theorem node_ok {b : Nat} {n : Int} {T : Tab} {p : Nat → Nat → AV} {h : H} (t : IsTab h b T p) {K : AV → H → Prop} (hK : K (.bool (decide (T.node n))) h) : Cw S.T 123 [.ptr b [0] 195, .int .i64 n] h K := by
  refine cw_q 200 (ex123 _) fn123 ?_
  have no : ¬ T.node n → K (.bool false) h := fun hn => by rw [decide_eq_false hn] at hK; exact hK
  unfold Tab.node at no
  refine sel_intro (fun c1 => ?_) (fun c1 => ?_)
  · refine sel_intro (fun c2 => ?_) (fun c2 => ?_)
    · refine ⟨_, _, _, t.hb, ?_⟩
      simp only [decide_eq_true_eq] at c1 c2
      refine ⟨.bool (n != T.self), rfl, rfl, ?_⟩
      rw [show (n != T.self) = decide (T.node n) from by
        by_cases hs : n = T.self
        · rw [decide_eq_false (fun h : T.node n => h.2.2 hs)]; simp [hs]
        · rw [decide_eq_true (show T.node n from ⟨c1, c2, hs⟩)]; simp [hs]]
      exact hK
    · simp only [decide_eq_false_iff_not] at c2
      exact ⟨_, rfl, rfl, no (by omega)⟩
  · simp only [decide_eq_false_iff_not] at c1
    exact ⟨_, rfl, rfl, no (by omega)⟩
def rulesR (hold life : Int) : Prop := 0 ≤ hold ∧ hold ≤ 1048576 ∧ 1 ≤ life ∧ life ≤ 1048576
instance (a b : Int) : Decidable (rulesR a b) := inferInstanceAs (Decidable (_ ∧ _))
def rulesV (hold life : Int) : AV := .agg 99 [.int .i64 hold, .int .i64 life]
theorem rright_ok {a c : Int} {h : H} {K : AV → H → Prop} (hK : ∀ h', Keep h h' → K (.bool (decide (rulesR a c))) h') : Cw S.T 91 [rulesV a c] h K := by
  refine cw_q 200 (ex91 _) fn91 ?_
  refine And.intro rfl fun g1 m1 => ?_
  have k1 : Keep h g1 := (Keep.refl h).new m1 (Nat.le_refl _)
  have a1 := m1.at
  have hK := hK g1 k1
  have no : ¬ rulesR a c → K (.bool false) g1 := fun hn => by rw [decide_eq_false hn] at hK; exact hK
  unfold rulesR at no
  refine ⟨_, _, _, a1, ?_⟩
  refine sel_intro (fun c1 => ?_) (fun c1 => ?_)
  · refine ⟨_, _, _, a1, ?_⟩
    refine sel_intro (fun c2 => ?_) (fun c2 => ?_)
    · refine ⟨_, _, _, a1, ?_⟩
      refine sel_intro (fun c3 => ?_) (fun c3 => ?_)
      · refine ⟨_, _, _, a1, ?_⟩
        simp only [decide_eq_true_eq] at c1 c2 c3
        refine ⟨.bool (decide (c ≤ 1048576)), rfl, rfl, ?_⟩
        rw [show decide (c ≤ 1048576) = decide (rulesR a c) from dec_congr ⟨fun h => ⟨c1, c2, c3, h⟩, fun h => h.2.2.2⟩]
        exact hK
      · simp only [decide_eq_false_iff_not] at c3
        exact ⟨_, rfl, rfl, no (by omega)⟩
    · simp only [decide_eq_false_iff_not] at c2
      exact ⟨_, rfl, rfl, no (by omega)⟩
  · simp only [decide_eq_false_iff_not] at c1
    exact ⟨_, rfl, rfl, no (by omega)⟩

/-! ### a new table -/
def tabNew (self hold life : Int) (i : Nat) : Tab := ⟨self, hold, life, fun _ _ => off0, fun d => if d < i then -1 else 0⟩
def body47 : ACode := (.seq (.reg f47r5) (.seq (.cond (.t 24) .skip (.exit 0)) (.seq (.block 1 (.seq (.reg f47r6) (.reg f47r7))) (.reg f47r8))))
theorem loop47 {b : Nat} {self hold life : Int} {h0 : H} {k : List Item} {Q : Env → H → Prop}
    (hk : ∀ r h, agree r [(6, .ptr b [0] 195)] → Fr (fun c => c = b) h0 h → IsTab h b (tabNew self hold life 8) (fun _ _ => .nils) → Wp S.T k r h Q) :
    ∀ (n i : Nat) (r : Env) (h : H), i + n = 8 → agree r [(6, .ptr b [0] 195), (23, .int .i64 i)] → Fr (fun c => c = b) h0 h → IsTab h b (tabNew self hold life i) (fun _ _ => .nils) → Wp S.T (.inLoop body47 :: .inBlock 0 :: k) r h Q := by
  intro n
  induction n with
  | zero =>
    intro i r h hi ha F t
    have hi8 : i = 8 := by omega
    subst hi8
    refine wp_inLoop (wp_q (items := [.code body47, .inLoop body47, .inBlock 0]) 50 ha ?_)
    unfold body47
    exact hk _ _ ⟨rfl, trivial⟩ F t
  | succ n ih =>
    intro i r h hi ha F t
    have hi8 : i < 8 := by omega
    refine wp_inLoop (wp_q (items := [.code body47, .inLoop body47, .inBlock 0]) 100 ha ?_)
    unfold body47
    refine sel_intro (fun c1 => ?_) (fun c1 => ?_)
    · refine ⟨i, rfl, hi8, ?_⟩
      refine And.intro rfl (writeP t.hb (by decide) (put_nx hi8) fun g2 u2 => ?_)
      refine ⟨((i + 1 : Nat) : Int), by rw [i64_id (by omega) (by omega)]; rfl, ?_⟩
      refine ih (i + 1) _ _ (by omega) ⟨rfl, rfl, trivial⟩ (F.upd u2 (.inl rfl)) ?_
      have e : (tabNew self hold life i).setN i (-1) = tabNew self hold life (i + 1) := by
        unfold tabNew Tab.setN upd
        congr 1
        funext j
        by_cases h1 : j = i
        · subst h1; simp
        · simp only [h1, if_false]
          by_cases h2 : j < i
          · rw [if_pos h2, if_pos (by omega)]
          · rw [if_neg h2, if_neg (by omega)]
      rw [← e]
      exact t.set u2 (Keep.refl h) (fun d n hd hn => .inl rfl) trivial
    · exfalso; simp only [decide_eq_false_iff_not] at c1; omega
set_option maxRecDepth 4000 in
theorem rnew_ok {self hold life : Int} {h : H} {K : AV → H → Prop} (h0 : ¬ (0 ≤ self ∧ self < 8 ∧ rulesR hold life) → ∀ h', Keep h h' → K (.tup [.nilp, .int .i64 1]) h')
    (h1 : 0 ≤ self ∧ self < 8 ∧ rulesR hold life → ∀ h' b, Keep h h' → h.next ≤ b → IsTab h' b (tabNew self hold life 8) (fun _ _ => .nils) → K (.tup [.ptr b [0] 195, .int .i64 0]) h') : Cw S.T 47 [.int .i64 self, rulesV hold life] h K := by
  refine cw_q 200 (ex47 _) fn47 ?_
  refine And.intro rfl fun g1 m1 => ?_
  have k1 : Keep h g1 := (Keep.refl h).new m1 (Nat.le_refl _)
  have n1 := m1.nx
  refine sel_intro (fun c1 => ?_) (fun c1 => ?_)
  · simp only [decide_eq_true_eq] at c1
    exact ⟨_, rfl, rfl, _, rfl, rfl, h0 (by omega) g1 k1⟩
  refine sel_intro (fun c2 => ?_) (fun c2 => ?_)
  · simp only [decide_eq_true_eq] at c2
    exact ⟨_, rfl, rfl, _, rfl, rfl, h0 (by omega) g1 k1⟩
  simp only [decide_eq_false_iff_not] at c1 c2
  refine ⟨_, _, _, m1.at, ?_⟩
  refine rright_ok (a := hold) (c := life) (fun g2 k2 => ?_)
  refine sel_intro (fun c3 => ?_) (fun c3 => ?_)
  · have c3 : (!decide (rulesR hold life)) = true := c3
    exact ⟨_, rfl, rfl, _, rfl, rfl, h0 (fun hh => by simp [hh.2.2] at c3) g2 (k1.trans k2)⟩
  have c3 : (!decide (rulesR hold life)) = false := c3
  have hr : rulesR hold life := by simpa using c3
  have n2 := k2.1
  refine ⟨_, _, _, k2.to m1.at (by omega), ?_⟩
  refine And.intro rfl fun g3 m3 => ?_
  have n3 := m3.nx
  refine wp_loop_of (loop47 (b := g2.next) (self := self) (hold := hold) (life := life) (h0 := g3) (fun r g4 ha F t => ?_) 8 0 _ g3 rfl ⟨rfl, rfl, trivial⟩ (Fr.refl _ _) ⟨m3.at, by omega, fun _ _ _ _ => .inl rfl⟩)
  refine wp_q0 50 ha ?_
  have k4 : Keep h g4 := by
    have k3 : Keep h g3 := (k1.trans k2).new m3 (by omega)
    refine ⟨Nat.le_trans k3.1 F.1, fun c hc => ?_⟩
    rw [F.2 c (by omega) (by omega)]
    exact k3.2 c hc
  exact ⟨_, rfl, rfl, _, rfl, rfl, h1 ⟨by omega, by omega, hr⟩ g4 g2.next k4 (by omega) t⟩

/-! ### an offer -/
theorem key_beq {a b : Key} : AV.beqs [.int .u32 a.e, .int .u32 a.s, .int .i64 a.m] [.int .u32 b.e, .int .u32 b.s, .int .i64 b.m] = decide (a = b) := by
  obtain ⟨a1, a2, a3⟩ := a
  obtain ⟨b1, b2, b3⟩ := b
  by_cases h : (⟨a1, a2, a3⟩ : Key) = ⟨b1, b2, b3⟩
  · rw [decide_eq_true h]
    cases h
    exact beqs_self _
  · rw [decide_eq_false h]
    rw [Bool.eq_false_iff]
    intro hb
    have := beqs_eq hb
    simp at this
    exact h (by rw [this.1, this.2.1, this.2.2])
theorem Tab.Ok.setL {T : Tab} (ok : T.Ok) (d n : Nat) (o : Off) : (T.setL d n o).Ok := ok
theorem Tab.Ok.choose {T : Tab} (ok : T.Ok) (d : Nat) : (T.choose d).Ok := by
  intro i hi
  unfold Tab.choose Tab.setN upd
  simp only
  split
  · cases hb : bestTo T d 8 with
    | none => exact .inl rfl
    | some m => exact .inr ⟨m, rfl, bestTo_lt hb⟩
  · exact ok i hi
/-- what an offer leaves, before it is chosen -/
def offNew (now kd : Int) (k : Key) : Off := { off0 with has := true, key := k, since := now, kd := kd, kk := k }
def code75e : ACode := (.seq (.reg f75r15) (.seq (.draw f75r16) (.seq (.reg f75r17) (.seq (.block 2 (.seq (.draw f75r18) (.cond (.t 135) (.seq (.reg f75r19) .ret) (.seq (.reg f75r20) (.cond (.t 145) (.seq (.reg f75r21) .ret) (.seq (.reg f75r22) (.cond (.t 148) (.seq (.reg f75r23) .ret) .skip))))))) (.seq (.reg f75r24) .ret)))))
set_option maxRecDepth 6000 in
theorem offer_end {b px d n : Nat} {now : Int} {k : Key} {T : Tab} {p : Nat → Nat → AV} (hd : d < 8) (hn : n < 8) {h0 h : H} (F : Fr (fun c => c = b) h0 h) (t : IsTab h b T p) (ok : T.Ok) (hpx : h0.next ≤ px) (lpx : px < h.next) (gx : h.get px = some (.row .fixed 154 [knownV d k .nils])) {K : AV → H → Prop} {r : Env} (ha : agree r [(0, .ptr b [0] 195), (1, .int .i64 now), (2, .int .i64 n), (9, .ptr px [0] 154), (14, .ptr b [n, d, 2, 0] 190)]) (lb0 : b < h0.next)
    (hK : ∀ h' p' (v : Int), Fr (fun c => c = b) h0 h' → IsTab h' b ((T.setL d n (offNew now d k)).choose d) p' → v = (if ((T.setL d n (offNew now d k)).choose d).nx d ≠ n then 1 else match T.get d with
      | none => 5
      | some r => if newerF k r.key = true then 4 else 3) → K (.tup [.int .i64 v, .int .i64 0]) h') : Wp S.T [.code code75e] r h (RetQ f75 K) := by
  refine wp_q0 300 ha ?_
  unfold code75e
  refine ⟨_, _, _, gx, ?_⟩
  refine get_ok t ok (fun h1 v0 k1 hv0 => ?_)
  have n1 := k1.1
  have n0 := F.1
  refine fun h2 m2 => ?_
  have n2 := m2.nx
  refine And.intro rfl ⟨_, _, _, m2.at, by decide, fun h3 u3 => ?_⟩
  have n3 : h3.next = h2.next := u3.next
  have K3 : Keep h h3 := (k1.new m2 (by omega)).upd u3 (by omega)
  have gx3 := K3.to gx lpx
  have t3 := t.keep K3
  refine ⟨_, _, _, gx3, ?_⟩
  refine ⟨_, _, _, gx3, ?_⟩
  refine twin_ok (.inl rfl) (fun h4 v k4 hv => ?_)
  have n4 : h3.next + 9 ≤ h4.next := k4.1
  have k4 := k4.unbump
  refine And.intro ⟨rfl, _, _, _, k4.to gx3 (by omega), rfl⟩ ?_
  have t4 := t3.keep k4
  refine And.intro rfl (writeP t4.hb (by decide) (put_off (o := offNew now d k) (v := v) hd hn) fun h5 u5 => ?_)
  have n5 : h5.next = h4.next := u5.next
  have hv' : ∀ i j, i < 8 → j < 8 → PathOK h4 (setP p d n v i j) := by
    intro i j hi hj
    unfold setP
    split
    · exact hv
    · exact t4.hp i j hi hj
  have t5 : IsTab h5 b (T.setL d n (offNew now d k)) (setP p d n v) := t4.set u5 (Keep.refl _) hv' trivial
  have K4 := K3.trans k4
  have gx4 := K4.to gx lpx
  have lb := t.lb
  have npx : px ≠ b := by omega
  have F5 : Fr (fun c => c = b) h0 h5 := (F.keep K4).upd u5 (.inl rfl)
  have gx5 := u5.ne gx4 npx
  refine ⟨_, _, _, gx5, ?_⟩
  refine choose_ok hd t5 (fun h6 F6 t6 => ?_)
  have n6 := F6.1
  have F60 := F5.trans F6
  have gx6 := F6.to gx5 (by omega) npx
  refine ⟨_, _, _, gx6, ?_⟩
  refine ⟨d, rfl, hd, ?_⟩
  refine readP (by exact t6.hb) (at_nx hd) ?_
  have fin : ∀ (v : Int) g, Keep h6 g → v = (if ((T.setL d n (offNew now d k)).choose d).nx d ≠ n then 1 else match T.get d with
      | none => 5
      | some r => if newerF k r.key = true then 4 else 3) → K (.tup [.int .i64 v, .int .i64 0]) g := fun v g kg hv => hK g _ v (F60.keep kg) (t6.keep kg) hv
  refine sel_intro (fun c1 => ?_) (fun c1 => ?_)
  · have c1 : (((T.setL d n (offNew now d k)).choose d).nx d != n) = true := c1
    exact ⟨_, rfl, rfl, _, rfl, rfl, fin 1 _ (Keep.bump _ _) (by rw [if_pos (by simpa using c1)])⟩
  have c1 : (((T.setL d n (offNew now d k)).choose d).nx d != n) = false := c1
  rw [if_neg (by simpa using c1)] at fin
  refine sel_intro (fun c2 => ?_) (fun c2 => ?_)
  · have c2 : (!(T.get d).isSome) = true := c2
    refine ⟨_, rfl, rfl, _, rfl, rfl, fin 5 _ (Keep.bump _ _) ?_⟩
    cases hg : T.get d with
    | none => rfl
    | some r => rw [hg] at c2; simp at c2
  have c2 : (!(T.get d).isSome) = false := c2
  obtain ⟨rt, hrt⟩ : ∃ rt, T.get d = some rt := by
    cases hg : T.get d with
    | none => rw [hg] at c2; simp at c2
    | some r => exact ⟨r, rfl⟩
  rw [hrt] at fin u3
  refine ⟨_, _, _, gx6, ?_⟩
  have q3 := F6.to (u5.ne (k4.to u3.at (by omega)) (by omega)) (by omega) (by omega)
  refine ⟨_, _, _, q3, ?_⟩
  refine newer_ok (a := k) (b := rt.key) (fun h7 k7 => ?_)
  have k7 : Keep h6 h7 := k7.unbump
  refine sel_intro (fun c3 => ?_) (fun c3 => ?_)
  · exact ⟨_, rfl, rfl, _, rfl, rfl, fin 4 _ k7 (by simp only [c3, if_true])⟩
  · exact ⟨_, rfl, rfl, _, rfl, rfl, fin 3 _ k7 (by simp only [c3, if_false, Bool.false_eq_true])⟩
end Go.Dam.S

namespace Go.Dam.S
open Go Go.Dam
/-- what an offer comes to, once its form and the floor let it by -/
def Tab.offerR (T : Tab) (now : Int) (n d : Nat) (k : Key) : Int × Int × Tab :=
  if (T.l d n).has = true ∧ cmpF k (T.l d n).key < 0 then (0, 27, T)
  else if (T.l d n).has = true ∧ k = (T.l d n).key then (2, 0, T.setL d n { T.l d n with since := now })
  else if (T.l d n).held = true ∧ now < (T.l d n).until_ ∧ newerF k (T.l d n).last = false then (0, 28, T)
  else
    (if ((T.setL d n (offNew now d k)).choose d).nx d ≠ n then 1 else match T.get d with
      | none => 5
      | some r => if newerF k r.key = true then 4 else 3, 0, (T.setL d n (offNew now d k)).choose d)
def code75b : ACode := (.block 1 (.seq (.draw f75r8) (.cond (.t 60) (.seq (.reg f75r9) .ret) (.seq (.draw f75r10) (.cond (.t 75) (.seq (.reg f75r11) (.seq (.reg f75r12) .ret)) (.seq (.draw f75r13) (.cond (.t 93) (.seq (.reg f75r14) .ret) .skip)))))))
set_option maxRecDepth 6000 in
theorem offer_rest {b px d n : Nat} {now : Int} {k : Key} {T : Tab} {p : Nat → Nat → AV} (hd : d < 8) (hn : n < 8) {h0 h : H} (F : Keep h0 h) (t : IsTab h b T p) (ok : T.Ok) (hpx : h0.next ≤ px) (lpx : px < h.next) (gx : h.get px = some (.row .fixed 154 [knownV d k .nils])) {K : AV → H → Prop} {r : Env} (ha : agree r [(0, .ptr b [0] 195), (1, .int .i64 now), (2, .int .i64 n), (9, .ptr px [0] 154)]) (lb0 : b < h0.next)
    (hK : ∀ h' p', Fr (fun c => c = b) h0 h' → IsTab h' b (T.offerR now n d k).2.2 p' → K (.tup [.int .i64 (T.offerR now n d k).1, .int .i64 (T.offerR now n d k).2.1]) h') : Wp S.T [.code (.seq (.draw f75r7) (.seq code75b code75e))] r h (RetQ f75 K) := by
  obtain ⟨R, hR⟩ : ∃ R, T.offerR now n d k = R := ⟨_, rfl⟩
  rw [hR] at hK
  unfold Tab.offerR at hR
  have stay : ∀ g (n e : Int), Keep h g → (n, e, T) = R → K (.tup [.int .i64 n, .int .i64 e]) g := by
    intro g n e kg he
    subst he
    exact hK g p (F.trans kg).fr (t.keep kg)
  have lb := t.lb
  refine wp_cutA 100 ha ?_
  refine ⟨_, _, _, gx, ?_⟩
  refine ⟨d, rfl, hd, ?_⟩
  refine ⟨n, rfl, hn, ?_⟩
  refine wp_cut 300 ?_
  unfold code75b
  have ath : at? [0, n, d, 2, 0] (.agg 195 [tabV T p]) = some (.bool (T.l d n).has) := at_cons (at_off hd hn) rfl
  -- what is done if nothing ends it
  have go : ∀ g, Keep h g → ∀ {r' : Env}, agree r' [(0, .ptr b [0] 195), (1, .int .i64 now), (2, .int .i64 n), (9, .ptr px [0] 154), (14, .ptr b [n, d, 2, 0] 190)] →
      ¬ ((T.l d n).has = true ∧ cmpF k (T.l d n).key < 0) → ¬ ((T.l d n).has = true ∧ k = (T.l d n).key) → ¬ ((T.l d n).held = true ∧ now < (T.l d n).until_ ∧ newerF k (T.l d n).last = false) → Wp S.T [.code code75e] r' g (RetQ f75 K) := by
    intro g kg r' ha' h1 h2 h3
    rw [if_neg h1, if_neg h2, if_neg h3] at hR
    have := kg.1
    refine offer_end hd hn (h0 := h0) ((F.trans kg).fr) (t.keep kg) ok hpx (by omega) (kg.to gx lpx) ha' lb0 (fun h' p' v F' t' hv => ?_)
    subst hR
    rw [hv]
    exact hK h' p' F' t'
  have kb : Keep h ((h.bump 9).bump 15) := (Keep.bump h 9).trans (Keep.bump _ _)
  cases hh : (T.l d n).has with
  | false =>
    rw [hh] at ath
    refine readP (by exact t.hb) ath ?_
    refine readP (by exact t.hb) ath ?_
    have e1 : ¬ ((T.l d n).has = true ∧ cmpF k (T.l d n).key < 0) := fun h => by rw [hh] at h; cases h.1
    have e2 : ¬ ((T.l d n).has = true ∧ k = (T.l d n).key) := fun h => by rw [hh] at h; cases h.1
    refine readP (by exact t.hb) (at_cons (at_off hd hn) rfl) ?_
    refine sel_intro (fun c1 => ?_) (fun c1 => ?_)
    · refine readP (by exact t.hb) (at_cons (at_off hd hn) rfl) ?_
      refine sel_intro (fun c2 => ?_) (fun c2 => ?_)
      · refine ⟨_, _, _, gx, ?_⟩
        refine readP (by exact t.hb) (at_cons (at_off hd hn) rfl) ?_
        refine newer_ok (a := k) (b := (T.l d n).last) (fun g kg => ?_)
        have kg : Keep h g := ⟨Nat.le_trans (by show h.next ≤ h.next + 9 + 15 + 14 + 23; omega) kg.1, fun c hc => kg.2 c (Nat.lt_of_lt_of_le hc (by show h.next ≤ h.next + 9 + 15 + 14 + 23; omega))⟩
        refine sel_intro (fun c3 => ?_) (fun c3 => ?_)
        · have c3 : (!newerF k (T.l d n).last) = true := c3
          rw [if_neg e1, if_neg e2, if_pos ⟨c1, by simpa using c2, by simpa using c3⟩] at hR
          exact ⟨_, rfl, rfl, _, rfl, rfl, stay g 0 28 kg hR⟩
        · have c3 : (!newerF k (T.l d n).last) = false := c3
          exact go g kg ⟨rfl, rfl, rfl, rfl, rfl, trivial⟩ e1 e2 (fun hh => by rw [hh.2.2] at c3; cases c3)
      · exact go _ (((Keep.bump h 9).trans (Keep.bump _ 15)).trans ((Keep.bump _ 14).trans (Keep.bump _ 23))) ⟨rfl, rfl, rfl, rfl, rfl, trivial⟩ e1 e2 (fun hh => by simp only [decide_eq_false_iff_not] at c2; exact c2 hh.2.1)
    · exact go _ (((Keep.bump h 9).trans (Keep.bump _ 15)).trans ((Keep.bump _ 14).trans (Keep.bump _ 23))) ⟨rfl, rfl, rfl, rfl, rfl, trivial⟩ e1 e2 (fun hh => by rw [hh.1] at c1; cases c1)
  | true =>
    rw [hh] at ath
    refine readP (by exact t.hb) ath ?_
    refine ⟨_, _, _, gx, ?_⟩
    refine readP (by exact t.hb) (at_cons (at_off hd hn) rfl) ?_
    refine compare_ok (a := k) (b := (T.l d n).key) (fun g1 kg => ?_)
    have k1 : Keep h g1 := kb.trans kg
    have n1 := k1.1
    have t1 := t.keep k1
    have gx1 := k1.to gx lpx
    refine sel_intro (fun c1 => ?_) (fun c1 => ?_)
    · simp only [decide_eq_true_eq] at c1
      rw [if_pos ⟨hh, c1⟩] at hR
      exact ⟨_, rfl, rfl, _, rfl, rfl, stay g1 0 27 k1 hR⟩
    simp only [decide_eq_false_iff_not] at c1
    have e1 : ¬ ((T.l d n).has = true ∧ cmpF k (T.l d n).key < 0) := fun h => c1 h.2
    refine readP (by exact t1.hb) ath ?_
    refine ⟨_, _, _, gx1, ?_⟩
    refine readP (by exact t1.hb) (at_cons (at_off hd hn) rfl) ?_
    refine sel_intro (fun c2 => ?_) (fun c2 => ?_)
    · have c2 : AV.beqs [.int .u32 k.e, .int .u32 k.s, .int .i64 k.m] [.int .u32 (T.l d n).key.e, .int .u32 (T.l d n).key.s, .int .i64 (T.l d n).key.m] = true := c2
      rw [key_beq, decide_eq_true_eq] at c2
      rw [if_neg e1, if_pos ⟨hh, c2⟩] at hR
      refine And.intro rfl (writeP (by exact t1.hb) (by decide) (put_cons (at_off hd hn) (by simp) (put_off (o := { T.l d n with since := now }) (v := p d n) hd hn)) fun g2 u2 => ?_)
      subst hR
      have tb : IsTab (g1.bump 14) b T p := t1.keep (Keep.bump _ _)
      refine ⟨_, rfl, rfl, _, rfl, rfl, hK g2 _ ((((F.trans k1).fr).bump).upd u2 (.inl rfl)) (tb.set u2 (Keep.refl _) (fun i j hi hj => ?_) trivial)⟩
      unfold setP
      split
      · rename_i hij; rw [← hij.1, ← hij.2]; exact tb.hp i j hi hj
      · exact tb.hp i j hi hj
    have c2 : AV.beqs [.int .u32 k.e, .int .u32 k.s, .int .i64 k.m] [.int .u32 (T.l d n).key.e, .int .u32 (T.l d n).key.s, .int .i64 (T.l d n).key.m] = false := c2
    rw [key_beq, decide_eq_false_iff_not] at c2
    have e2 : ¬ ((T.l d n).has = true ∧ k = (T.l d n).key) := fun h => c2 h.2
    refine readP (by exact t1.hb) (at_cons (at_off hd hn) rfl) ?_
    refine sel_intro (fun c4 => ?_) (fun c4 => ?_)
    · refine readP (by exact t1.hb) (at_cons (at_off hd hn) rfl) ?_
      refine sel_intro (fun c5 => ?_) (fun c5 => ?_)
      · refine ⟨_, _, _, gx1, ?_⟩
        refine readP (by exact t1.hb) (at_cons (at_off hd hn) rfl) ?_
        refine newer_ok (a := k) (b := (T.l d n).last) (fun g kg => ?_)
        have kg : Keep h g := k1.trans ((((Keep.bump g1 14).trans (Keep.bump _ 23))).trans kg)
        refine sel_intro (fun c3 => ?_) (fun c3 => ?_)
        · have c3 : (!newerF k (T.l d n).last) = true := c3
          rw [if_neg e1, if_neg e2, if_pos ⟨c4, by simpa using c5, by simpa using c3⟩] at hR
          exact ⟨_, rfl, rfl, _, rfl, rfl, stay g 0 28 kg hR⟩
        · have c3 : (!newerF k (T.l d n).last) = false := c3
          exact go g kg ⟨rfl, rfl, rfl, rfl, rfl, trivial⟩ e1 e2 (fun hh => by rw [hh.2.2] at c3; cases c3)
      · exact go _ (k1.trans ((Keep.bump g1 14).trans (Keep.bump _ 23))) ⟨rfl, rfl, rfl, rfl, rfl, trivial⟩ e1 e2 (fun hh => by simp only [decide_eq_false_iff_not] at c5; exact c5 hh.2.1)
    · exact go _ (k1.trans ((Keep.bump g1 14).trans (Keep.bump _ 23))) ⟨rfl, rfl, rfl, rfl, rfl, trivial⟩ e1 e2 (fun hh => by rw [hh.1] at c4; cases c4)

def Tab.offer (T : Tab) (now fr kd : Int) (k floor : Key) (has : Bool) : Int × Int × Tab :=
  if ¬ (T.node kd ∧ T.node fr ∧ rightK k ∧ timeF now) then (0, 1, T)
  else if has = true ∧ cmpF k floor < 0 then (0, 27, T)
  else T.offerR now fr.toNat kd.toNat k
def code75a : ACode := (.block 0 (.seq (.reg f75r1) (.cond (.t 17) (.seq (.reg f75r2) .ret) (.seq (.reg f75r3) (.cond (.t 20) (.seq (.reg f75r4) .ret) (.seq (.reg f75r5) (.cond (.t 43) (.seq (.reg f75r6) .ret) .skip)))))))
set_option maxRecDepth 6000 in
theorem offer_ok {b : Nat} {now fr kd : Int} {k floor : Key} {has : Bool} {T : Tab} {p : Nat → Nat → AV} {h : H} (t : IsTab h b T p) (ok : T.Ok) {K : AV → H → Prop}
    (hK : ∀ h' p', Fr (fun c => c = b) h h' → IsTab h' b (T.offer now fr kd k floor has).2.2 p' → K (.tup [.int .i64 (T.offer now fr kd k floor has).1, .int .i64 (T.offer now fr kd k floor has).2.1]) h') :
    Cw S.T 75 [.ptr b [0] 195, .int .i64 now, .int .i64 fr, knownV kd k .nils, keyV floor, .bool has] h K := by
  refine cw_w (ex75 _) fn75 ?_
  refine wp_cut 100 ?_
  refine And.intro rfl fun g1 m1 => ?_
  refine And.intro rfl fun g2 m2 => ?_
  have n1 := m1.nx
  have n2 := m2.nx
  have lb := t.lb
  have k2 : Keep h g2 := ((Keep.refl h).new m1 (Nat.le_refl _)).new m2 (by omega)
  have t2 := t.keep k2
  have a2 := m2.ne m1.at (by omega)
  have f2 := m2.at
  obtain ⟨R, hR⟩ : ∃ R, T.offer now fr kd k floor has = R := ⟨_, rfl⟩
  rw [hR] at hK
  unfold Tab.offer at hR
  have stay : ∀ g (n e : Int), Keep h g → (n, e, T) = R → K (.tup [.int .i64 n, .int .i64 e]) g := by
    intro g n e kg he
    subst he
    exact hK g p kg.fr (t.keep kg)
  refine wp_cut (a := code75a) (b := .seq (.draw f75r7) (.seq code75b code75e)) 300 ?_
  unfold code75a
  refine ⟨_, _, _, a2, ?_⟩
  refine node_ok t2 ?_
  refine sel_intro (fun c1 => ?_) (fun c1 => ?_)
  · have c1 : (!decide (T.node kd)) = true := c1
    rw [if_pos (fun hh => by simp [hh.1] at c1)] at hR
    exact ⟨_, rfl, rfl, _, rfl, rfl, stay g2 0 1 k2 hR⟩
  refine node_ok t2 ?_
  refine sel_intro (fun c2 => ?_) (fun c2 => ?_)
  · have c2 : (!decide (T.node fr)) = true := c2
    rw [if_pos (fun hh => by simp [hh.2.1] at c2)] at hR
    exact ⟨_, rfl, rfl, _, rfl, rfl, stay g2 0 1 k2 hR⟩
  refine ⟨_, _, _, a2, ?_⟩
  refine rightK_ok (a := k) (fun g3 k3 => ?_)
  have K3 := k2.trans k3
  refine sel_intro (fun c3 => ?_) (fun c3 => ?_)
  · have c3 : (!decide (rightK k)) = true := c3
    rw [if_pos (fun hh => by simp [hh.2.2.1] at c3)] at hR
    exact ⟨_, rfl, rfl, _, rfl, rfl, stay g3 0 1 K3 hR⟩
  refine time_ok ?_
  refine sel_intro (fun c4 => ?_) (fun c4 => ?_)
  · have c4 : (!decide (timeF now)) = true := c4
    rw [if_pos (fun hh => by simp [hh.2.2.2] at c4)] at hR
    exact ⟨_, rfl, rfl, _, rfl, rfl, stay g3 0 1 K3 hR⟩
  have c1 : T.node kd := by have c1 : (!decide (T.node kd)) = false := c1; simpa using c1
  have c2 : T.node fr := by have c2 : (!decide (T.node fr)) = false := c2; simpa using c2
  have c3 : rightK k := by have c3 : (!decide (rightK k)) = false := c3; simpa using c3
  have c4 : timeF now := by have c4 : (!decide (timeF now)) = false := c4; simpa using c4
  rw [if_neg (not_not_intro (And.intro c1 (And.intro c2 (And.intro c3 c4))))] at hR
  have n3 := k3.1
  have a3 := k3.to a2 (by omega)
  have f3 := k3.to f2 (by omega)
  obtain ⟨d, rfl⟩ : ∃ d : Nat, kd = d := ⟨kd.toNat, by have := c1.1; omega⟩
  obtain ⟨n, rfl⟩ : ∃ n : Nat, fr = n := ⟨fr.toNat, by have := c2.1; omega⟩
  have hd : d < 8 := by have := c1.2.1; omega
  have hn : n < 8 := by have := c2.2.1; omega
  simp only [Int.toNat_natCast] at hR
  have rest : ∀ g, Keep g3 g → ¬ (has = true ∧ cmpF k floor < 0) → ∀ {r : Env}, agree r [(0, .ptr b [0] 195), (1, .int .i64 now), (2, .int .i64 n), (9, .ptr h.next [0] 154)] → Wp S.T [.code (.seq (.draw f75r7) (.seq code75b code75e))] r g (RetQ f75 K) := by
    intro g kg hno r ha
    rw [if_neg hno] at hR
    have KG := K3.trans kg
    have := kg.1
    refine offer_rest hd hn KG (t.keep KG) ok (Nat.le_refl _) (by omega) (kg.to a3 (by omega)) ha lb (fun h' p' F' t' => ?_)
    rw [hR] at t' ⊢
    exact hK h' p' F' t'
  cases has with
  | false => exact rest g3 (Keep.refl _) (fun hh => by cases hh.1) ⟨rfl, rfl, rfl, rfl, trivial⟩
  | true =>
    refine ⟨_, _, _, a3, ?_⟩
    refine ⟨_, _, _, f3, ?_⟩
    refine compare_ok (a := k) (b := floor) (fun g4 k4 => ?_)
    refine sel_intro (fun c5 => ?_) (fun c5 => ?_)
    · simp only [decide_eq_true_eq] at c5
      rw [if_pos ⟨rfl, c5⟩] at hR
      exact ⟨_, rfl, rfl, _, rfl, rfl, stay g4 0 27 (K3.trans k4) hR⟩
    · simp only [decide_eq_false_iff_not] at c5
      exact rest g4 k4 (fun hh => c5 hh.2) ⟨rfl, rfl, rfl, rfl, trivial⟩
end Go.Dam.S
