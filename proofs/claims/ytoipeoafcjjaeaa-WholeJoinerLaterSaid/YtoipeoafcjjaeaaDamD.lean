/- Running the machine: what must hold for a run to end as wanted; rules for it, one an item. -/
import Derived.DataReads
import Derived.ChangeOld
import GoSem.ClaimChange
import Derived.WalkKit
import Derived.ProofKit
import Derived.OpenShut
import Derived.Below
import Derived.Carry
import Derived.Test.YtoipeoafcjjaeaaDamA
import Derived.Test.YtoipeoafcjjaeaaDamC
namespace Go.Dam

theorem exec_succ (T : Tbl) : ∀ (n : Nat) (items : List Item) (r : Env) (h : H) (R : Env × H), exec T n items r h = some R → exec T (n + 1) items r h = some R := by
  intro n
  induction n with
  | zero => intro items r h R he; simp [exec] at he
  | succ n ih =>
    intro items r h R he
    have stp : ∀ {o : AOper} {nid : Nat} {x : AV × H}, stepR T (fun F args => exec T n [.code F.body] (envOf args) h) r h nid o = some x → stepR T (fun F args => exec T (n + 1) [.code F.body] (envOf args) h) r h nid o = some x := by
      intro o nid x hx
      unfold stepR at hx ⊢
      split at hx
      · rename_i hw
        rw [if_pos hw]
        split at hx
        · rename_i hic
          rw [if_pos hic]
          split at hx <;> try (cases hx; done)
          split at hx
          · exact hx
          · split at hx <;> try (cases hx; done)
            split at hx <;> try (cases hx; done)
            rename_i he1
            have he2 := ih _ _ _ _ he1
            simp only [he2]
            exact hx
        · rename_i hic
          rw [if_neg hic]
          exact hx
      · rename_i hw
        rw [if_neg hw]
        exact hx
    cases items with
    | nil => exact he
    | cons i k =>
      cases i with
      | code c =>
        cases c with
        | cond c a b =>
          simp only [exec] at he
          split at he <;> try (cases he; done)
          rename_i t ht
          rw [exec, ht]
          cases t
          · exact ih _ _ _ _ he
          · exact ih _ _ _ _ he
        | exit id =>
          simp only [exec] at he
          split at he <;> try (cases he; done)
          rename_i k' hk'
          rw [exec, hk']
          exact ih _ _ _ _ he
        | ret => exact he
        | _ => exact ih _ _ _ _ he
      | inBlock id => exact ih _ _ _ _ he
      | inLoop a => exact ih _ _ _ _ he
      | ops l =>
        cases l with
        | nil => exact ih _ _ _ _ he
        | cons o l =>
          simp only [exec] at he
          rw [exec]
          split at he <;> try (cases he; done)
          rename_i hx
          rw [stp hx]
          exact ih _ _ _ _ he
      | dops b i l rd ef =>
        cases l with
        | nil => exact ih _ _ _ _ he
        | cons oc l =>
          obtain ⟨o, conf⟩ := oc
          simp only [exec] at he
          rw [exec]
          split at he <;> try (cases he; done)
          rename_i hx
          rw [stp hx]
          simp only
          split at he
          · rename_i h1
            rw [if_pos h1]
            split at he <;> try (cases he; done)
            rename_i h2
            rw [if_pos h2]
            exact ih _ _ _ _ he
          · rename_i h1
            rw [if_neg h1]
            split at he
            · rename_i h2
              rw [if_pos h2]
              split at he <;> try (cases he; done)
              rename_i h3
              rw [if_pos h3]
              exact ih _ _ _ _ he
            · rename_i h2
              rw [if_neg h2]
              exact ih _ _ _ _ he

theorem exec_le {T : Tbl} {n m : Nat} {items : List Item} {r : Env} {h : H} {R : Env × H} (he : exec T n items r h = some R) (hm : n ≤ m) : exec T m items r h = some R := by
  induction hm with
  | refl => exact he
  | step _ ih => exact exec_succ T _ _ _ _ _ ih

/-- a run ends, and so -/
inductive Wp (T : Tbl) (items : List Item) (r : Env) (h : H) (Q : Env → H → Prop) : Prop where
  | intro (n : Nat) (r' : Env) (h' : H) (he : exec T n items r h = some (r', h')) (hq : Q r' h')
/-- a call ends, and so -/
def CwD (T : Tbl) (f : FuncId) (args : List AV) (h : H) (K : AV → H → Prop) : Prop :=
  match T.ext f args with
  | some vs => K (tupOf vs) h
  | none => ∃ F, T.fn f = some F ∧ Wp T [.code F.body] (envOf args) h fun r1 h1 => ∃ vs, resOf r1 h1 F.results = some vs ∧ K (tupOf vs) h1
inductive Cw (T : Tbl) (f : FuncId) (args : List AV) (h : H) (K : AV → H → Prop) : Prop where
  | intro (of : CwD T f args h K)
/-- an operation is done, and so -/
def Ow (T : Tbl) (o : AOper) (r : Env) (h : H) (nid : Nat) (K : AV → H → Prop) : Prop :=
  if wantedA r o.guard = true then
    if o.op.isCall = true then ∃ f args, callOf r o.op = some (f, args) ∧ Cw T f args h K
    else ∃ v h', evOp T.te r h nid o.op = some (v, h') ∧ K v h'
  else K undefA h

theorem Wp.mono {T : Tbl} {items : List Item} {r : Env} {h : H} {Q Q' : Env → H → Prop} (hw : Wp T items r h Q) (hq : ∀ r h, Q r h → Q' r h) : Wp T items r h Q' := by
  obtain ⟨n, r', h', he, hQ⟩ := hw
  exact ⟨n, r', h', he, hq _ _ hQ⟩
theorem Cw.mono {T : Tbl} {f : FuncId} {args : List AV} {h : H} {K K' : AV → H → Prop} (hc : Cw T f args h K) (hk : ∀ v h, K v h → K' v h) : Cw T f args h K' := by
  obtain ⟨hc⟩ := hc
  refine ⟨?_⟩
  unfold CwD at hc ⊢
  cases hx : T.ext f args with
  | some vs => rw [hx] at hc; exact hk _ _ hc
  | none =>
    rw [hx] at hc
    obtain ⟨F, h1, h2⟩ := hc
    exact ⟨F, h1, h2.mono fun r h ⟨vs, h3, h4⟩ => ⟨vs, h3, hk _ _ h4⟩⟩

section rules
variable {T : Tbl} {k : List Item} {r : Env} {h : H} {Q : Env → H → Prop}
theorem Wp.step {items items' : List Item} {r' : Env} {h' : H} (hs : ∀ n, exec T (n + 1) items r h = exec T n items' r' h') (hw : Wp T items' r' h' Q) : Wp T items r h Q := by
  obtain ⟨n, r1, h1, he, hQ⟩ := hw
  exact ⟨n + 1, r1, h1, by rw [hs]; exact he, hQ⟩
theorem wp_nil (hq : Q r h) : Wp T [] r h Q := ⟨1, r, h, rfl, hq⟩
theorem wp_skipA (hw : Wp T k r h Q) : Wp T (.code .skip :: k) r h Q := hw.step fun _ => rfl
theorem wp_reg {ops : List AOper} (hw : Wp T (.ops ops :: k) r h Q) : Wp T (.code (.reg ops) :: k) r h Q := hw.step fun _ => rfl
theorem wp_draw {ops : List (AOper × List Nat)} (hw : Wp T (.dops h.next 0 ops [] [] :: k) r (h.bump ops.length) Q) : Wp T (.code (.draw ops) :: k) r h Q := hw.step fun _ => rfl
theorem wp_seqA {a b : ACode} (hw : Wp T (.code a :: .code b :: k) r h Q) : Wp T (.code (.seq a b) :: k) r h Q := hw.step fun _ => rfl
theorem wp_condA {c : Opnd} {a b : ACode} {t : Bool} (hc : c.ev r = .bool t) (hw : Wp T (.code (if t then a else b) :: k) r h Q) : Wp T (.code (.cond c a b) :: k) r h Q := by
  refine hw.step fun n => ?_
  rw [exec, hc]
  cases t <;> rfl
theorem wp_blockA {id : Nat} {a : ACode} (hw : Wp T (.code a :: .inBlock id :: k) r h Q) : Wp T (.code (.block id a) :: k) r h Q := hw.step fun _ => rfl
theorem wp_loopA {a : ACode} (hw : Wp T (.code a :: .inLoop a :: k) r h Q) : Wp T (.code (.loop a) :: k) r h Q := hw.step fun _ => rfl
theorem wp_inLoop {a : ACode} (hw : Wp T (.code a :: .inLoop a :: k) r h Q) : Wp T (.inLoop a :: k) r h Q := hw.step fun _ => rfl
theorem wp_inBlock {id : Nat} (hw : Wp T k r h Q) : Wp T (.inBlock id :: k) r h Q := hw.step fun _ => rfl
theorem wp_exitA {id : Nat} {k' : List Item} (hk : exitA id k = some k') (hw : Wp T k' r h Q) : Wp T (.code (.exit id) :: k) r h Q := by
  refine hw.step fun n => ?_
  rw [exec, hk]
theorem wp_scopeA {a : ACode} (hw : Wp T (.code a :: k) r h Q) : Wp T (.code (.scope a) :: k) r h Q := hw.step fun _ => rfl
theorem wp_retA (hq : Q r h) : Wp T (.code .ret :: k) r h Q := ⟨1, r, h, rfl, hq⟩
theorem wp_ops_nil (hw : Wp T k r h Q) : Wp T (.ops [] :: k) r h Q := hw.step fun _ => rfl
theorem wp_dops_nil {b i : Nat} {rd : List (Nat × AOp × Env × AV)} {ef : List (Nat × H)} (hw : Wp T k r h Q) : Wp T (.dops b i [] rd ef :: k) r h Q := hw.step fun _ => rfl

/-- what one operation does, with some fuel -/
theorem Ow.some {o : AOper} {nid : Nat} {K : AV → H → Prop} (ho : Ow T o r h nid K) : ∃ n v h', K v h' ∧ ∀ m, n ≤ m → stepR T (fun F args => exec T m [.code F.body] (envOf args) h) r h nid o = some (v, h') := by
  unfold Ow at ho
  unfold stepR
  split at ho
  · rename_i hw
    simp only [hw, if_true]
    split at ho
    · rename_i hic
      simp only [hic, if_true]
      obtain ⟨f, args, hco, hc⟩ := ho
      simp only [hco]
      obtain ⟨hc⟩ := hc
      unfold CwD at hc
      cases hx : T.ext f args with
      | some vs => rw [hx] at hc; exact ⟨0, _, _, hc, fun _ _ => rfl⟩
      | none =>
        rw [hx] at hc
        obtain ⟨F, hF, n, r1, h1, he, vs, hres, hK⟩ := hc
        refine ⟨n, _, _, hK, fun m hm => ?_⟩
        simp only [hF, exec_le he hm, hres]
    · rename_i hic
      simp only [hic, if_false, Bool.false_eq_true]
      obtain ⟨v, h', he, hK⟩ := ho
      exact ⟨0, v, h', hK, fun _ _ => he⟩
  · rename_i hw
    simp only [hw, if_false, Bool.false_eq_true]
    exact ⟨0, _, _, ho, fun _ _ => rfl⟩

theorem wp_ops {o : AOper} {l : List AOper} (ho : Ow T o r h h.next fun v h' => Wp T (.ops l :: k) (r.set o.dst v) h' Q) : Wp T (.ops (o :: l) :: k) r h Q := by
  obtain ⟨n, v, h', ⟨n2, r2, h2, he2, hQ⟩, hs⟩ := ho.some
  refine ⟨max n n2 + 1, r2, h2, ?_, hQ⟩
  rw [exec, hs _ (Nat.le_max_left _ _)]
  exact exec_le he2 (Nat.le_max_right _ _)

theorem wp_dops {b i : Nat} {o : AOper} {conf : List Nat} {l : List (AOper × List Nat)} {rd : List (Nat × AOp × Env × AV)} {ef : List (Nat × H)}
    (ho : Ow T o r h (b + i) fun v h' =>
      if o.op.effect = true then undisturbed T.te conf h' rd = true ∧ Wp T (.dops b (i + 1) l rd ((i, h) :: ef) :: k) (r.set o.dst v) h' Q
      else if (o.op.reads && wantedA r o.guard) = true then unmoved T.te conf r o.op v ef = true ∧ Wp T (.dops b (i + 1) l ((i, o.op, r, v) :: rd) ef :: k) (r.set o.dst v) h' Q
      else Wp T (.dops b (i + 1) l rd ef :: k) (r.set o.dst v) h' Q) : Wp T (.dops b i ((o, conf) :: l) rd ef :: k) r h Q := by
  obtain ⟨n, v, h', hK, hs⟩ := ho.some
  have fin : ∀ {items : List Item}, Wp T items (r.set o.dst v) h' Q → ∃ n2 r2 h2, n ≤ n2 ∧ exec T n2 items (r.set o.dst v) h' = some (r2, h2) ∧ Q r2 h2 := by
    rintro items ⟨n2, r2, h2, he2, hQ⟩
    exact ⟨max n n2, r2, h2, Nat.le_max_left _ _, exec_le he2 (Nat.le_max_right _ _), hQ⟩
  split at hK
  · rename_i h1
    obtain ⟨n2, r2, h2, hn, he2, hQ⟩ := fin hK.2
    refine ⟨n2 + 1, r2, h2, ?_, hQ⟩
    rw [exec, hs _ hn]
    simp only [h1, hK.1, if_true]
    exact he2
  · rename_i h1
    split at hK
    · rename_i h3
      obtain ⟨n2, r2, h2, hn, he2, hQ⟩ := fin hK.2
      refine ⟨n2 + 1, r2, h2, ?_, hQ⟩
      rw [exec, hs _ hn]
      simp only [h1, h3, hK.1, if_true, Bool.false_eq_true, if_false]
      exact he2
    · rename_i h3
      obtain ⟨n2, r2, h2, hn, he2, hQ⟩ := fin hK
      refine ⟨n2 + 1, r2, h2, ?_, hQ⟩
      rw [exec, hs _ hn]
      simp only [h1, h3, Bool.false_eq_true, if_false]
      exact he2
end rules
end Go.Dam

namespace Go.Dam

section rules
variable {T : Tbl} {k : List Item} {r : Env} {h : H} {Q : Env → H → Prop}
theorem Wp.iff {items items' : List Item} {r' : Env} {h' : H} (hs : ∀ n, exec T (n + 1) items r h = exec T n items' r' h') : Wp T items r h Q ↔ Wp T items' r' h' Q := by
  refine ⟨fun hw => ?_, Wp.step hs⟩
  obtain ⟨n, r1, h1, he, hq⟩ := hw
  cases n with
  | zero => simp [exec] at he
  | succ n => exact ⟨n, r1, h1, by rw [← hs]; exact he, hq⟩
theorem e_nil : Wp T [] r h Q ↔ Q r h := by
  refine ⟨fun hw => ?_, wp_nil⟩
  obtain ⟨n, r1, h1, he, hq⟩ := hw
  cases n with
  | zero => simp [exec] at he
  | succ n =>
    simp only [exec, Option.some.injEq, Prod.mk.injEq] at he
    rw [he.1, he.2]
    exact hq
theorem e_ret : Wp T (.code .ret :: k) r h Q ↔ Q r h := by
  refine ⟨fun hw => ?_, wp_retA⟩
  obtain ⟨n, r1, h1, he, hq⟩ := hw
  cases n with
  | zero => simp [exec] at he
  | succ n =>
    simp only [exec, Option.some.injEq, Prod.mk.injEq] at he
    rw [he.1, he.2]
    exact hq
theorem e_skip : Wp T (.code .skip :: k) r h Q ↔ Wp T k r h Q := Wp.iff fun _ => rfl
theorem e_reg {ops : List AOper} : Wp T (.code (.reg ops) :: k) r h Q ↔ Wp T (.ops ops :: k) r h Q := Wp.iff fun _ => rfl
theorem e_draw {ops : List (AOper × List Nat)} : Wp T (.code (.draw ops) :: k) r h Q ↔ Wp T (.dops h.next 0 ops [] [] :: k) r (h.bump ops.length) Q := Wp.iff fun _ => rfl
theorem e_seq {a b : ACode} : Wp T (.code (.seq a b) :: k) r h Q ↔ Wp T (.code a :: .code b :: k) r h Q := Wp.iff fun _ => rfl
theorem e_block {id : Nat} {a : ACode} : Wp T (.code (.block id a) :: k) r h Q ↔ Wp T (.code a :: .inBlock id :: k) r h Q := Wp.iff fun _ => rfl
theorem e_inBlock {id : Nat} : Wp T (.inBlock id :: k) r h Q ↔ Wp T k r h Q := Wp.iff fun _ => rfl
theorem e_scope {a : ACode} : Wp T (.code (.scope a) :: k) r h Q ↔ Wp T (.code a :: k) r h Q := Wp.iff fun _ => rfl
theorem e_ops_nil : Wp T (.ops [] :: k) r h Q ↔ Wp T k r h Q := Wp.iff fun _ => rfl
theorem e_dops_nil {b i : Nat} {rd : List (Nat × AOp × Env × AV)} {ef : List (Nat × H)} : Wp T (.dops b i [] rd ef :: k) r h Q ↔ Wp T k r h Q := Wp.iff fun _ => rfl
theorem e_exit {id : Nat} : Wp T (.code (.exit id) :: k) r h Q ↔ ∃ k', exitA id k = some k' ∧ Wp T k' r h Q := by
  constructor
  · rintro ⟨n, r1, h1, he, hq⟩
    cases n with
    | zero => simp [exec] at he
    | succ n =>
      simp only [exec] at he
      split at he <;> try (cases he; done)
      rename_i k' hk
      exact ⟨k', hk, n, r1, h1, he, hq⟩
  · rintro ⟨k', hk, hw⟩
    exact wp_exitA hk hw
theorem e_cond {c : Opnd} {a b : ACode} : Wp T (.code (.cond c a b) :: k) r h Q ↔ ∃ t, c.ev r = .bool t ∧ (t = true → Wp T (.code a :: k) r h Q) ∧ (t = false → Wp T (.code b :: k) r h Q) := by
  constructor
  · rintro ⟨n, r1, h1, he, hq⟩
    cases n with
    | zero => simp [exec] at he
    | succ n =>
      simp only [exec] at he
      split at he <;> try (cases he; done)
      rename_i t ht
      refine ⟨t, ht, fun h1 => ?_, fun h1 => ?_⟩
      · subst h1
        exact ⟨n, r1, _, he, hq⟩
      · subst h1
        exact ⟨n, r1, _, he, hq⟩
  · rintro ⟨t, ht, hw, hw2⟩
    refine wp_condA ht ?_
    cases t
    · exact hw2 rfl
    · exact hw rfl
end rules

theorem opnd_t {r : Env} {i : Nat} : (Opnd.t i).ev r = r i := rfl
theorem opnd_c {r : Env} {v : AV} : (Opnd.c v).ev r = v := rfl
theorem set_at {r : Env} {i j : Nat} {v : AV} : (r.set (some i) v) j = if j = i then v else r j := rfl
theorem set_none {r : Env} {v : AV} : r.set none v = r := rfl
theorem envOf_at {args : List AV} {i : Nat} : envOf args i = (args[i]?).getD undefA := rfl

theorem ow_call {T : Tbl} {d : Option Nat} {f : FuncId} {as : List Opnd} {r : Env} {h : H} {nid : Nat} {K : AV → H → Prop} : Ow T ⟨d, .call f as, none⟩ r h nid K ↔ Cw T f (as.map (Opnd.ev r)) h K := by
  simp only [Ow, wantedA, AOp.isCall, if_true, callOf, Option.some.injEq, Prod.mk.injEq]
  constructor
  · rintro ⟨_, _, ⟨rfl, rfl⟩, h⟩; exact h
  · exact fun h => ⟨_, _, ⟨rfl, rfl⟩, h⟩
theorem ow_pure {T : Tbl} {d : Option Nat} {op : AOp} {r : Env} {h : H} {nid : Nat} {K : AV → H → Prop} (hc : op.isCall = false) : Ow T ⟨d, op, none⟩ r h nid K ↔ ∃ x, evOp T.te r h nid op = some x ∧ K x.1 x.2 := by
  simp only [Ow, wantedA, hc, if_true, Bool.false_eq_true, if_false, Prod.exists]

theorem wp_ops_pure {T : Tbl} {d : Option Nat} {op : AOp} {l : List AOper} {k : List Item} {r : Env} {h : H} {Q : Env → H → Prop} (hc : op.isCall = false) {v : AV} {h' : H} (he : evOp T.te r h h.next op = some (v, h')) (hw : Wp T (.ops l :: k) (r.set d v) h' Q) : Wp T (.ops (⟨d, op, none⟩ :: l) :: k) r h Q :=
  wp_ops ((ow_pure hc).2 ⟨(v, h'), he, hw⟩)
/-- under a guard -/
theorem wp_ops_guard {T : Tbl} {d : Option Nat} {op : AOp} {g : Nat} {b t : Bool} {l : List AOper} {k : List Item} {r : Env} {h : H} {Q : Env → H → Prop} (hg : r g = .bool t) (h1 : t = b → Wp T (.ops (⟨d, op, none⟩ :: l) :: k) r h Q) (h2 : t ≠ b → Wp T (.ops l :: k) (r.set d undefA) h Q) : Wp T (.ops (⟨d, op, some (some g, b)⟩ :: l) :: k) r h Q := by
  by_cases htb : t = b
  · obtain ⟨n, r1, h3, he, hq⟩ := h1 htb
    refine ⟨n, r1, h3, ?_, hq⟩
    cases n with
    | zero => simp [exec] at he
    | succ n =>
      rw [exec] at he ⊢
      rw [← he]
      simp [stepR, wantedA, hg, htb]
  · refine wp_ops ?_
    have : wantedA r (some (some g, b)) = false := by simp [wantedA, hg, htb]
    simp only [Ow, this, Bool.false_eq_true, if_false]
    exact h2 htb
end Go.Dam

namespace Go.Dam

def optW {α : Type} (o : Option α) (K : α → Prop) : Prop := match o with
  | some v => K v
  | none => False
theorem optW_of {α : Type} {o : Option α} {v : α} {K : α → Prop} (h : o = some v) (hk : K v) : optW o K := by rw [h]; exact hk
theorem optW_some {α : Type} {o : Option α} {K : α → Prop} (h : optW o K) : ∃ v, o = some v ∧ K v := by
  cases o with
  | none => exact h.elim
  | some v => exact ⟨v, rfl, h⟩

def optP (o : Option (AV × H)) (K : AV → H → Prop) : Prop := match o with
  | some (v, h) => K v h
  | none => False
theorem optP_of {o : Option (AV × H)} {v : AV} {h : H} {K : AV → H → Prop} (he : o = some (v, h)) (hk : K v h) : optP o K := by rw [he]; exact hk
theorem optP_some {o : Option (AV × H)} {K : AV → H → Prop} (h : optP o K) : ∃ x, o = some x ∧ K x.1 x.2 := by
  cases o with
  | none => exact h.elim
  | some v => exact ⟨v, rfl, h⟩

/-- a value worked out to its constructor -/
def forceA (v : AV) (K : AV → Prop) : Prop := match v with
  | .bool b => K (.bool b)
  | .int k n => K (.int k n)
  | .str s => K (.str s)
  | .ptr b p t => K (.ptr b p t)
  | .nilp => K .nilp
  | .slice b p o l e => K (.slice b p o l e)
  | .nils => K .nils
  | .map b => K (.map b)
  | .nilm => K .nilm
  | .fn f a c => K (.fn f a c)
  | .nilf => K .nilf
  | .agg t xs => K (.agg t xs)
  | .tup xs => K (.tup xs)
theorem forceA_eq (v : AV) (K : AV → Prop) : forceA v K = K v := by cases v <;> rfl
def forceL (r : Env) : List Opnd → (List AV → Prop) → Prop
  | [], K => K []
  | x :: l, K => forceA (x.ev r) fun v => forceL r l fun vs => K (v :: vs)
theorem forceL_eq (r : Env) : ∀ (l : List Opnd) (K : List AV → Prop), forceL r l K = K (l.map (Opnd.ev r))
  | [], _ => rfl
  | x :: l, K => by simp only [forceL, forceA_eq, forceL_eq r l, List.map_cons]
def forceP (r : Env) : List (Nat × Opnd) → (List (Nat × AV) → Prop) → Prop
  | [], K => K []
  | (i, x) :: l, K => forceA (x.ev r) fun v => forceP r l fun vs => K ((i, v) :: vs)
theorem forceP_eq (r : Env) : ∀ (l : List (Nat × Opnd)) (K : List (Nat × AV) → Prop), forceP r l K = K (l.map fun (i, x) => (i, x.ev r))
  | [], _ => rfl
  | (i, x) :: l, K => by simp only [forceP, forceA_eq, forceP_eq r l, List.map_cons]

/-- this or that -/
def sel (t : Bool) (A B : Prop) : Prop := Bool.rec (motive := fun _ => Prop) B A t
theorem sel_intro {t : Bool} {A B : Prop} (h1 : t = true → A) (h2 : t = false → B) : Bool.rec (motive := fun _ => Prop) B A t := by
  cases t
  · exact h2 rfl
  · exact h1 rfl
theorem sel_of {t : Bool} {A B : Prop} (h : sel t A B) : (t = true ∧ A) ∨ (t = false ∧ B) := by
  cases t
  · exact .inr ⟨rfl, h⟩
  · exact .inl ⟨rfl, h⟩

/-- a heap with one block put in -/
structure Upd (h : H) (b : Nat) (x : Blk) (h' : H) : Prop where
  get : ∀ y, h'.get y = if y = b then some x else h.get y
  next : h'.next = h.next
/-- a heap with one block that is new -/
structure New (h : H) (b : Nat) (x : Blk) (h' : H) : Prop where
  get : ∀ y, h'.get y = if y = b then some x else h.get y
  next : h'.next = if b = h.next then h.next + 1 else h.next
theorem Upd.of {h : H} {b : Nat} {x : Blk} : Upd h b x (h.put b x) := ⟨fun y => H.get_put h b y x, rfl⟩
theorem New.of {h : H} {b : Nat} {x : Blk} : New h b x (h.newAt b x) := ⟨fun y => H.get_newAt h b y x, rfl⟩
def newW (h : H) (nid : Nat) (x : Blk) (K : H → Prop) : Prop := ∀ h', New h nid x h' → K h'

def readW (h : H) (b : Nat) (p : List Nat) (K : AV → Prop) : Prop := ∃ k e xs, h.get b = some (.row k e xs) ∧ optW (at? p (.agg e xs)) K
theorem readW_of {h : H} {b : Nat} {p : List Nat} {K : AV → Prop} (hw : readW h b p K) : ∃ v, h.read b p = some v ∧ K v := by
  obtain ⟨k, e, xs, hb, ho⟩ := hw
  obtain ⟨v, h1, h2⟩ := optW_some ho
  exact ⟨v, by unfold H.read; rw [hb]; exact h1, h2⟩
def writeW (h : H) (b : Nat) (p : List Nat) (v : AV) (K : H → Prop) : Prop := ∃ k e xs, h.get b = some (.row k e xs) ∧ k ≠ .ro ∧ optW (put? p (.agg e xs) v) fun y => match y with
  | .agg _ ys => ∀ h', Upd h b (.row k e ys) h' → K h'
  | _ => False
theorem writeW_of {h : H} {b : Nat} {p : List Nat} {v : AV} {K : H → Prop} (hw : writeW h b p v K) : ∃ h', h.write b p v = some h' ∧ K h' := by
  obtain ⟨k, e, xs, hb, hk, ho⟩ := hw
  obtain ⟨y, h1, h2⟩ := optW_some ho
  cases y <;> try (exact h2.elim)
  exact ⟨_, by unfold H.write; rw [hb]; simp only [hk, if_false, h1], h2 _ Upd.of⟩

def boundW (r : Env) (o : Option Opnd) (d : Nat) (K : Nat → Prop) : Prop := match o with
  | none => K d
  | some x => match x.ev r with
    | .int _ n => 0 ≤ n ∧ K n.toNat
    | _ => False
theorem boundW_of {r : Env} {o : Option Opnd} {d : Nat} {K : Nat → Prop} (hw : boundW r o d K) : ∃ n, bound r o d = some n ∧ K n := by
  cases o with
  | none => exact ⟨d, rfl, hw⟩
  | some x =>
    simp only [boundW] at hw
    split at hw <;> try (exact hw.elim)
    rename_i k n hx
    exact ⟨n.toNat, by simp only [bound, hx, hw.1, if_true], hw.2⟩

/-- one operation, without its guard -/
def opW (T : Tbl) (op : AOp) (r : Env) (h : H) (nid : Nat) (K : AV → H → Prop) : Prop := match op with
  | .call f as => forceL r as fun xs => Cw T f xs h K
  | .callv x as => match x.ev r with
    | .fn f a c => forceL r as fun xs => Cw T f (a ++ xs ++ c) h K
    | _ => False
  | .pick c a b => match c.ev r with
    | .bool t => sel t (K (a.ev r) h) (K (b.ev r) h)
    | _ => False
  | .load t x => match x.ev r with
    | .ptr b p t' => t' = t ∧ readW h b p fun v => K v h
    | _ => False
  | .store t k a x => match a.ev r with
    | .ptr b p t' => (t' = t ∧ k.ok (x.ev r) = true) ∧ forceA (x.ev r) fun v => writeW h b p v fun h' => K undefA h'
    | _ => False
  | .alloc e => forceA (zeroOf T.te zeroFuel e) fun z => newW h nid (.row .fixed e [z]) (K (.ptr nid [0] e))
  | .box e k x => k.ok (x.ev r) = true ∧ forceA (x.ev r) fun v => newW h nid (.row .fixed e [v]) (K (.ptr nid [0] e))
  | .build t ps => forceP r ps fun ys => match zeroOf T.te zeroFuel t with
    | .agg t' zs => optW (fillA zs ys) fun y => K (.agg t' y) h
    | _ => False
  | .idxA n a e x i => match x.ev r, i.ev r with
    | .ptr b p a', .int _ j => (a' = a ∧ 0 ≤ j ∧ j < (n : Int)) ∧ K (.ptr b (j.toNat :: p) e) h
    | _, _ => False
  | .idxS e x i => match x.ev r, i.ev r with
    | .slice b p off len e', .int _ j => (e' = e ∧ 0 ≤ j ∧ j < (len : Int)) ∧ K (.ptr b ((off + j.toNat) :: p) e) h
    | _, _ => False
  | .idxV n a x i => match x.ev r, i.ev r with
    | .agg a' xs, .int _ j => (a' = a ∧ 0 ≤ j ∧ j < (n : Int)) ∧ optW (xs[j.toNat]?) fun v => K v h
    | _, _ => False
  | .idxT x i => match x.ev r, i.ev r with
    | .str s, .int _ j => 0 ≤ j ∧ optW (s[j.toNat]?) fun b => K (.int .u8 b.toNat) h
    | _, _ => False
  | .sliceA n t e x lo hi => match x.ev r with
    | .ptr b p t' => boundW r lo 0 fun l => boundW r hi n fun u => (t' = t ∧ l ≤ u ∧ u ≤ n) ∧ K (.slice b p l (u - l) e) h
    | _ => False
  | .sliceS e x lo hi => match x.ev r with
    | .nils => boundW r lo 0 fun l => boundW r hi 0 fun u => (l = 0 ∧ u = 0) ∧ K .nils h
    | .slice b p off len e' => boundW r lo 0 fun l => boundW r hi len fun u => (e' = e ∧ l ≤ u ∧ u ≤ len) ∧ K (.slice b p (off + l) (u - l) e) h
    | _ => False
  | .sliceT x lo hi => match x.ev r with
    | .str s => boundW r lo 0 fun l => boundW r hi s.size fun u => (l ≤ u ∧ u ≤ s.size) ∧ K (.str (s.extract l u)) h
    | _ => False
  | .mkSlice e lim l c => match l.ev r, c.ev r with
    | .int _ a, .int _ b => (0 ≤ a ∧ a ≤ b ∧ b ≤ (lim : Int)) ∧ newW h nid (.row .fixed e (List.replicate b.toNat (zeroOf T.te zeroFuel e))) (K (.slice nid [] 0 a.toNat e))
    | _, _ => False
  | .bin .quo x y => match x.ev r, y.ev r with
    | .int k a, .int k' b => (k = k' ∧ b ≠ 0) ∧ K (.int k (k.wrap (a.tdiv b))) h
    | _, _ => False
  | .bin .rem x y => match x.ev r, y.ev r with
    | .int k a, .int k' b => (k = k' ∧ b ≠ 0) ∧ K (.int k (a.tmod b)) h
    | _, _ => False
  | .bin .shl x y => match x.ev r, y.ev r with
    | .int k a, .int _ b => ¬ b < 0 ∧ K (.int k (k.wrap (a * 2 ^ (min b.toNat k.bits)))) h
    | _, _ => False
  | .bin .shr x y => match x.ev r, y.ev r with
    | .int k a, .int _ b => ¬ b < 0 ∧ K (.int k (a.fdiv (2 ^ (min b.toNat k.bits)))) h
    | _, _ => False
  | op => optP (evOp T.te r h nid op) K

theorem opW_of {T : Tbl} {op : AOp} {r : Env} {h : H} {nid : Nat} {K : AV → H → Prop} {d : Option Nat} (hw : opW T op r h nid K) : Ow T ⟨d, op, none⟩ r h nid K := by
  have pure : op.isCall = false → (∃ x, evOp T.te r h nid op = some x ∧ K x.1 x.2) → Ow T ⟨d, op, none⟩ r h nid K := fun hc hx => (ow_pure hc).2 hx
  cases op <;> simp only [opW] at hw
  case call f as => rw [forceL_eq] at hw; exact ow_call.2 hw
  case callv x as =>
    split at hw <;> try (exact hw.elim)
    rename_i f a c hx
    rw [forceL_eq] at hw
    simp only [Ow, wantedA, AOp.isCall, if_true, callOf, hx]
    exact ⟨_, _, rfl, hw⟩
  case pick c a b =>
    refine pure rfl ?_
    split at hw <;> try (exact hw.elim)
    rename_i t ht
    simp only [evOp, ht]
    rcases sel_of hw with ⟨rfl, h1⟩ | ⟨rfl, h1⟩
    · exact ⟨_, rfl, h1⟩
    · exact ⟨_, rfl, h1⟩
  case load t x =>
    refine pure rfl ?_
    split at hw <;> try (exact hw.elim)
    rename_i b p t' ht
    obtain ⟨v, h1, h2⟩ := readW_of hw.2
    simp only [evOp, ht, hw.1, if_true, h1]
    exact ⟨_, rfl, h2⟩
  case store t k a x =>
    refine pure rfl ?_
    split at hw <;> try (exact hw.elim)
    rename_i b p t' ht
    rw [forceA_eq] at hw
    obtain ⟨v, h1, h2⟩ := writeW_of hw.2
    simp only [evOp, ht, hw.1, and_self, if_true, h1]
    exact ⟨_, rfl, h2⟩
  case alloc e =>
    refine pure rfl ?_
    rw [forceA_eq] at hw
    exact ⟨_, rfl, hw _ New.of⟩
  case box e k x =>
    refine pure rfl ?_
    rw [forceA_eq] at hw
    simp only [evOp, hw.1, if_true]
    exact ⟨_, rfl, hw.2 _ New.of⟩
  case build t ps =>
    refine pure rfl ?_
    rw [forceP_eq] at hw
    split at hw <;> try (exact hw.elim)
    rename_i t' zs ht
    obtain ⟨v, h1, h2⟩ := optW_some hw
    simp only [evOp, ht, h1]
    exact ⟨_, rfl, h2⟩
  case idxA n a e x i =>
    refine pure rfl ?_
    split at hw <;> try (exact hw.elim)
    rename_i b p a' k j hx hi
    simp only [evOp, hx, hi, hw.1, and_self, if_true]
    exact ⟨_, rfl, hw.2⟩
  case idxS e x i =>
    refine pure rfl ?_
    split at hw <;> try (exact hw.elim)
    rename_i b p off len e' k j hx hi
    simp only [evOp, hx, hi, hw.1, and_self, if_true]
    exact ⟨_, rfl, hw.2⟩
  case idxV n a x i =>
    refine pure rfl ?_
    split at hw <;> try (exact hw.elim)
    rename_i a' xs k j hx hi
    obtain ⟨v, h1, h2⟩ := optW_some hw.2
    simp only [evOp, hx, hi, hw.1, and_self, if_true, h1]
    exact ⟨_, rfl, h2⟩
  case idxT x i =>
    refine pure rfl ?_
    split at hw <;> try (exact hw.elim)
    rename_i s k j hx hi
    obtain ⟨v, h1, h2⟩ := optW_some hw.2
    simp only [evOp, hx, hi, hw.1, if_true, h1]
    exact ⟨_, rfl, h2⟩
  case sliceA n t e x lo hi =>
    refine pure rfl ?_
    split at hw <;> try (exact hw.elim)
    rename_i b p t' hx
    obtain ⟨l, h1, hw⟩ := boundW_of hw
    obtain ⟨u, h2, hw⟩ := boundW_of hw
    simp only [evOp, hx, h1, h2, hw.1, and_self, if_true]
    exact ⟨_, rfl, hw.2⟩
  case sliceS e x lo hi =>
    refine pure rfl ?_
    split at hw <;> try (exact hw.elim)
    · rename_i hx
      obtain ⟨l, h1, hw1⟩ := boundW_of hw
      obtain ⟨u, h2, hw2⟩ := boundW_of hw1
      obtain ⟨⟨rfl, rfl⟩, hw3⟩ := hw2
      simp only [evOp, hx, h1, h2]
      exact ⟨_, rfl, hw3⟩
    · rename_i b p off len e' hx
      obtain ⟨l, h1, hw⟩ := boundW_of hw
      obtain ⟨u, h2, hw⟩ := boundW_of hw
      simp only [evOp, hx, h1, h2, hw.1, and_self, if_true]
      exact ⟨_, rfl, hw.2⟩
  case sliceT x lo hi =>
    refine pure rfl ?_
    split at hw <;> try (exact hw.elim)
    rename_i s hx
    obtain ⟨l, h1, hw⟩ := boundW_of hw
    obtain ⟨u, h2, hw⟩ := boundW_of hw
    simp only [evOp, hx, h1, h2, hw.1, and_self, if_true]
    exact ⟨_, rfl, hw.2⟩
  case mkSlice e lim l c =>
    refine pure rfl ?_
    split at hw <;> try (exact hw.elim)
    rename_i k1 a k2 b hx hi
    simp only [evOp, hx, hi, hw.1, and_self, if_true]
    exact ⟨_, rfl, hw.2 _ New.of⟩
  case bin op x y =>
    refine pure rfl ?_
    cases op
    case quo =>
      simp only at hw
      split at hw <;> try (exact hw.elim)
      rename_i k a k' b hx hi
      obtain ⟨⟨rfl, hb⟩, hw⟩ := hw
      simp only [evOp, hx, hi, binV, binI, hb, if_true, if_false, Option.map_some]
      exact ⟨_, rfl, hw⟩
    case rem =>
      simp only at hw
      split at hw <;> try (exact hw.elim)
      rename_i k a k' b hx hi
      obtain ⟨⟨rfl, hb⟩, hw⟩ := hw
      simp only [evOp, hx, hi, binV, binI, hb, if_true, if_false, Option.map_some]
      exact ⟨_, rfl, hw⟩
    case shl =>
      simp only at hw
      split at hw <;> try (exact hw.elim)
      rename_i k a k' b hx hi
      simp only [evOp, hx, hi, binV, shI, hw.1, if_false, Option.map_some]
      exact ⟨_, rfl, hw.2⟩
    case shr =>
      simp only at hw
      split at hw <;> try (exact hw.elim)
      rename_i k a k' b hx hi
      simp only [evOp, hx, hi, binV, shI, hw.1, if_false, Option.map_some]
      exact ⟨_, rfl, hw.2⟩
    all_goals exact optP_some hw
  all_goals exact pure rfl (optP_some hw)

/-- a slot's truth, found out -/
def know (c : Opnd) (y : Bool) (r : Env) : Env := match c with
  | .t i => r.set (some i) (.bool y)
  | .c _ => r
theorem know_eq {c : Opnd} {y : Bool} {r : Env} (h : c.ev r = .bool y) : know c y r = r := by
  cases c with
  | c v => rfl
  | t i =>
    funext j
    simp only [know, set_at]
    split
    · rename_i hj; subst hj; exact h.symm
    · rfl

theorem Ow.mono {T : Tbl} {o : AOper} {r : Env} {h : H} {nid : Nat} {K K' : AV → H → Prop} (ho : Ow T o r h nid K) (hk : ∀ v h, K v h → K' v h) : Ow T o r h nid K' := by
  unfold Ow at ho ⊢
  split
  · rename_i hw
    rw [if_pos hw] at ho
    split
    · rename_i hc
      rw [if_pos hc] at ho
      obtain ⟨f, args, h1, h2⟩ := ho
      exact ⟨f, args, h1, h2.mono hk⟩
    · rename_i hc
      rw [if_neg hc] at ho
      obtain ⟨v, h', h1, h2⟩ := ho
      exact ⟨v, h', h1, hk _ _ h2⟩
  · rename_i hw
    rw [if_neg hw] at ho
    exact hk _ _ ho

/-- a read reads so in this heap -/
def okR (te : TypeId → ATy) (r : Env) (op : AOp) (v : AV) (h : H) : Prop := match op with
  | .load t x => match x.ev r with
    | .ptr b p t' => t' = t ∧ readW h b p fun v' => v' = v
    | _ => False
  | op => optP (evOp te r h 0 op) fun v' _ => v' = v
mutual
theorem beq_self : ∀ v : AV, AV.beq v v = true
  | .bool b => by simp [AV.beq]
  | .int k n => by simp [AV.beq]
  | .str s => by simp [AV.beq]
  | .ptr b p t => by simp [AV.beq]
  | .nilp => rfl
  | .slice b p o l e => by simp [AV.beq]
  | .nils => rfl
  | .map b => by simp [AV.beq]
  | .nilm => rfl
  | .fn f a c => by simp [AV.beq, beqs_self a, beqs_self c]
  | .nilf => rfl
  | .agg t xs => by simp [AV.beq, beqs_self xs]
  | .tup xs => by simp [AV.beq, beqs_self xs]
theorem beqs_self : ∀ l : List AV, AV.beqs l l = true
  | [] => rfl
  | x :: l => by simp [AV.beqs, beq_self x, beqs_self l]
end
theorem okR_of {te : TypeId → ATy} {r : Env} {op : AOp} {v : AV} {h : H} (hk : okR te r op v h) : (match evOp te r h 0 op with | some (v', _) => AV.beq v' v | none => false) = true := by
  unfold okR at hk
  split at hk
  · split at hk <;> try (exact hk.elim)
    rename_i b p t' ht
    obtain ⟨v', h1, rfl⟩ := readW_of hk.2
    simp only [evOp, ht, hk.1, if_true, h1, Option.map_some, beq_self]
  · obtain ⟨⟨v', h'⟩, h1, h2⟩ := optP_some hk
    simp only at h2
    subst h2
    simp only [h1, beq_self]
/-- the earlier reads that an effect might disturb -/
def disW (te : TypeId → ATy) (conf : List Nat) (h : H) (K : Prop) : List (Nat × AOp × Env × AV) → Prop
  | [] => K
  | (i, op, r, v) :: l => bif conf.contains i then okR te r op v h ∧ disW te conf h K l else disW te conf h K l
theorem disW_of {te : TypeId → ATy} {conf : List Nat} {h : H} {K : Prop} : ∀ {l : List (Nat × AOp × Env × AV)}, disW te conf h K l → undisturbed te conf h l = true ∧ K
  | [], hk => ⟨rfl, hk⟩
  | (i, op, r, v) :: l, hk => by
    simp only [disW] at hk
    cases hc : conf.contains i with
    | false =>
      rw [hc] at hk
      obtain ⟨h1, h2⟩ := disW_of hk
      refine ⟨?_, h2⟩
      unfold undisturbed at h1 ⊢
      simp only [List.all_cons, hc, Bool.not_false, Bool.true_or, Bool.true_and]
      exact h1
    | true =>
      rw [hc] at hk
      obtain ⟨h1, h2⟩ := disW_of hk.2
      refine ⟨?_, h2⟩
      unfold undisturbed at h1 ⊢
      simp only [List.all_cons, hc, Bool.not_true, Bool.false_or, Bool.and_eq_true]
      exact ⟨okR_of hk.1, h1⟩
/-- the earlier effects behind which a read reads -/
def unmW (te : TypeId → ATy) (conf : List Nat) (r : Env) (op : AOp) (v : AV) (K : Prop) : List (Nat × H) → Prop
  | [] => K
  | (i, h0) :: l => bif conf.contains i then okR te r op v h0 ∧ unmW te conf r op v K l else unmW te conf r op v K l
theorem unmW_of {te : TypeId → ATy} {conf : List Nat} {r : Env} {op : AOp} {v : AV} {K : Prop} : ∀ {l : List (Nat × H)}, unmW te conf r op v K l → unmoved te conf r op v l = true ∧ K
  | [], hk => ⟨rfl, hk⟩
  | (i, h0) :: l, hk => by
    simp only [unmW] at hk
    cases hc : conf.contains i with
    | false =>
      rw [hc] at hk
      obtain ⟨h1, h2⟩ := unmW_of hk
      refine ⟨?_, h2⟩
      unfold unmoved at h1 ⊢
      simp only [List.all_cons, hc, Bool.not_false, Bool.true_or, Bool.true_and]
      exact h1
    | true =>
      rw [hc] at hk
      obtain ⟨h1, h2⟩ := unmW_of hk.2
      refine ⟨?_, h2⟩
      unfold unmoved at h1 ⊢
      simp only [List.all_cons, hc, Bool.not_true, Bool.false_or, Bool.and_eq_true]
      exact ⟨okR_of hk.1, h1⟩

/-- an operation of a drawn region that isn't wanted -/
def offX (op : AOp) (conf : List Nat) (te : TypeId → ATy) (h : H) (rd : List (Nat × AOp × Env × AV)) (K : List (Nat × H) → Prop) (i : Nat) (ef : List (Nat × H)) : Prop :=
  if op.effect = true then disW te conf h (K ((i, h) :: ef)) rd else K ef

/-- what must hold, up to loops and calls: one step -/
def pxStep (T : Tbl) (ih : List Item → Env → H → (Env → H → Prop) → Prop) : List Item → Env → H → (Env → H → Prop) → Prop
  | [], r, h, Q => Q r h
  | .code .skip :: k, r, h, Q => ih k r h Q
  | .code (.reg ops) :: k, r, h, Q => ih (.ops ops :: k) r h Q
  | .code (.draw ops) :: k, r, h, Q => ih (.dops h.next 0 ops [] [] :: k) r (h.bump ops.length) Q
  | .code (.seq a b) :: k, r, h, Q => ih (.code a :: .code b :: k) r h Q
  | .code (.cond c a b) :: k, r, h, Q => match c.ev r with
    | .bool t => sel t (ih (.code a :: k) (know c true r) h Q) (ih (.code b :: k) (know c false r) h Q)
    | _ => False
  | .code (.block id a) :: k, r, h, Q => ih (.code a :: .inBlock id :: k) r h Q
  | .code (.loop a) :: k, r, h, Q => Wp T (.code (.loop a) :: k) r h Q
  | .code (.exit id) :: k, r, h, Q => match exitA id k with
    | some k' => ih k' r h Q
    | none => False
  | .code (.scope a) :: k, r, h, Q => ih (.code a :: k) r h Q
  | .code .ret :: _, r, h, Q => Q r h
  | .inBlock _ :: k, r, h, Q => ih k r h Q
  | .inLoop a :: k, r, h, Q => Wp T (.inLoop a :: k) r h Q
  | .ops [] :: k, r, h, Q => ih k r h Q
  | .ops (⟨d, op, none⟩ :: l) :: k, r, h, Q => opW T op r h h.next fun v h' => forceA v fun v => ih (.ops l :: k) (r.set d v) h' Q
  | .ops (⟨d, _, some (none, _)⟩ :: l) :: k, r, h, Q => ih (.ops l :: k) (r.set d undefA) h Q
  | .ops (⟨d, op, some (some g, true)⟩ :: l) :: k, r, h, Q => match r g with
    | .bool t => sel t (ih (.ops (⟨d, op, none⟩ :: l) :: k) (know (.t g) true r) h Q) (ih (.ops l :: k) ((know (.t g) false r).set d undefA) h Q)
    | _ => ih (.ops l :: k) (r.set d undefA) h Q
  | .ops (⟨d, op, some (some g, false)⟩ :: l) :: k, r, h, Q => match r g with
    | .bool t => sel t (ih (.ops l :: k) ((know (.t g) true r).set d undefA) h Q) (ih (.ops (⟨d, op, none⟩ :: l) :: k) (know (.t g) false r) h Q)
    | _ => ih (.ops l :: k) (r.set d undefA) h Q
  | .dops _ _ [] _ _ :: k, r, h, Q => ih k r h Q
  | .dops b i ((⟨d, op, none⟩, conf) :: l) rd ef :: k, r, h, Q => opW T op r h (b + i) fun v h' => forceA v fun v =>
      if op.effect = true then disW T.te conf h' (ih (.dops b (i + 1) l rd ((i, h) :: ef) :: k) (r.set d v) h' Q) rd
      else if op.reads = true then unmW T.te conf r op v (ih (.dops b (i + 1) l ((i, op, r, v) :: rd) ef :: k) (r.set d v) h' Q) ef
      else ih (.dops b (i + 1) l rd ef :: k) (r.set d v) h' Q
  | .dops b i ((⟨d, op, some (none, _)⟩, conf) :: l) rd ef :: k, r, h, Q => offX op conf T.te h rd (fun ef' => ih (.dops b (i + 1) l rd ef' :: k) (r.set d undefA) h Q) i ef
  | .dops b i ((⟨d, op, some (some g, true)⟩, conf) :: l) rd ef :: k, r, h, Q => match r g with
    | .bool t => sel t (ih (.dops b i ((⟨d, op, none⟩, conf) :: l) rd ef :: k) (know (.t g) true r) h Q) (offX op conf T.te h rd (fun ef' => ih (.dops b (i + 1) l rd ef' :: k) ((know (.t g) false r).set d undefA) h Q) i ef)
    | _ => offX op conf T.te h rd (fun ef' => ih (.dops b (i + 1) l rd ef' :: k) (r.set d undefA) h Q) i ef
  | .dops b i ((⟨d, op, some (some g, false)⟩, conf) :: l) rd ef :: k, r, h, Q => match r g with
    | .bool t => sel t (offX op conf T.te h rd (fun ef' => ih (.dops b (i + 1) l rd ef' :: k) ((know (.t g) true r).set d undefA) h Q) i ef) (ih (.dops b i ((⟨d, op, none⟩, conf) :: l) rd ef :: k) (know (.t g) false r) h Q)
    | _ => offX op conf T.te h rd (fun ef' => ih (.dops b (i + 1) l rd ef' :: k) (r.set d undefA) h Q) i ef
/-- so many steps -/
noncomputable def Px (T : Tbl) (n : Nat) : List Item → Env → H → (Env → H → Prop) → Prop := Nat.rec (motive := fun _ => List Item → Env → H → (Env → H → Prop) → Prop) (fun items r h Q => Wp T items r h Q) (fun _ ih => pxStep T ih) n

theorem wanted_no {r : Env} {g : Nat} {b : Bool} (h : ∀ t, r g = .bool t → False) : wantedA r (some (some g, b)) = false := by
  unfold wantedA
  split
  · rename_i hx; cases hx
  · rfl
  · rename_i hx
    cases hx
    split
    · rename_i hy; exact (h _ hy).elim
    · rfl
theorem wp_dops_unwanted {T : Tbl} {b i : Nat} {o : AOper} {conf : List Nat} {l : List (AOper × List Nat)} {rd : List (Nat × AOp × Env × AV)} {ef : List (Nat × H)} {k : List Item} {r : Env} {h : H} {Q : Env → H → Prop} (hw : wantedA r o.guard = false)
    (hp : offX o.op conf T.te h rd (fun ef' => Wp T (.dops b (i + 1) l rd ef' :: k) (r.set o.dst undefA) h Q) i ef) : Wp T (.dops b i ((o, conf) :: l) rd ef :: k) r h Q := by
  refine wp_dops ?_
  simp only [Ow, hw, Bool.false_eq_true, if_false, Bool.and_false]
  unfold offX at hp
  split at hp
  · rename_i he
    rw [if_pos he]
    exact disW_of hp
  · rename_i he
    rw [if_neg he]
    exact hp
theorem wanted_none {r : Env} : wantedA r none = true := rfl
theorem wp_dops_wanted {T : Tbl} {b i : Nat} {o : AOper} {conf : List Nat} {l : List (AOper × List Nat)} {rd : List (Nat × AOp × Env × AV)} {ef : List (Nat × H)} {k : List Item} {r : Env} {h : H} {Q : Env → H → Prop} (hw : wantedA r o.guard = true)
    (hp : Wp T (.dops b i ((⟨o.dst, o.op, none⟩, conf) :: l) rd ef :: k) r h Q) : Wp T (.dops b i ((o, conf) :: l) rd ef :: k) r h Q := by
  obtain ⟨n, r1, h1, he, hq⟩ := hp
  refine ⟨n, r1, h1, ?_, hq⟩
  cases n with
  | zero => simp [exec] at he
  | succ n =>
    rw [exec] at he ⊢
    rw [← he]
    simp only [stepR, hw, wanted_none]
theorem disW_mono {te : TypeId → ATy} {conf : List Nat} {h : H} {K K' : Prop} : ∀ {l : List (Nat × AOp × Env × AV)}, disW te conf h K l → (K → K') → disW te conf h K' l
  | [], hk, f => f hk
  | (i, op, r, v) :: l, hk, f => by
    simp only [disW] at hk ⊢
    cases hc : conf.contains i with
    | false => rw [hc] at hk; exact disW_mono hk f
    | true => rw [hc] at hk; exact ⟨hk.1, disW_mono hk.2 f⟩
theorem offX_mono {op : AOp} {conf : List Nat} {te : TypeId → ATy} {h : H} {rd : List (Nat × AOp × Env × AV)} {K K' : List (Nat × H) → Prop} {i : Nat} {ef : List (Nat × H)} (hh : offX op conf te h rd K i ef) (hk : ∀ ef, K ef → K' ef) : offX op conf te h rd K' i ef := by
  unfold offX at hh ⊢
  split
  · rename_i he
    rw [if_pos he] at hh
    exact disW_mono hh (hk _)
  · rename_i he
    rw [if_neg he] at hh
    exact hk _ hh
theorem wanted_is {r : Env} {g : Nat} {b : Bool} (h : r g = .bool b) : wantedA r (some (some g, b)) = true := by simp [wantedA, h]
theorem wanted_not {r : Env} {g : Nat} {b t : Bool} (h : r g = .bool t) (hn : t ≠ b) : wantedA r (some (some g, b)) = false := by simp [wantedA, h, hn]

theorem wp_ops_unwanted {T : Tbl} {o : AOper} {l : List AOper} {k : List Item} {r : Env} {h : H} {Q : Env → H → Prop} (hw : wantedA r o.guard = false) (hp : Wp T (.ops l :: k) (r.set o.dst undefA) h Q) : Wp T (.ops (o :: l) :: k) r h Q := by
  refine wp_ops ?_
  simp only [Ow, hw, Bool.false_eq_true, if_false]
  exact hp

theorem px_sound (T : Tbl) : ∀ (n : Nat) (items : List Item) (r : Env) (h : H) (Q : Env → H → Prop), Px T n items r h Q → Wp T items r h Q := by
  intro n
  induction n with
  | zero => intro items r h Q hp; exact hp
  | succ n ih =>
    intro items r h Q hp
    have hp : pxStep T (Px T n) items r h Q := hp
    unfold pxStep at hp
    split at hp
    · exact wp_nil hp
    · exact wp_skipA (ih _ _ _ _ hp)
    · exact wp_reg (ih _ _ _ _ hp)
    · exact wp_draw (ih _ _ _ _ hp)
    · exact wp_seqA (ih _ _ _ _ hp)
    · skip
      split at hp <;> try (exact hp.elim)
      rename_i t ht
      rcases sel_of hp with ⟨rfl, h1⟩ | ⟨rfl, h1⟩
      · rw [know_eq ht] at h1; exact wp_condA ht (ih _ _ _ _ h1)
      · rw [know_eq ht] at h1; exact wp_condA ht (ih _ _ _ _ h1)
    · exact wp_blockA (ih _ _ _ _ hp)
    · exact hp
    · skip
      split at hp <;> try (exact hp.elim)
      rename_i k' hk
      exact wp_exitA hk (ih _ _ _ _ hp)
    · exact wp_scopeA (ih _ _ _ _ hp)
    · exact wp_retA hp
    · exact wp_inBlock (ih _ _ _ _ hp)
    · exact hp
    · exact wp_ops_nil (ih _ _ _ _ hp)
    · skip
      exact wp_ops (Ow.mono (opW_of hp) fun v h' hq => by rw [forceA_eq] at hq; exact ih _ _ _ _ hq)
    · skip
      refine wp_ops ?_
      simp only [Ow, wantedA, Bool.false_eq_true, if_false]
      exact ih _ _ _ _ hp
    · skip
      rename_i d op g l k _
      split at hp
      · rename_i t ht
        rcases sel_of hp with ⟨rfl, h1⟩ | ⟨rfl, h1⟩
        · rw [know_eq (c := .t g) ht] at h1
          exact wp_ops_guard ht (fun _ => ih _ _ _ _ h1) (fun hne => absurd rfl hne)
        · rw [know_eq (c := .t g) ht] at h1
          exact wp_ops_guard ht (fun he => by cases he) (fun _ => ih _ _ _ _ h1)
      · rename_i hnb
        exact wp_ops_unwanted (wanted_no hnb) (ih _ _ _ _ hp)
    · skip
      rename_i d op g l k _
      split at hp
      · rename_i t ht
        rcases sel_of hp with ⟨rfl, h1⟩ | ⟨rfl, h1⟩
        · rw [know_eq (c := .t g) ht] at h1
          exact wp_ops_guard ht (fun he => by cases he) (fun _ => ih _ _ _ _ h1)
        · rw [know_eq (c := .t g) ht] at h1
          exact wp_ops_guard ht (fun _ => ih _ _ _ _ h1) (fun hne => absurd rfl hne)
      · rename_i hnb
        exact wp_ops_unwanted (wanted_no hnb) (ih _ _ _ _ hp)
    · exact wp_dops_nil (ih _ _ _ _ hp)
    · skip
      rename_i d op conf l rd ef k _
      refine wp_dops (Ow.mono (opW_of hp) fun v h' hq => ?_)
      rw [forceA_eq] at hq
      by_cases he : op.effect = true
      · rw [if_pos he] at hq ⊢
        have h1 := disW_of hq
        exact ⟨h1.1, ih _ _ _ _ h1.2⟩
      · rw [if_neg he] at hq ⊢
        by_cases hr : op.reads = true
        · rw [if_pos hr] at hq
          rw [if_pos (by simp only [hr, wantedA, Bool.and_self])]
          have h1 := unmW_of hq
          exact ⟨h1.1, ih _ _ _ _ h1.2⟩
        · rw [if_neg hr] at hq
          rw [if_neg (by simp only [wantedA, Bool.and_true]; exact hr)]
          exact ih _ _ _ _ hq
    · skip
      exact wp_dops_unwanted rfl (offX_mono hp fun ef' hq => ih _ _ _ _ hq)
    · skip
      split at hp
      · rename_i t ht
        rcases sel_of hp with ⟨rfl, h1⟩ | ⟨rfl, h1⟩
        · rw [know_eq (c := .t _) ht] at h1
          exact wp_dops_wanted (wanted_is ht) (ih _ _ _ _ h1)
        · rw [know_eq (c := .t _) ht] at h1
          exact wp_dops_unwanted (wanted_not ht (by simp)) (offX_mono h1 fun ef' hq => ih _ _ _ _ hq)
      · rename_i hnb
        exact wp_dops_unwanted (wanted_no hnb) (offX_mono hp fun ef' hq => ih _ _ _ _ hq)
    · skip
      split at hp
      · rename_i t ht
        rcases sel_of hp with ⟨rfl, h1⟩ | ⟨rfl, h1⟩
        · rw [know_eq (c := .t _) ht] at h1
          exact wp_dops_unwanted (wanted_not ht (by simp)) (offX_mono h1 fun ef' hq => ih _ _ _ _ hq)
        · rw [know_eq (c := .t _) ht] at h1
          exact wp_dops_wanted (wanted_is ht) (ih _ _ _ _ h1)
      · rename_i hnb
        exact wp_dops_unwanted (wanted_no hnb) (offX_mono hp fun ef' hq => ih _ _ _ _ hq)

/-- the results, worked out -/
def resW (r : Env) (h : H) : List ARes → (List AV → Prop) → Prop
  | [], K => K []
  | .tmp t :: l, K => forceA (r t) fun v => v.isTup = false ∧ resW r h l fun vs => K (v :: vs)
  | .cell t ty :: l, K => match r t with
    | .ptr b p t' => t' = ty ∧ readW h b p fun v => forceA v fun v => resW r h l fun vs => K (v :: vs)
    | _ => False
theorem resW_of {r : Env} {h : H} : ∀ {rs : List ARes} {K : List AV → Prop}, resW r h rs K → ∃ vs, resOf r h rs = some vs ∧ K vs
  | [], _, hw => ⟨[], rfl, hw⟩
  | .tmp t :: l, K, hw => by
    simp only [resW, forceA_eq] at hw
    obtain ⟨vs, h1, h2⟩ := resW_of hw.2
    exact ⟨r t :: vs, by simp only [resOf, hw.1, Bool.false_eq_true, if_false, h1, Option.map_some], h2⟩
  | .cell t ty :: l, K, hw => by
    simp only [resW] at hw
    split at hw <;> try (exact hw.elim)
    rename_i b p t' ht
    obtain ⟨v, h1, h2⟩ := readW_of hw.2
    rw [forceA_eq] at h2
    obtain ⟨vs, h3, h4⟩ := resW_of h2
    exact ⟨v :: vs, by simp only [resOf, ht, hw.1, if_true, h1, h3], h4⟩
theorem cw_intro {T : Tbl} {f : FuncId} {args : List AV} {h : H} {K : AV → H → Prop} {F : AFunc} (n : Nat) (hx : T.ext f args = none) (hF : T.fn f = some F) (hp : Px T n [.code F.body] (envOf args) h fun r1 h1 => resW r1 h1 F.results fun vs => forceA (tupOf vs) fun v => K v h1) : Cw T f args h K := by
  refine ⟨?_⟩
  unfold CwD
  rw [hx]
  refine ⟨F, hF, (px_sound T n _ _ _ _ hp).mono fun r1 h1 hw => ?_⟩
  obtain ⟨vs, h2, h3⟩ := resW_of hw
  rw [forceA_eq] at h3
  exact ⟨vs, h2, h3⟩

end Go.Dam

namespace Go.Dam
open Go.RowKit (Below)

/-! ### Forms of arguments -/
inductive Shp where
  | bool | int (k : IntKind) | str
  | agg (t : TypeId) (ss : List Shp)
  | arr (t : TypeId) (n : Nat) (s : Shp)
  | slice (e : TypeId) (s : Shp)

mutual
def shpB (P : Program) (t : TypeId) : Shp → Bool
  | .bool => heldT P t && (match P.underlying t with | some .bool => true | _ => false)
  | .int k => heldT P t && (match P.underlying t with | some (.int k') => k' == k | _ => false)
  | .str => heldT P t && (match P.underlying t with | some .string => true | _ => false)
  | .agg t' ss => t' == canon P t && (match P.underlying t with | some (.struct fs) => shpsB P (fs.toList.map (·.type)) ss | _ => false)
  | .arr t' n s => t' == canon P t && (match P.underlying t with | some (.array m e) => m == n && shpB P e s | _ => false)
  | .slice e s => heldT P t && (match P.underlying t with | some (.slice e') => e == canon P e' && heldT P e' && shpB P e' s | _ => false)
def shpsB (P : Program) : List TypeId → List Shp → Bool
  | [], [] => true
  | t :: ts, s :: ss => shpB P t s && shpsB P ts ss
  | _, _ => false
end

mutual
/-- an argument's value: what it leads to lies in rows that are only read -/
def ArgOf (h : H) : Shp → AV → Prop
  | .bool, v => ∃ b, v = .bool b
  | .int k, v => ∃ n, v = .int k n ∧ k.min ≤ n ∧ n ≤ k.max
  | .str, v => ∃ s, v = .str s ∧ s.size ≤ maxLen
  | .agg t ss, v => ∃ xs, v = .agg t xs ∧ ArgsOf h ss xs
  | .arr t n s, v => ∃ xs, v = .agg t xs ∧ xs.length = n ∧ ∀ x ∈ xs, ArgOf h s x
  | .slice e s, v => v = .nils ∨ ∃ b xs, v = .slice b [] 0 xs.length e ∧ b < h.next ∧ h.get b = some (.row .ro e xs) ∧ xs.length ≤ maxLen ∧ ∀ x ∈ xs, ArgOf h s x
def ArgsOf (h : H) : List Shp → List AV → Prop
  | [], xs => xs = []
  | s :: ss, xs => ∃ x r, xs = x :: r ∧ ArgOf h s x ∧ ArgsOf h ss r
end

/-- old blocks are as they were, and no number is taken twice -/
def Keep (h h' : H) : Prop := h.next ≤ h'.next ∧ ∀ b, b < h.next → h'.get b = h.get b
theorem Keep.refl (h : H) : Keep h h := ⟨Nat.le_refl _, fun _ _ => rfl⟩
theorem Keep.trans {a b c : H} (h : Keep a b) (k : Keep b c) : Keep a c := ⟨Nat.le_trans h.1 k.1, fun i hi => (k.2 i (Nat.lt_of_lt_of_le hi h.1)).trans (h.2 i hi)⟩

mutual
theorem ArgOf.mono {h h' : H} (k : Keep h h') : ∀ {s : Shp} {v : AV}, ArgOf h s v → ArgOf h' s v
  | .bool, _, hv => by simpa only [ArgOf] using hv
  | .int _, _, hv => by simpa only [ArgOf] using hv
  | .str, _, hv => by simpa only [ArgOf] using hv
  | .agg t ss, v, hv => by
    simp only [ArgOf] at hv ⊢
    obtain ⟨xs, rfl, h1⟩ := hv
    exact ⟨xs, rfl, ArgsOf.mono k h1⟩
  | .arr t n s, v, hv => by
    simp only [ArgOf] at hv ⊢
    obtain ⟨xs, rfl, h1, h2⟩ := hv
    exact ⟨xs, rfl, h1, fun x hx => ArgOf.mono k (h2 x hx)⟩
  | .slice e s, v, hv => by
    simp only [ArgOf] at hv ⊢
    rcases hv with h1 | ⟨b, xs, rfl, h1, h2, h3, h4⟩
    · exact .inl h1
    · exact .inr ⟨b, xs, rfl, Nat.lt_of_lt_of_le h1 k.1, by rw [k.2 b h1]; exact h2, h3, fun x hx => ArgOf.mono k (h4 x hx)⟩
theorem ArgsOf.mono {h h' : H} (k : Keep h h') : ∀ {ss : List Shp} {xs : List AV}, ArgsOf h ss xs → ArgsOf h' ss xs
  | [], _, hv => by simpa only [ArgsOf] using hv
  | s :: ss, xs, hv => by
    simp only [ArgsOf] at hv ⊢
    obtain ⟨x, r, rfl, h1, h2⟩ := hv
    exact ⟨x, r, rfl, ArgOf.mono k h1, ArgsOf.mono k h2⟩
end

theorem PhiLe.then {a b c : Phi} (h : PhiLe a b) (k : PhiLe b c) : PhiLe a c := fun x i hx => k x i (h x i hx)

/-- a row that is only read -/
theorem HR.newRo {P : Program} {base : Nat} {φ : Phi} {h : H} {w : World} (hr : HR P base φ h w) (e : TypeId) (xs : List AV) (i : BI)
    (hi : ∀ φ', PhiLe φ φ' → RowR P base φ' w .ro e xs i) :
    ∃ φ', PhiLe φ φ' ∧ φ' h.next = some i ∧ HR P base φ' (h.newAt h.next (.row .ro e xs)) w := by
  have hnid : φ h.next = none := hr.fresh _ (Nat.le_refl _)
  let φ' : Phi := fun b => if b = h.next then some i else φ b
  have hle2 : PhiLe φ φ' := fun b j hj => by
    have : b ≠ h.next := fun e => by rw [e, hnid] at hj; cases hj
    simp [φ', this, hj]
  refine ⟨φ', hle2, by simp [φ'], ⟨hr.size, ?_, ?_, ?_, ?_⟩⟩
  · intro b k2 e2 xs2 hg
    rw [H.get_newAt] at hg
    by_cases hbn : b = h.next
    · simp only [hbn, if_true, Option.some.injEq, Blk.row.injEq] at hg
      obtain ⟨rfl, rfl, rfl⟩ := hg
      exact ⟨i, by simp [φ', hbn], hi φ' hle2⟩
    · simp only [hbn, if_false] at hg
      obtain ⟨j, hj, hrow⟩ := hr.row b k2 e2 xs2 hg
      refine ⟨j, hle2 _ _ hj, hrow.ie, hrow.held, hrow.canon, hrow.fit, hrow.len, hrow.fixed, hrow.own, hrow.ro, fun hn => ?_, hrow.room⟩
      obtain ⟨cs, h1, h2⟩ := hrow.mem hn
      exact ⟨cs, CVs.mono hle2 h1, h2⟩
  · intro b b' k1 k2 e1 e2 xs1 xs2 i1 i2 hne g1 g2 n1 n2 p1 p2 z1 z2
    rw [H.get_newAt] at g1 g2
    by_cases hb1 : b = h.next
    · simp only [hb1, if_true, Option.some.injEq, Blk.row.injEq] at g1
      exact (n1 g1.1.symm).elim
    · simp only [hb1, if_false] at g1
      by_cases hb2 : b' = h.next
      · simp only [hb2, if_true, Option.some.injEq, Blk.row.injEq] at g2
        exact (n2 g2.1.symm).elim
      · simp only [hb2, if_false] at g2
        exact hr.apart b b' k1 k2 e1 e2 xs1 xs2 i1 i2 hne g1 g2 n1 n2 (by simpa [φ', hb1] using p1) (by simpa [φ', hb2] using p2) z1 z2
  · intro b hb'
    simp only [H.newAt, if_true] at hb'
    have h1 : b ≠ h.next := by omega
    simp [φ', h1, hr.fresh b (by omega)]
  · intro b es hg
    rw [H.get_newAt] at hg
    split at hg
    · cases hg
    · exact hr.nomap b es hg
theorem Keep.newAt {h : H} {x : Blk} : Keep h (h.newAt h.next x) := by
  refine ⟨by simp [H.newAt], fun b hb => ?_⟩
  rw [H.get_newAt, if_neg (by omega)]

theorem held_one {P : Program} {t : TypeId} (h : heldT P t = true) {k : Kd} (hk : kdOf P t = some k) (ha : k.isAgg = false) : P.cellsOf t = 1 := by
  simp only [heldT, hk, ha, Bool.false_or, Bool.and_eq_true, beq_iff_eq] at h
  exact h.2
theorem fit_of_kd {P : Program} {t : TypeId} (h : heldT P t = true) {k : Kd} (hk : kdOf P t = some k) (ha : k.isAgg = false) {v : AV} (hv : k.ok v = true) (hn : v.isAgg = false) (ht : v.isTup = false) : Fit P t v := by
  have h1 := held_one h hk ha
  have h2 : primOK P t v = true := by simp [primOK, hk, ha, hv, h1]
  cases v <;> first | (cases hn; done) | (cases ht; done) | exact h2

section imp
variable {Hh : Type} (enc : TypeId × Value → Hh) {P : Program} (g : Good P) {w : World} {base : Nat} (hbase : w.heap.size ≤ base)

/-- what an import gives -/
structure Imp (P : Program) (base : Nat) (w : World) (φ : Phi) (h : H) (av : List AV) (cs : List Value) (φ' : Phi) (h' : H) : Prop where
  le : PhiLe φ φ'
  hr : HR P base φ' h' w
  keep : Keep h h'
  cv : CVs P φ' av cs
include g hbase

theorem imp : ∀ (fuel : Nat) (s : Shp) (t : TypeId) (cs : List Value) (d : DataW Hh) (ps : List MemPlace), DataW.trod enc P w 0 (fun _ => true) true fuel t cs = some (d, ps) → shpB P t s = true → t < P.types.size →
    ∀ φ h, HR P base φ h w → ∃ φ' h' av, Imp P base w φ h [av] cs φ' h' ∧ Fit P t av ∧ ArgOf h' s av := by
  intro fuel
  induction fuel with
  | zero => intro s t cs d ps ht; simp [DataW.trod] at ht
  | succ fuel ih =>
    intro s t cs d ps htr hs htl φ h hr
    cases s with
    | bool =>
      simp only [shpB, Bool.and_eq_true] at hs
      obtain ⟨hh, hu⟩ := hs
      split at hu <;> try (cases hu; done)
      rename_i hu1
      unfold DataW.trod at htr
      rw [hu1] at htr
      split at htr <;> try (first | (cases htr; done) | contradiction)
      all_goals try (simp_all; done)
      rename_i b h1
      have hk : kdOf P t = some .bool := by simp [kdOf, hu1]
      refine ⟨φ, h, .bool b, ⟨PhiLe.refl _, hr, Keep.refl _, ?_⟩, fit_of_kd hh hk rfl rfl rfl rfl, ⟨b, rfl⟩⟩
      exact ⟨[.bool b], [], ⟨_, rfl, rfl⟩, rfl, rfl⟩
    | int k =>
      simp only [shpB, Bool.and_eq_true] at hs
      obtain ⟨hh, hu⟩ := hs
      split at hu <;> try (cases hu; done)
      rename_i k' hu1
      simp only [beq_iff_eq] at hu
      subst hu
      unfold DataW.trod at htr
      rw [hu1] at htr
      split at htr <;> try (first | (cases htr; done) | contradiction)
      all_goals try (simp_all; done)
      rename_i k2 k1 n h1
      cases h1
      split at htr <;> try (cases htr; done)
      rename_i hwf
      obtain ⟨rfl, hwf⟩ := hwf
      have hk : kdOf P t = some (.int k1) := by simp [kdOf, hu1]
      simp only [Lit.wf, Bool.and_eq_true, decide_eq_true_eq] at hwf
      refine ⟨φ, h, .int k1 n, ⟨PhiLe.refl _, hr, Keep.refl _, ?_⟩, fit_of_kd hh hk rfl (by simp [Kd.ok]) rfl rfl, ⟨n, rfl, hwf⟩⟩
      exact ⟨[.int k1 n], [], ⟨_, rfl, rfl⟩, rfl, rfl⟩
    | str =>
      simp only [shpB, Bool.and_eq_true] at hs
      obtain ⟨hh, hu⟩ := hs
      split at hu <;> try (cases hu; done)
      rename_i hu1
      unfold DataW.trod at htr
      rw [hu1] at htr
      split at htr <;> try (first | (cases htr; done) | contradiction)
      all_goals try (simp_all; done)
      rename_i b h1
      split at htr <;> try (cases htr; done)
      rename_i hsz
      have hk : kdOf P t = some .str := by simp [kdOf, hu1]
      refine ⟨φ, h, .str b, ⟨PhiLe.refl _, hr, Keep.refl _, ?_⟩, fit_of_kd hh hk rfl rfl rfl rfl, ⟨b, rfl, hsz⟩⟩
      exact ⟨[.string b], [], ⟨_, rfl, rfl⟩, rfl, rfl⟩
    | agg t' ss =>
      simp only [shpB, Bool.and_eq_true, beq_iff_eq] at hs
      obtain ⟨rfl, hu⟩ := hs
      split at hu <;> try (cases hu; done)
      rename_i fs hu1
      have hst := g.struct htl hu1
      unfold DataW.trod at htr
      rw [hu1] at htr
      simp only at htr
      split at htr <;> try (cases htr; done)
      rename_i hlen
      simp only [Option.map_eq_some_iff] at htr
      obtain ⟨ds, hds, _⟩ := htr
      -- the fields, one behind the other
      have go : ∀ (l : List Field) (o : Nat) (ss : List Shp) (ds : List (DataW Hh × List MemPlace)), layFields P o l = some (P.cellsOf t) → (∀ f ∈ l, f.type < P.types.size) → shpsB P (l.map (·.type)) ss = true →
          l.mapM (fun f => DataW.trod enc P w 0 (fun _ => true) true fuel f.type ((cs.drop f.offset).take (P.cellsOf f.type))) = some ds →
          ∀ φ h, HR P base φ h w → ∃ φ' h' avs, Imp P base w φ h avs (cs.drop o) φ' h' ∧ fitsB P (l.map (·.type)) avs = true ∧ ArgsOf h' ss avs := by
        intro l
        induction l with
        | nil =>
          intro o ss ds hl _ hss _ φ h hr
          simp only [layFields, Option.some.injEq] at hl
          cases ss with
          | cons => simp [shpsB] at hss
          | nil => exact ⟨φ, h, [], ⟨PhiLe.refl _, hr, Keep.refl _, by simp only [CVs]; rw [List.drop_eq_nil_iff]; omega⟩, rfl, rfl⟩
        | cons f l ihl =>
          intro o ss ds hl hlt hss hm φ h hr
          simp only [layFields] at hl
          split at hl <;> try (cases hl; done)
          rename_i ho
          simp only [beq_iff_eq] at ho
          cases ss with
          | nil => simp [shpsB] at hss
          | cons s ss =>
            simp only [List.map_cons, shpsB, Bool.and_eq_true] at hss
            rw [List.mapM_cons] at hm
            cases hx : DataW.trod enc P w 0 (fun _ => true) true fuel f.type ((cs.drop f.offset).take (P.cellsOf f.type)) with
            | none => simp [hx] at hm
            | some x =>
              cases hy : l.mapM (fun f => DataW.trod enc P w 0 (fun _ => true) true fuel f.type ((cs.drop f.offset).take (P.cellsOf f.type))) with
              | none => simp [hx, hy] at hm
              | some ys =>
                obtain ⟨dx, px⟩ := x
                obtain ⟨φ1, h1, a1, i1, f1, q1⟩ := ih s f.type _ dx px hx hss.1 (hlt f (by simp)) φ h hr
                obtain ⟨φ2, h2, a2, i2, f2, q2⟩ := ihl (o + P.cellsOf f.type) ss ys hl (fun f' hf' => hlt f' (by simp [hf'])) hss.2 hy φ1 h1 i1.hr
                refine ⟨φ2, h2, a1 :: a2, ⟨i1.le.then i2.le, i2.hr, i1.keep.trans i2.keep, ?_⟩, ?_, ?_⟩
                · have c1 := CVs.mono i2.le i1.cv
                  have c2 := i2.cv
                  have := (CVs_append (xs := [a1]) (ys := a2)).2 ⟨_, _, c1, c2, rfl⟩
                  rw [ho] at this
                  rw [← List.drop_drop, List.take_append_drop] at this
                  exact this
                · simp only [List.map_cons, fitsB, Bool.and_eq_true]; exact ⟨f1, f2⟩
                · simp only [ArgsOf]; exact ⟨a1, a2, rfl, q1.mono i2.keep, q2⟩
      obtain ⟨φ', h', avs, i1, f1, q1⟩ := go fs.toList 0 ss ds hst.1 hst.2 hu hds φ h hr
      refine ⟨φ', h', .agg (canon P t) avs, ⟨i1.le, i1.hr, i1.keep, ?_⟩, fit_struct hu1 f1, ⟨avs, rfl, q1⟩⟩
      have := i1.cv
      exact ⟨cs, [], by simpa only [CV, List.drop_zero] using this, rfl, by simp⟩
    | arr t' n s =>
      simp only [shpB, Bool.and_eq_true, beq_iff_eq] at hs
      obtain ⟨rfl, hu⟩ := hs
      split at hu <;> try (cases hu; done)
      rename_i m e hu1
      simp only [Bool.and_eq_true, beq_iff_eq] at hu
      obtain ⟨rfl, hse⟩ := hu
      have har := g.array htl hu1
      unfold DataW.trod at htr
      rw [hu1] at htr
      simp only at htr
      split at htr <;> try (cases htr; done)
      rename_i hlen
      simp only [Option.map_eq_some_iff] at htr
      obtain ⟨ds, hds, _⟩ := htr
      have go : ∀ (k o : Nat) (ds : List (DataW Hh × List MemPlace)), o + k = m →
          (List.range' o k).mapM (fun i => DataW.trod enc P w 0 (fun _ => true) true fuel e ((cs.drop (i * P.cellsOf e)).take (P.cellsOf e))) = some ds →
          ∀ φ h, HR P base φ h w → ∃ φ' h' avs, Imp P base w φ h avs (cs.drop (o * P.cellsOf e)) φ' h' ∧ avs.length = k ∧ (∀ x ∈ avs, Fit P e x ∧ ArgOf h' s x) := by
        intro k
        induction k with
        | zero =>
          intro o ds ho _ φ h hr
          refine ⟨φ, h, [], ⟨PhiLe.refl _, hr, Keep.refl _, by simp only [CVs]; rw [List.drop_eq_nil_iff, hlen, har.1, ← ho]; exact Nat.le_refl _⟩, rfl, by simp⟩
        | succ k ihk =>
          intro o ds ho hm φ h hr
          rw [List.range'_succ, List.mapM_cons] at hm
          cases hx : DataW.trod enc P w 0 (fun _ => true) true fuel e ((cs.drop (o * P.cellsOf e)).take (P.cellsOf e)) with
          | none => simp [hx] at hm
          | some x =>
            cases hy : (List.range' (o + 1) k).mapM (fun i => DataW.trod enc P w 0 (fun _ => true) true fuel e ((cs.drop (i * P.cellsOf e)).take (P.cellsOf e))) with
            | none => simp [hx, hy] at hm
            | some ys =>
              obtain ⟨dx, px⟩ := x
              obtain ⟨φ1, h1, a1, i1, f1, q1⟩ := ih s e _ dx px hx hse har.2 φ h hr
              obtain ⟨φ2, h2, a2, i2, l2, q2⟩ := ihk (o + 1) ys (by omega) hy φ1 h1 i1.hr
              refine ⟨φ2, h2, a1 :: a2, ⟨i1.le.then i2.le, i2.hr, i1.keep.trans i2.keep, ?_⟩, by simp [l2], ?_⟩
              · have c1 := CVs.mono i2.le i1.cv
                have c2 := i2.cv
                have := (CVs_append (xs := [a1]) (ys := a2)).2 ⟨_, _, c1, c2, rfl⟩
                rw [Nat.add_mul, Nat.one_mul, ← List.drop_drop, List.take_append_drop] at this
                exact this
              · intro x hx'
                rcases List.mem_cons.1 hx' with rfl | hx'
                · exact ⟨f1, q1.mono i2.keep⟩
                · exact q2 x hx'
      rw [List.range_eq_range'] at hds
      obtain ⟨φ', h', avs, i1, l1, q1⟩ := go m 0 ds (by omega) hds φ h hr
      refine ⟨φ', h', .agg (canon P t) avs, ⟨i1.le, i1.hr, i1.keep, ?_⟩, fit_array hu1 l1.symm (fun x hx => (q1 x hx).1), ⟨avs, rfl, l1, fun x hx => (q1 x hx).2⟩⟩
      have := i1.cv
      exact ⟨cs, [], by simpa only [CV, Nat.zero_mul, List.drop_zero] using this, rfl, by simp⟩
    | slice e s =>
      simp only [shpB, Bool.and_eq_true] at hs
      obtain ⟨hh, hu⟩ := hs
      split at hu <;> try (cases hu; done)
      rename_i e' hu1
      simp only [Bool.and_eq_true, beq_iff_eq] at hu
      obtain ⟨⟨rfl, hhe⟩, hse⟩ := hu
      have hk : kdOf P t = some .slice := by simp [kdOf, hu1]
      have hel := heldT_lt hhe
      unfold DataW.trod at htr
      rw [hu1] at htr
      split at htr <;> try (first | (cases htr; done) | contradiction)
      all_goals try (simp_all; done)
      · refine ⟨φ, h, .nils, ⟨PhiLe.refl _, hr, Keep.refl _, ?_⟩, fit_of_kd hh hk rfl rfl rfl rfl, .inl rfl⟩
        exact ⟨[.slice none 0 0], [], ⟨_, rfl, rfl⟩, rfl, rfl⟩
      rename_i e1 a len cap he1
      cases he1
      split at htr <;> try (cases htr; done)
      rename_i hb
      obtain ⟨_, hlc, hcm⟩ := hb
      simp only [Option.bind_eq_some_iff, Option.map_eq_some_iff] at htr
      obtain ⟨ds, hds, rest, hrest, _⟩ := htr
      have hadd : a.spot = none → ∀ m, a.add m = ⟨a.block, a.off + m, none⟩ := by
        intro hsp m
        cases a
        simp only at hsp
        subst hsp
        simp only [Addr.add]
        split <;> simp_all
      have hpos : 0 < P.cellsOf e' := Nat.pos_of_ne_zero (heldT_pos hhe)
      have hone : ∀ i x, (w.cells? 0 (a.add (i * P.cellsOf e')) (P.cellsOf e')).bind (DataW.trod enc P w 0 (fun _ => true) true fuel e') = some x → ∃ cs, cs.length = P.cellsOf e' ∧ DataW.trod enc P w 0 (fun _ => true) true fuel e' cs = some x ∧ (i = 0 → a.spot = none ∧ a.block < w.heap.size) ∧ (a.spot = none → ∀ j v, cs[j]? = some v → w.cell? ⟨a.block, a.off + i * P.cellsOf e' + j, none⟩ = some v) := by
        intro i x hx
        simp only [Option.bind_eq_some_iff] at hx
        obtain ⟨cs, hc, ht⟩ := hx
        obtain ⟨_, h2, h3⟩ := World.cells?_some hc
        refine ⟨cs, h2, ht, fun hi => ?_, fun hsp j v hj => ?_⟩
        · subst hi
          have h4 := h3 0 hpos
          rw [List.getElem?_eq_getElem (by omega)] at h4
          have h5 := World.cell?_spot h4
          have h6 := World.cells?_block hc hpos
          simp only [Nat.zero_mul, Addr.add, if_true] at h5 h6
          exact ⟨h5, h6⟩
        · have hjl : j < P.cellsOf e' := by rw [← h2]; exact (List.getElem?_eq_some_iff.1 hj).1
          have h4 := h3 j hjl
          rw [hj, hadd hsp] at h4
          simp only [Addr.add] at h4
          split at h4
          · rename_i h0; subst h0; exact h4
          · exact h4
      simp only [if_true] at hrest
      have hcap : cap ≠ 0 → a.spot = none ∧ a.block < w.heap.size := by
        intro hc
        rcases Nat.eq_zero_or_pos len with h0 | h0
        · subst h0
          rw [List.range_eq_range', Nat.sub_zero, show cap = (cap - 1) + 1 by omega, List.range'_succ, List.mapM_cons] at hrest
          cases hx : (w.cells? 0 (a.add ((0 + 0) * P.cellsOf e')) (P.cellsOf e')).bind (DataW.trod enc P w 0 (fun _ => true) true fuel e') with
          | none => simp only [hx] at hrest; simp at hrest
          | some x =>
            obtain ⟨_, _, _, y1, _⟩ := hone _ _ hx
            exact y1 rfl
        · rw [List.range_eq_range', show len = (len - 1) + 1 by omega, List.range'_succ, List.mapM_cons] at hds
          cases hx : (w.cells? 0 (a.add (0 * P.cellsOf e')) (P.cellsOf e')).bind (DataW.trod enc P w 0 (fun _ => true) true fuel e') with
          | none => simp only [hx] at hds; simp at hds
          | some x =>
            obtain ⟨_, _, _, y1, _⟩ := hone _ _ hx
            exact y1 rfl
      have go : ∀ (k o : Nat) (ds : List (DataW Hh × List MemPlace)),
          (List.range' o k).mapM (fun i => (w.cells? 0 (a.add (i * P.cellsOf e')) (P.cellsOf e')).bind (DataW.trod enc P w 0 (fun _ => true) true fuel e')) = some ds → (k ≠ 0 → a.spot = none) →
          ∀ φ h, HR P base φ h w → ∃ φ' h' avs cs, Imp P base w φ h avs cs φ' h' ∧ avs.length = k ∧ (∀ x ∈ avs, Fit P e' x ∧ ArgOf h' s x) ∧ ∀ j v, cs[j]? = some v → w.cell? ⟨a.block, a.off + o * P.cellsOf e' + j, none⟩ = some v := by
        intro k
        induction k with
        | zero =>
          intro o ds _ _ φ h hr
          exact ⟨φ, h, [], [], ⟨PhiLe.refl _, hr, Keep.refl _, rfl⟩, rfl, by simp, by simp⟩
        | succ k ihk =>
          intro o ds hm hsp φ h hr
          rw [List.range'_succ, List.mapM_cons] at hm
          cases hx : (w.cells? 0 (a.add (o * P.cellsOf e')) (P.cellsOf e')).bind (DataW.trod enc P w 0 (fun _ => true) true fuel e') with
          | none => simp [hx] at hm
          | some x =>
            cases hy : (List.range' (o + 1) k).mapM (fun i => (w.cells? 0 (a.add (i * P.cellsOf e')) (P.cellsOf e')).bind (DataW.trod enc P w 0 (fun _ => true) true fuel e')) with
            | none => simp [hx, hy] at hm
            | some ys =>
              obtain ⟨dx, px⟩ := x
              obtain ⟨cs1, z1, z2, _, z3⟩ := hone _ _ hx
              have z3 := z3 (hsp (by simp))
              obtain ⟨φ1, h1, a1, i1, f1, q1⟩ := ih s e' _ dx px z2 hse hel φ h hr
              obtain ⟨φ2, h2, a2, cs2, i2, l2, q2, z4⟩ := ihk (o + 1) ys hy (fun _ => hsp (by simp)) φ1 h1 i1.hr
              refine ⟨φ2, h2, a1 :: a2, cs1 ++ cs2, ⟨i1.le.then i2.le, i2.hr, i1.keep.trans i2.keep, ?_⟩, by simp [l2], ?_, ?_⟩
              · exact (CVs_append (xs := [a1]) (ys := a2)).2 ⟨_, _, CVs.mono i2.le i1.cv, i2.cv, rfl⟩
              · intro x hx'
                rcases List.mem_cons.1 hx' with rfl | hx'
                · exact ⟨f1, q1.mono i2.keep⟩
                · exact q2 x hx'
              · intro j v hj
                rcases Nat.lt_or_ge j cs1.length with hl | hl
                · rw [List.getElem?_append_left hl] at hj
                  exact z3 j v hj
                · rw [List.getElem?_append_right hl] at hj
                  have := z4 _ _ hj
                  rw [z1, Nat.add_mul, Nat.one_mul] at this
                  rw [← this]
                  congr 2
                  omega
      rw [List.range_eq_range'] at hds
      obtain ⟨φ1, h1, avs, cs1, i1, l1, q1, z1⟩ := go len 0 ds hds (fun hn => (hcap (by omega)).1) φ h hr
      obtain ⟨φ2, y1, y2, y3⟩ := HR.newRo i1.hr (canon P e') avs ⟨a.block, a.off, cap, canon P e'⟩ (fun φ' hle => by
        refine ⟨rfl, heldT_canon g hhe, g.canon_canon hel, fun x hx => (fit_canon g hel x).2 (q1 x hx).1, by simpa [l1] using hlc, fun h => (by cases h), fun h => (h rfl).elim, fun _ hn => ?_, fun _ => ⟨cs1, CVs.mono hle i1.cv, fun j v hj => ?_⟩, fun h => (h rfl).elim⟩
        · exact Nat.lt_of_lt_of_le (hcap hn).2 hbase
        · have := z1 j v hj
          simpa using this)
      refine ⟨φ2, _, .slice h1.next [] 0 avs.length (canon P e'), ⟨i1.le.then y1, y3, i1.keep.trans Keep.newAt, ?_⟩, fit_of_kd hh hk rfl rfl rfl rfl, .inr ⟨h1.next, avs, rfl, by simp [H.newAt], by rw [H.get_newAt, if_pos rfl], by omega, fun x hx => (q1 x hx).2.mono Keep.newAt⟩⟩
      refine ⟨[.slice (some a) len cap], [], ⟨_, ?_, rfl⟩, rfl, rfl⟩
      refine ⟨⟨a.block, a.off, cap, canon P e'⟩, 0, cap, canon P e', a, y2, by simp [rowPlace], g.canon_canon hel, g.canon_lt hel, by simp only [Nat.zero_add]; omega, ?_, by rw [l1, Nat.sub_zero]⟩
      rcases Nat.eq_zero_or_pos cap with h0 | h0
      · exact .inr ⟨h0, rfl⟩
      · refine .inl ?_
        have := (hcap (by omega)).1
        cases a
        simp only at this
        subst this
        simp

end imp
end Go.Dam

namespace Go.Dam
open Go.RowKit (Below)
open Go.ChangeShapes Go.WideShapes

section
variable {Hh : Type} {enc : TypeId × Value → Hh} {P : Program} (g : Good P)
include g

theorem imp_val {r : Reach} {b0 : Nat} {w : World} {base : Nat} (hbase : w.heap.size ≤ base) {s : Shp} {t : TypeId} {v : Value} {d : DataW Hh} {ps : List MemPlace} (ht : DataW.Trod enc P w 0 (fun _ => true) true t v d ps) (hval : Value.okWide P w r b0 t v) (hs : shpB P t s = true) (htl : t < P.types.size) {φ : Phi} {h : H} (hr : HR P base φ h w) :
    ∃ φ' h' av, PhiLe φ φ' ∧ HR P base φ' h' w ∧ Keep h h' ∧ VV1 P φ' av v ∧ ArgOf h' s av := by
  obtain ⟨fuel, hf⟩ := ht
  obtain ⟨φ', h', av, i1, f1, q1⟩ := imp enc g hbase fuel s t _ d ps hf hs htl φ h hr
  refine ⟨φ', h', av, i1.le, i1.hr, i1.keep, ?_, q1⟩
  have hc := i1.cv
  simp only [CVs] at hc
  obtain ⟨a, b, hc, rfl, hcs⟩ := hc
  rw [List.append_nil] at hcs
  have leaf : (∀ xs t, av ≠ .agg t xs) → (∀ cs, v ≠ .agg cs) → VV1 P φ' av v := by
    intro h1 h2
    have hv : v.cells.toList = [v] := by cases v <;> first | rfl | exact (h2 _ rfl).elim
    rw [hv] at hcs
    subst hcs
    cases av <;> first | (exact (h1 _ _ rfl).elim) | (simp only [CV] at hc; done) | skip
    all_goals first | (simp only [CV] at hc; obtain ⟨u, hu, he⟩ := hc; simp only [List.cons.injEq, and_true] at he; subst he; exact hu) | exact hc.elim
  have agg : ∀ xs, av = .agg (canon P t) xs → (∃ cs, v = .agg cs) → VV1 P φ' av v := by
    rintro xs rfl ⟨cs, rfl⟩
    simp only [CV, Value.cells] at hc hcs
    subst hcs
    refine ⟨⟨g.canon_canon htl, g.canon_lt htl, (fit_canon g htl _).2 f1⟩, cs.toList, hc, by simp⟩
  cases s with
  | bool =>
    obtain ⟨x, rfl⟩ := q1
    simp only [shpB, Bool.and_eq_true] at hs
    obtain ⟨_, hu⟩ := hs
    split at hu <;> try (cases hu; done)
    rename_i hu1
    refine leaf (by simp) ?_
    rintro cs rfl
    simp [Value.okWide, Cell.okWide, Cell.ok, hu1] at hval
  | int k =>
    obtain ⟨x, rfl, _⟩ := q1
    simp only [shpB, Bool.and_eq_true] at hs
    obtain ⟨_, hu⟩ := hs
    split at hu <;> try (cases hu; done)
    rename_i hu1
    refine leaf (by simp) ?_
    rintro cs rfl
    simp [Value.okWide, Cell.okWide, Cell.ok, hu1] at hval
  | str =>
    obtain ⟨x, rfl, _⟩ := q1
    simp only [shpB, Bool.and_eq_true] at hs
    obtain ⟨_, hu⟩ := hs
    split at hu <;> try (cases hu; done)
    rename_i hu1
    refine leaf (by simp) ?_
    rintro cs rfl
    simp [Value.okWide, Cell.okWide, Cell.ok, hu1] at hval
  | slice e s =>
    simp only [shpB, Bool.and_eq_true] at hs
    obtain ⟨_, hu⟩ := hs
    split at hu <;> try (cases hu; done)
    rename_i hu1
    refine leaf ?_ ?_
    · rcases q1 with rfl | ⟨b, xs, rfl, _⟩ <;> simp
    · rintro cs rfl
      simp [Value.okWide, Cell.okWide, Cell.ok, hu1] at hval
  | agg t' ss =>
    obtain ⟨xs, rfl, _⟩ := q1
    simp only [shpB, Bool.and_eq_true, beq_iff_eq] at hs
    obtain ⟨rfl, hu⟩ := hs
    split at hu <;> try (cases hu; done)
    rename_i hu1
    refine agg xs rfl ?_
    obtain ⟨cs, h1, _⟩ := okWide_struct hu1 hval
    exact ⟨cs, h1⟩
  | arr t' n s =>
    obtain ⟨xs, rfl, _⟩ := q1
    simp only [shpB, Bool.and_eq_true, beq_iff_eq] at hs
    obtain ⟨rfl, hu⟩ := hs
    split at hu <;> try (cases hu; done)
    rename_i hu1
    refine agg xs rfl ?_
    simp only [Value.okWide, hu1] at hval
    obtain ⟨cs, h1, _⟩ := hval
    exact ⟨cs, h1⟩

theorem imp_all {r : Reach} {b0 : Nat} {w : World} {base : Nat} (hbase : w.heap.size ≤ base) : ∀ {ss : List Shp} {ts : List TypeId} {vs : List Value} {ds : List (DataW Hh)} {ps : List MemPlace}, DataW.TrodAll enc P w 0 (fun _ => true) true ts vs ds ps →
    (∀ (j : Nat) t v, ts[j]? = some t → vs[j]? = some v → Value.okWide P w r b0 t v) → shpsB P ts ss = true → (∀ t ∈ ts, t < P.types.size) → ∀ {φ : Phi} {h : H}, HR P base φ h w →
    ∃ φ' h' avs, PhiLe φ φ' ∧ HR P base φ' h' w ∧ Keep h h' ∧ VV1s P φ' avs vs ∧ ArgsOf h' ss avs
  | [], [], vs, ds, ps, hA, _, _, _, φ, h, hr => by
    obtain ⟨rfl, rfl, rfl⟩ := trodAll_nil hA
    exact ⟨φ, h, [], PhiLe.refl _, hr, Keep.refl _, rfl, rfl⟩
  | [], _ :: _, _, _, _, _, _, hs, _, _, _, _ => by simp [shpsB] at hs
  | _ :: _, [], _, _, _, _, _, hs, _, _, _, _ => by simp [shpsB] at hs
  | s :: ss, t :: ts, vs, ds, ps, hA, hval, hs, htl, φ, h, hr => by
    obtain ⟨v, vs', d, ds', p, q, rfl, rfl, rfl, h1, h2⟩ := trodAll_cons hA
    simp only [shpsB, Bool.and_eq_true] at hs
    obtain ⟨φ1, h1', av, l1, r1, k1, v1, a1⟩ := imp_val g hbase h1 (hval 0 t v rfl rfl) hs.1 (htl t (by simp)) hr
    obtain ⟨φ2, h2', avs, l2, r2, k2, v2, a2⟩ := imp_all hbase h2 (fun j t v ht hv => hval (j + 1) t v (by simpa using ht) (by simpa using hv)) hs.2 (fun u hu => htl u (by simp [hu])) r1
    exact ⟨φ2, h2', av :: avs, l1.then l2, r2, k1.trans k2, ⟨v, vs', VV1.mono l2 v1, v2, rfl⟩, ⟨av, avs, rfl, a1.mono k2, a2⟩⟩

omit g in
theorem VV1s_at {φ : Phi} : ∀ {avs : List AV} {vs : List Value}, VV1s P φ avs vs → vs.length = avs.length ∧ ∀ (j : Nat) x c, avs[j]? = some x → vs[j]? = some c → VV P φ x c
  | [], vs, h => by simp only [VV1s] at h; subst h; exact ⟨rfl, by simp⟩
  | a :: avs, vs, h => by
    simp only [VV1s] at h
    obtain ⟨v, r, h1, h2, rfl⟩ := h
    obtain ⟨h3, h4⟩ := VV1s_at h2
    refine ⟨by simp [h3], fun j x c hx hc => ?_⟩
    cases j with
    | zero =>
      simp at hx hc
      subst hx hc
      cases a <;> first | exact h1 | exact h1.elim
    | succ j => exact h4 j x c (by simpa using hx) (by simpa using hc)

/-- a law that answers true on the machine answers true, and leaves all that was there alone -/
theorem law_calls {T : Tbl} (hT : TblOK P T) {f : FuncId} {ts : List TypeId} {ss : List Shp} (hs : shpsB P ts ss = true) (htl : ∀ t ∈ ts, t < P.types.size) (hcw : ∀ h avs, ArgsOf h ss avs → Cw T f avs h fun v _ => v = .bool true)
    {r : Reach} {b0 : Nat} {W : World} {args : Array Value} {ds : List (DataW Hh)} {p : List MemPlace} (hA : DataW.TrodAll enc P W 0 (fun _ => true) true ts args.toList ds p) (hval : ∀ (j : Nat) t v, ts[j]? = some t → args.toList[j]? = some v → Value.okWide P W r b0 t v) :
    Calls P f args W fun e W' => e = .returned (.bool true) ∧ Below W.heap.size W W' := by
  have h0 : HR P W.heap.size (fun _ => none) ⟨.nil, 0⟩ W := by
    have hn : ∀ b, H.get ⟨.nil, 0⟩ b = none := fun b => rfl
    exact ⟨Nat.le_refl _, fun b k e xs h => (by rw [hn] at h; cases h), fun b b' k k' e e' xs xs' i i' _ h => (by rw [hn] at h; cases h), fun _ _ => rfl, fun b es h => (by rw [hn] at h; cases h)⟩
  obtain ⟨φ, h, avs, _, hr, _, hv, ha⟩ := imp_all g (Nat.le_refl _) hA hval hs htl h0
  obtain ⟨hl, hv⟩ := VV1s_at hv
  obtain ⟨hc⟩ := hcw h avs ha
  unfold CwD at hc
  cases hx : T.ext f avs with
  | some vs =>
    rw [hx] at hc
    have := (hT.ext f avs vs hx).2 φ W args.toList hl hv
    refine this.mono fun e w' ⟨v, h1, h2, h3⟩ => ⟨?_, h3⟩
    have := h2 φ
    rw [hc] at this
    rw [h1, (show v = .bool true from this)]
  | none =>
    rw [hx] at hc
    obtain ⟨F, hF, n, r1, h1, he, vs, hres, hK⟩ := hc
    have := (call_good g hT (base := W.heap.size) hF he hres).2.2 φ W args.toList hr hl hv
    refine this.mono fun e w' ⟨v, φ', h2, h3, _, h4⟩ => ⟨?_, h4.below⟩
    rw [hK] at h3
    rw [h2, (show v = .bool true from h3)]

omit g in
theorem trod_behind (hl : laidOutB P = true) : ∀ {ts : List TypeId} {vs : List Value} {ds : List (DataW Hh)} {ps : List MemPlace} {W W' : World}, (∀ t ∈ ts, P.readableRec t = true ∧ t < P.types.size) → Below W.heap.size W W' →
    DataW.TrodAll enc P W 0 (fun _ => true) true ts vs ds ps → DataW.TrodAll enc P W' 0 (fun b => decide (b < W.heap.size)) true ts vs ds ps
  | [], vs, ds, ps, W, W', _, _, h => by
    obtain ⟨rfl, rfl, rfl⟩ := trodAll_nil h
    exact trodAll_mk0
  | t :: ts, vs, ds, ps, W, W', hr, hb, h => by
    obtain ⟨v, vs', d, ds', p, q, rfl, rfl, rfl, h1, h2⟩ := trodAll_cons h
    have k0 := h1
    have lt0 : ∀ x ∈ p, x.block < W.heap.size := by obtain ⟨m, hm⟩ := k0; exact DataW.trod_lt m _ _ _ hm
    exact trodAll_cons_mk (Below.trod hl (hr t (by simp)).1 (hr t (by simp)).2 h1 hb lt0) (trod_behind hl (fun u hu => hr u (by simp [hu])) hb h2)
end
/-! ### Tables -/
theorem hr_empty {P : Program} {w : World} : HR P w.heap.size (fun _ => none) ⟨.nil, 0⟩ w := by
  have hn : ∀ b, H.get ⟨.nil, 0⟩ b = none := fun b => rfl
  exact ⟨Nat.le_refl _, fun b k e xs h => (by rw [hn] at h; cases h), fun b b' k k' e e' xs xs' i i' _ h => (by rw [hn] at h; cases h), fun _ _ => rfl, fun b es h => (by rw [hn] at h; cases h)⟩
/-- a closed call that was run by the machine and answered true -/
theorem ext_of_run {P : Program} (g : Good P) {T : Tbl} (hT : TblOK P T) {f : FuncId} {F : AFunc} (hF : T.fn f = some F) {n : Nat} (he : (exec T n [.code F.body] (envOf []) ⟨.nil, 0⟩).map (fun x => resOf x.1 x.2 F.results) = some (some [.bool true])) : ExtOK P f [] [.bool true] := by
  obtain ⟨fn, c, p1, p2, p3, _⟩ := compileFn_parts (hT.fn f F hF)
  refine ⟨⟨fn, c, p1, p2, p3⟩, fun φ w cargs hl _ => ?_⟩
  rw [Option.map_eq_some_iff] at he
  obtain ⟨⟨r1, h1⟩, he, hres⟩ := he
  have := (call_good g hT (base := w.heap.size) hF he hres).2.2 (fun _ => none) w cargs hr_empty hl (by simp)
  refine this.mono fun e w' ⟨v, φ', h2, h3, _, h4⟩ => ⟨v, h2, fun φ => ?_, h4.below⟩
  have h3 : v = .bool true := h3
  rw [h3]
  rfl
theorem te_of {P : Program} {l : List ATy} {n : Nat} (h : l = (List.range n).map (teOf P)) : (fun t => bif Nat.blt t n then l.getD t .other else teOf P t) = teOf P := by
  funext t
  subst h
  cases hb : Nat.blt t n with
  | false => rfl
  | true =>
    have ht : t < n := by simpa [Nat.blt_eq] using hb
    simp only [cond_true]
    rw [List.getD_eq_getElem?_getD, List.getElem?_map, List.getElem?_range ht]
    rfl
theorem fn_of {P : Program} {l : List (FuncId × AFunc)} (h : l.map (fun x => compileFn P x.1) = l.map (fun x => some x.2)) {f : FuncId} {F : AFunc} (hf : (l.find? fun x => x.1 == f).map (·.2) = some F) : compileFn P f = some F := by
  rw [Option.map_eq_some_iff] at hf
  obtain ⟨x, hx, rfl⟩ := hf
  have hm := List.mem_of_find?_eq_some hx
  have he := List.find?_some hx
  simp only [beq_iff_eq] at he
  subst he
  obtain ⟨i, hi, rfl⟩ := List.mem_iff_getElem.1 hm
  have := congrArg (fun m => m[i]?) h
  simpa [List.getElem?_eq_getElem hi] using this
end Go.Dam

namespace Go.Dam

theorem know_set {r : Env} {i : Nat} {v : AV} (h : r i = v) : r.set (some i) v = r := by
  funext j
  simp only [set_at]
  split
  · rename_i hj; subst hj; exact h.symm
  · rfl
theorem wp_loop_of {T : Tbl} {a : ACode} {k : List Item} {r : Env} {h : H} {Q : Env → H → Prop} (hw : Wp T (.inLoop a :: k) r h Q) : Wp T (.code (.loop a) :: k) r h Q := by
  have e1 : Wp T (.inLoop a :: k) r h Q ↔ Wp T (.code a :: .inLoop a :: k) r h Q := Wp.iff fun _ => rfl
  exact wp_loopA (e1.1 hw)

/-! ### heaps -/
/-- one block is another one, all others are as they were -/
def Set1 (h : H) (b : Nat) (x : Blk) (h' : H) : Prop := (∀ y, h'.get y = if y = b then some x else h.get y) ∧ h.next ≤ h'.next
theorem Set1.of {h h' : H} {b : Nat} {x : Blk} (u : Upd h b x h') : Set1 h b x h' := ⟨u.get, Nat.le_of_eq u.next.symm⟩
theorem Set1.then {h h' h2 : H} {b : Nat} {x y : Blk} (u : Set1 h b x h') (v : Upd h' b y h2) : Set1 h b y h2 := ⟨fun z => by rw [v.get, u.1]; split <;> rfl, by rw [v.next]; exact u.2⟩
theorem Set1.refl {h : H} {b : Nat} {x : Blk} (hb : h.get b = some x) : Set1 h b x h := ⟨fun y => by split <;> simp_all, Nat.le_refl _⟩
theorem Set1.bump {h h2 : H} {b n : Nat} {x : Blk} (v : Upd (h.bump n) b x h2) : Set1 h b x h2 := ⟨v.get, by rw [v.next]; exact Nat.le_add_right _ _⟩
theorem Set1.at {h h' : H} {b : Nat} {x : Blk} (u : Set1 h b x h') : h'.get b = some x := by rw [u.1, if_pos rfl]
theorem Set1.ne {h h' : H} {b c : Nat} {x y : Blk} (u : Set1 h b x h') (hc : h.get c = some y) (hn : c ≠ b) : h'.get c = some y := by rw [u.1, if_neg hn]; exact hc
theorem Upd.at {h h' : H} {b : Nat} {x : Blk} (u : Upd h b x h') : h'.get b = some x := by rw [u.get, if_pos rfl]
theorem Upd.ne {h h' : H} {b c : Nat} {x y : Blk} (u : Upd h b x h') (hc : h.get c = some y) (hn : c ≠ b) : h'.get c = some y := by rw [u.get, if_neg hn]; exact hc
theorem New.at {h h' : H} {b : Nat} {x : Blk} (u : New h b x h') : h'.get b = some x := by rw [u.get, if_pos rfl]
theorem New.nx {h h' : H} {x : Blk} (u : New h h.next x h') : h'.next = h.next + 1 := by rw [u.next, if_pos rfl]
theorem New.ne {h h' : H} {b c : Nat} {x y : Blk} (u : New h b x h') (hc : h.get c = some y) (hn : c ≠ b) : h'.get c = some y := by rw [u.get, if_neg hn]; exact hc
theorem Keep.new {h h' h2 : H} {nid : Nat} {x : Blk} (k : Keep h h') (n : New h' nid x h2) (hn : h.next ≤ nid) : Keep h h2 :=
  ⟨by rw [n.next]; have := k.1; split <;> omega, fun b hb => by rw [n.get, if_neg (by omega)]; exact k.2 b hb⟩
theorem Keep.upd {h h' h2 : H} {b : Nat} {x : Blk} (k : Keep h h') (u : Upd h' b x h2) (hb : h.next ≤ b) : Keep h h2 :=
  ⟨by rw [u.next]; exact k.1, fun c hc => by rw [u.get, if_neg (by omega)]; exact k.2 c hc⟩
theorem Keep.to {h h' : H} (u : Keep h h') {c : Nat} {y : Blk} (hc : h.get c = some y) (hn : c < h.next) : h'.get c = some y := by rw [u.2 c hn]; exact hc
theorem Keep.bump (h : H) (n : Nat) : Keep h (h.bump n) := ⟨Nat.le_add_right _ _, fun _ _ => rfl⟩
theorem Keep.unbump {h h' : H} {n : Nat} (k : Keep (h.bump n) h') : Keep h h' := (Keep.bump h n).trans k

/-- all old blocks but these are as they were -/
def Fr (S : Nat → Prop) (h h' : H) : Prop := h.next ≤ h'.next ∧ ∀ c, c < h.next → ¬ S c → h'.get c = h.get c
theorem Fr.refl (S : Nat → Prop) (h : H) : Fr S h h := ⟨Nat.le_refl _, fun _ _ _ => rfl⟩
theorem Fr.trans {S : Nat → Prop} {a b c : H} (h : Fr S a b) (k : Fr S b c) : Fr S a c := ⟨Nat.le_trans h.1 k.1, fun i hi hs => (k.2 i (Nat.lt_of_lt_of_le hi h.1) hs).trans (h.2 i hi hs)⟩
theorem Fr.mono {S S' : Nat → Prop} {a b : H} (h : Fr S a b) (hs : ∀ c, c < a.next → S c → S' c) : Fr S' a b := ⟨h.1, fun c hc hn => h.2 c hc (fun q => hn (hs c hc q))⟩
theorem Fr.then {S S' : Nat → Prop} {a b c : H} (h : Fr S a b) (k : Fr S' b c) (hs : ∀ i, i < a.next → S' i → S i) : Fr S a c := ⟨Nat.le_trans h.1 k.1, fun i hi hn => (k.2 i (Nat.lt_of_lt_of_le hi h.1) (fun q => hn (hs i hi q))).trans (h.2 i hi hn)⟩
theorem Fr.keep {S : Nat → Prop} {a b c : H} (h : Fr S a b) (k : Keep b c) : Fr S a c := ⟨Nat.le_trans h.1 k.1, fun i hi hn => (k.2 i (Nat.lt_of_lt_of_le hi h.1)).trans (h.2 i hi hn)⟩
theorem Fr.bump {S : Nat → Prop} {a b : H} {n : Nat} (h : Fr S a b) : Fr S a (b.bump n) := h.keep (Keep.bump b n)
theorem Fr.new {S : Nat → Prop} {h h' h2 : H} {nid : Nat} {x : Blk} (k : Fr S h h') (n : New h' nid x h2) (hn : h.next ≤ nid) : Fr S h h2 :=
  ⟨by rw [n.next]; have := k.1; split <;> omega, fun b hb hs => by rw [n.get, if_neg (by omega)]; exact k.2 b hb hs⟩
theorem Fr.upd {S : Nat → Prop} {h h' h2 : H} {b : Nat} {x : Blk} (k : Fr S h h') (u : Upd h' b x h2) (hb : S b ∨ h.next ≤ b) : Fr S h h2 :=
  ⟨by rw [u.next]; exact k.1, fun c hc hs => by
    rw [u.get, if_neg (fun e => by rcases hb with hb | hb; exact hs (e ▸ hb); omega)]
    exact k.2 c hc hs⟩
theorem Fr.to {S : Nat → Prop} {h h' : H} (u : Fr S h h') {c : Nat} {y : Blk} (hc : h.get c = some y) (hn : c < h.next) (hs : ¬ S c) : h'.get c = some y := by rw [u.2 c hn hs]; exact hc
theorem Keep.fr {S : Nat → Prop} {h h' : H} (k : Keep h h') : Fr S h h' := ⟨k.1, fun c hc _ => k.2 c hc⟩

/-! ### arguments -/
/-- a row that came in -/
def IsRo (h : H) (v : AV) (e : TypeId) (xs : List AV) : Prop := (v = .nils ∧ xs = []) ∨ ∃ b, v = .slice b [] 0 xs.length e ∧ b < h.next ∧ h.get b = some (.row .ro e xs)
theorem IsRo.keep {h h' : H} {v : AV} {e : TypeId} {xs : List AV} (k : Keep h h') (r : IsRo h v e xs) : IsRo h' v e xs := by
  rcases r with r | ⟨b, h1, h2, h3⟩
  · exact .inl r
  · exact .inr ⟨b, h1, Nat.lt_of_lt_of_le h2 k.1, k.to h3 h2⟩
theorem IsRo.fr {S : Nat → Prop} {h h' : H} {v : AV} {e : TypeId} {xs : List AV} (k : Fr S h h') (r : IsRo h v e xs) (hs : ∀ b k xs, S b → h.get b ≠ some (.row .ro k xs)) : IsRo h' v e xs := by
  rcases r with r | ⟨b, h1, h2, h3⟩
  · exact .inl r
  · exact .inr ⟨b, h1, Nat.lt_of_lt_of_le h2 k.1, k.to h3 h2 (fun q => hs b _ _ q h3)⟩
theorem len_of {te : TypeId → ATy} {r : Env} {nid : Nat} {x : Opnd} {h0 h : H} {e : TypeId} {xs : List AV} {K : AV → H → Prop} (ro : IsRo h0 (x.ev r) e xs) (hK : K (.int .i64 xs.length) h) : optP (evOp te r h nid (.lenS x)) K := by
  rcases ro with ⟨h1, rfl⟩ | ⟨b, h1, _⟩
  · simp only [evOp, h1]; exact hK
  · simp only [evOp, h1]; exact hK
theorem force_of {v : AV} {K : AV → Prop} (hK : K v) : forceA v K := by rw [forceA_eq]; exact hK
theorem IsRo.form {h : H} {v : AV} {e : TypeId} {xs : List AV} (ro : IsRo h v e xs) : v = .nils ∨ ∃ b n, v = .slice b [] 0 n e := by
  rcases ro with ⟨h1, _⟩ | ⟨b, h1, _⟩
  · exact .inl h1
  · exact .inr ⟨b, _, h1⟩
theorem of_map {α : Type} {f : α → AV} {p : α → Prop} {q : AV → Prop} (hq : ∀ x, q x → ∃ y, x = f y ∧ p y) : ∀ {xs : List AV}, (∀ x ∈ xs, q x) → ∃ l : List α, xs = l.map f ∧ ∀ y ∈ l, p y
  | [], _ => ⟨[], rfl, by simp⟩
  | x :: xs, h => by
    obtain ⟨y, rfl, hy⟩ := hq x (h x (by simp))
    obtain ⟨l, h1, hl⟩ := of_map hq (xs := xs) (fun z hz => h z (List.mem_cons_of_mem _ hz))
    subst h1
    exact ⟨y :: l, rfl, by simpa using ⟨hy, hl⟩⟩
/-- a slice that came in -/
theorem slice_arg {α : Type} {f : α → AV} {p : α → Prop} {h : H} {e : TypeId} {s : Shp} {v : AV} (hv : ArgOf h (.slice e s) v) (hq : ∀ x, ArgOf h s x → ∃ y, x = f y ∧ p y) : ∃ l : List α, IsRo h v e (l.map f) ∧ l.length ≤ maxLen ∧ ∀ y ∈ l, p y := by
  rcases hv with rfl | ⟨b, xs, rfl, h1, h2, h3, h4⟩
  · exact ⟨[], .inl ⟨rfl, rfl⟩, by simp, by simp⟩
  · obtain ⟨l, rfl, hl⟩ := of_map hq h4
    exact ⟨l, .inr ⟨b, by simp, h1, h2⟩, by simpa using h3, hl⟩

/-! ### numbers -/
theorem i64_id {a : Int} (h0 : -9223372036854775808 ≤ a) (h1 : a < 9223372036854775808) : IntKind.i64.wrap a = a := by
  simp only [IntKind.wrap, IntKind.signed, IntKind.bits, Bool.true_and]
  split <;> simp_all <;> omega
theorem inc_ok {i : Nat} (h : i < 4611686018427387904) : AV.int .i64 (IntKind.i64.wrap ((i : Int) + 1)) = .int .i64 ((i + 1 : Nat) : Int) := by
  rw [i64_id (by omega) (by omega)]; rfl
theorem dec_congr {p q : Prop} [Decidable p] [Decidable q] (h : p ↔ q) : decide p = decide q := by
  by_cases hp : p
  · rw [decide_eq_true hp, decide_eq_true (h.1 hp)]
  · rw [decide_eq_false hp, decide_eq_false (fun hq => hp (h.2 hq))]
theorem beq_congr {a b c d : Int} (h : a = b ↔ c = d) : (a == b) = (c == d) := by
  by_cases hp : a = b
  · rw [beq_iff_eq.2 hp, beq_iff_eq.2 (h.1 hp)]
  · rw [beq_eq_false_iff_ne.2 hp, beq_eq_false_iff_ne.2 (fun hq => hp (h.2 hq))]
end Go.Dam

namespace Go.Dam

abbrev EL := List (Nat × AV)
def lk (r0 : Env) : EL → Nat → AV
  | [], i => r0 i
  | (j, v) :: l, i => bif Nat.beq i j then v else lk r0 l i
def den (r0 : Env) (E : EL) : Env := fun i => lk r0 E i
def setE (d : Option Nat) (v : AV) (E : EL) : EL := match d with
  | none => E
  | some i => (i, v) :: E
theorem den_set {r0 : Env} {E : EL} {d : Option Nat} {v : AV} : den r0 (setE d v E) = (den r0 E).set d v := by
  cases d with
  | none => rfl
  | some i =>
    funext j
    simp only [den, setE, lk, set_at]
    by_cases h : j = i
    · subst h; simp
    · have : Nat.beq j i = false := by rw [← Bool.not_eq_true, Nat.beq_eq]; exact h
      simp [this, h]
/-- a slot's value, handed on as it stands -/
def lkC (r0 : Env) : EL → Nat → (AV → Prop) → Prop
  | [], i, K => K (r0 i)
  | (j, v) :: l, i, K => bif Nat.beq i j then K v else lkC r0 l i K
theorem lkC_eq {r0 : Env} {i : Nat} {K : AV → Prop} : ∀ {E : EL}, lkC r0 E i K = K (den r0 E i)
  | [] => rfl
  | (j, v) :: l => by
    simp only [lkC, den, lk]
    cases Nat.beq i j with
    | true => rfl
    | false => exact lkC_eq (E := l)
def ldC (r0 : Env) (E : EL) : Opnd → (AV → Prop) → Prop
  | .t i, K => lkC r0 E i K
  | .c v, K => K v
theorem ldC_eq {r0 : Env} {E : EL} {K : AV → Prop} : ∀ {x : Opnd}, ldC r0 E x K = K (x.ev (den r0 E))
  | .t _ => lkC_eq
  | .c _ => rfl
def ldL (r0 : Env) (E : EL) : List Opnd → (List AV → Prop) → Prop
  | [], K => K []
  | x :: l, K => ldC r0 E x fun v => ldL r0 E l fun vs => K (v :: vs)
theorem ldL_eq {r0 : Env} {E : EL} : ∀ {l : List Opnd} {K : List AV → Prop}, ldL r0 E l K = K (l.map (Opnd.ev (den r0 E)))
  | [], _ => rfl
  | x :: l, K => by simp only [ldL, ldC_eq, ldL_eq, List.map_cons]
def ldP (r0 : Env) (E : EL) : List (Nat × Opnd) → (List (Nat × AV) → Prop) → Prop
  | [], K => K []
  | (i, x) :: l, K => ldC r0 E x fun v => ldP r0 E l fun vs => K ((i, v) :: vs)
theorem ldP_eq {r0 : Env} {E : EL} : ∀ {l : List (Nat × Opnd)} {K : List (Nat × AV) → Prop}, ldP r0 E l K = K (l.map fun (i, x) => (i, x.ev (den r0 E)))
  | [], _ => rfl
  | (i, x) :: l, K => by simp only [ldP, ldC_eq, ldP_eq, List.map_cons]

/-- a slice's length -/
def lenIs (v : AV) (n : Nat) : Prop := (v = .nils ∧ n = 0) ∨ ∃ b p o e, v = .slice b p o n e
theorem lenIs_nils : lenIs .nils 0 := .inl ⟨rfl, rfl⟩
theorem lenIs_slice {b : Nat} {p : List Nat} {o n : Nat} {e : TypeId} : lenIs (.slice b p o n e) n := .inr ⟨_, _, _, _, rfl⟩
/-- a bound of a slice expression -/
def bdC (r0 : Env) (E : EL) (o : Option Opnd) (d : Nat) (K : Nat → Prop) : Prop := match o with
  | none => K d
  | some x => ldC r0 E x fun v => match v with
    | .int _ a => ∃ n : Nat, a = n ∧ K n
    | _ => False
theorem bdC_of {r0 : Env} {E : EL} {o : Option Opnd} {d : Nat} {K : Nat → Prop} (hw : bdC r0 E o d K) : ∃ n, bound (den r0 E) o d = some n ∧ K n := by
  cases o with
  | none => exact ⟨d, rfl, hw⟩
  | some x =>
    simp only [bdC, ldC_eq] at hw
    split at hw <;> try (exact hw.elim)
    rename_i k a hx
    obtain ⟨n, rfl, hk⟩ := hw
    exact ⟨n, by simp [bound, hx], hk⟩

inductive AppP (e : TypeId) (s : Bool) (lim : Nat) (h : H) (x y : AV) (K : AV → H → Prop) : Prop where
  | intro (v : AV) (h1 : H) (he : appendV e s lim h x y = some (v, h1)) (hk : K v h1)
inductive CopyP (e : TypeId) (s : Bool) (h : H) (x y : AV) (K : AV → H → Prop) : Prop where
  | intro (v : AV) (h1 : H) (he : copyV e s h x y = some (v, h1)) (hk : K v h1)
inductive SliceP (e : TypeId) (h : H) (v : AV) (l : Nat) (hi : Nat → Option Nat) (K : AV → H → Prop) : Prop where
  | nil (hv : v = .nils) (hl : l = 0) (hh : hi 0 = some 0) (hk : K .nils h)
  | row (b : Nat) (p : List Nat) (off n u off' len' : Nat) (hv : v = .slice b p off n e) (hh : hi n = some u) (h1 : l ≤ u) (h2 : u ≤ n) (h3 : off' = off + l) (h4 : len' = u - l) (hk : K (.slice b p off' len' e) h)

/-- a reckoning: the number is what the taker says, if that is so -/
def numC (k : IntKind) (a : Int) (K : AV → Prop) : Prop := ∃ c, a = c ∧ K (.int k c)
def binC (op : BinOp) (v w : AV) (K : AV → Prop) : Prop := match v, w with
  | .int k a, .int k' b => match op with
    | .add => bif decide (k = k') then numC k (k.wrap (a + b)) K else False
    | .sub => bif decide (k = k') then numC k (k.wrap (a - b)) K else False
    | .mul => bif decide (k = k') then numC k (k.wrap (a * b)) K else False
    | .quo => bif decide (k = k') then b ≠ 0 ∧ numC k (k.wrap (a.tdiv b)) K else False
    | .rem => bif decide (k = k') then b ≠ 0 ∧ numC k (a.tmod b) K else False
    | .and => bif decide (k = k') then numC k (k.wrap (BitVec.ofInt k.bits a &&& BitVec.ofInt k.bits b).toNat) K else False
    | .or => bif decide (k = k') then numC k (k.wrap (BitVec.ofInt k.bits a ||| BitVec.ofInt k.bits b).toNat) K else False
    | .xor => bif decide (k = k') then numC k (k.wrap (BitVec.ofInt k.bits a ^^^ BitVec.ofInt k.bits b).toNat) K else False
    | .andNot => bif decide (k = k') then numC k (k.wrap (BitVec.ofInt k.bits a &&& ~~~BitVec.ofInt k.bits b).toNat) K else False
    | .shl => ¬ b < 0 ∧ numC k (k.wrap (a * 2 ^ (min b.toNat k.bits))) K
    | .shr => ¬ b < 0 ∧ numC k (a.fdiv (2 ^ (min b.toNat k.bits))) K
    | .eql => bif decide (k = k') then K (.bool (a == b)) else False
    | .neq => bif decide (k = k') then K (.bool (a != b)) else False
    | .lss => bif decide (k = k') then K (.bool (decide (a < b))) else False
    | .leq => bif decide (k = k') then K (.bool (decide (a ≤ b))) else False
    | .gtr => bif decide (k = k') then K (.bool (decide (a > b))) else False
    | .geq => bif decide (k = k') then K (.bool (decide (a ≥ b))) else False
  | v, w => optW (binV op v w) K
theorem bif_and {c : Bool} {A : Prop} (h : bif c then A else False) : c = true ∧ A := by cases c <;> first | exact h.elim | exact ⟨rfl, h⟩
theorem binC_of {op : BinOp} {v w : AV} {K : AV → Prop} (h : binC op v w K) : ∃ u, binV op v w = some u ∧ K u := by
  unfold binC at h
  split at h
  · rename_i k a k' b
    cases op <;> simp only at h
    case shl => obtain ⟨h0, c, rfl, h⟩ := h; exact ⟨_, by simp only [binV, shI, h0, if_false], h⟩
    case shr => obtain ⟨h0, c, rfl, h⟩ := h; exact ⟨_, by simp only [binV, shI, h0, if_false], h⟩
    case quo => obtain ⟨hk, h0, c, rfl, h⟩ := bif_and h; exact ⟨_, by simp only [binV, of_decide_eq_true hk, if_true, binI, h0, if_false], h⟩
    case rem => obtain ⟨hk, h0, c, rfl, h⟩ := bif_and h; exact ⟨_, by simp only [binV, of_decide_eq_true hk, if_true, binI, h0, if_false], h⟩
    all_goals first
      | (obtain ⟨hk, c, rfl, h2⟩ := bif_and h; have hk := of_decide_eq_true hk; subst hk; exact ⟨_, by simp only [binV, if_true, binI], h2⟩)
      | (obtain ⟨hk, h2⟩ := bif_and h; have hk := of_decide_eq_true hk; subst hk; exact ⟨_, by simp only [binV, if_true, binI], h2⟩)
  · exact optW_some h

/-- one operation, without its guard -/
def opC (T : Tbl) (r0 : Env) (E : EL) (h : H) (nid : Nat) (op : AOp) (K : AV → H → Prop) : Prop := match op with
  | .move x => ldC r0 E x fun v => K v h
  | .pick c a b => ldC r0 E c fun v => match v with
    | .bool t => sel t (ldC r0 E a fun v => K v h) (ldC r0 E b fun v => K v h)
    | _ => False
  | .call f as => ldL r0 E as fun xs => Cw T f xs h K
  | .callv x as => ldC r0 E x fun v => match v with
    | .fn f a c => ldL r0 E as fun xs => Cw T f (a ++ xs ++ c) h K
    | _ => False
  | .load t x => ldC r0 E x fun v => match v with
    | .ptr b p t' => bif t' == t then readW h b p fun v => K v h else False
    | _ => False
  | .store t k a x => ldC r0 E a fun va => match va with
    | .ptr b p t' => bif t' == t then ldC r0 E x fun v => k.ok v = true ∧ writeW h b p v fun h' => K undefA h' else False
    | _ => False
  | .alloc e => newW h nid (.row .fixed e [zeroOf T.te zeroFuel e]) (K (.ptr nid [0] e))
  | .box e k x => ldC r0 E x fun v => k.ok v = true ∧ newW h nid (.row .fixed e [v]) (K (.ptr nid [0] e))
  | .build t ps => ldP r0 E ps fun ys => match zeroOf T.te zeroFuel t with
    | .agg t' zs => optW (fillA zs ys) fun y => K (.agg t' y) h
    | _ => False
  | .fieldAddr s f t x => ldC r0 E x fun v => match v with
    | .ptr b p s' => bif s' == s then K (.ptr b (f :: p) t) h else False
    | _ => False
  | .field s f x => ldC r0 E x fun v => match v with
    | .agg s' xs => bif s' == s then optW (xs[f]?) fun v => K v h else False
    | _ => False
  | .extract i x => ldC r0 E x fun v => match v with
    | .tup xs => optW (xs[i]?) fun v => K v h
    | _ => False
  | .idxA n a e x i => ldC r0 E x fun v => ldC r0 E i fun w => match v, w with
    | .ptr b p a', .int _ j => bif a' == a then ∃ j' : Nat, j = j' ∧ j' < n ∧ K (.ptr b (j' :: p) e) h else False
    | _, _ => False
  | .idxS e x i => ldC r0 E x fun v => ldC r0 E i fun w => match w with
    | .int _ j => ∃ b p off n, ∃ j' m : Nat, v = .slice b p off n e ∧ j = j' ∧ j' < n ∧ m = off + j' ∧ K (.ptr b (m :: p) e) h
    | _ => False
  | .idxV n a x i => ldC r0 E x fun v => ldC r0 E i fun w => match v, w with
    | .agg a' xs, .int _ j => bif a' == a then ∃ j' : Nat, j = j' ∧ j' < n ∧ optW (xs[j']?) fun v => K v h else False
    | _, _ => False
  | .lenS x => ldC r0 E x fun v => ∃ n : Nat, lenIs v n ∧ K (.int .i64 n) h
  | .bin op x y => ldC r0 E x fun v => ldC r0 E y fun w => binC op v w fun u => K u h
  | .conv k x => ldC r0 E x fun v => match v with
    | .int _ n => numC k (k.wrap n) fun u => K u h
    | _ => False
  | .mkSlice e lim l c => ldC r0 E l fun v => ldC r0 E c fun w => match v, w with
    | .int _ a, .int _ b => ∃ n m : Nat, a = n ∧ b = m ∧ n ≤ m ∧ m ≤ lim ∧ newW h nid (.row .fixed e (List.replicate m (zeroOf T.te zeroFuel e))) (K (.slice nid [] 0 n e))
    | _, _ => False
  | .sliceA n t e x lo hi => ldC r0 E x fun v => match v with
    | .ptr b p t' => bif t' == t then bdC r0 E lo 0 fun l => bdC r0 E hi n fun u => ∃ len', l ≤ u ∧ u ≤ n ∧ len' = u - l ∧ K (.slice b p l len' e) h else False
    | _ => False
  | .sliceS e x lo hi => ldC r0 E x fun v => bdC r0 E lo 0 fun l => SliceP e h v l (bound (den r0 E) hi) K
  | .append e s lim x y => ldC r0 E x fun v => ldC r0 E y fun w => AppP e s lim h v w K
  | .copy e s x y => ldC r0 E x fun v => ldC r0 E y fun w => CopyP e s h v w K
  | .buildSlice e n ps => ldP r0 E ps fun ys => optW (fillA (List.replicate n (zeroOf T.te zeroFuel e)) ys) fun zs => newW h nid (.row .fixed e zs) (K (.slice nid [] 0 n e))
  | .eqv neg k x y => ldC r0 E x fun v => ldC r0 E y fun w => optW (eqV k v w) fun b => match neg with
    | true => K (.bool (!b)) h
    | false => K (.bool b) h
  | .minmax mx x y => ldC r0 E x fun v => ldC r0 E y fun w => match v, w with
    | .int k a, .int k' b => bif decide (k = k') then (match mx with
      | true => numC k (if b > a then b else a) fun u => K u h
      | false => numC k (if b < a then b else a) fun u => K u h) else False
    | _, _ => False
  | op => optP (evOp T.te (den r0 E) h nid op) K

theorem opC_of {T : Tbl} {r0 : Env} {E : EL} {op : AOp} {h : H} {nid : Nat} {K : AV → H → Prop} {d : Option Nat} (hw : opC T r0 E h nid op K) : Ow T ⟨d, op, none⟩ (den r0 E) h nid K := by
  have pure : op.isCall = false → (∃ x, evOp T.te (den r0 E) h nid op = some x ∧ K x.1 x.2) → Ow T ⟨d, op, none⟩ (den r0 E) h nid K := fun hc hx => (ow_pure hc).2 hx
  cases op <;> simp only [opC, ldC_eq] at hw
  case call f as => rw [ldL_eq] at hw; exact ow_call.2 hw
  case callv x as =>
    split at hw <;> try (exact hw.elim)
    rename_i f a c hx
    rw [ldL_eq] at hw
    simp only [Ow, wantedA, AOp.isCall, if_true, callOf, hx]
    exact ⟨_, _, rfl, hw⟩
  case move x => exact pure rfl ⟨_, rfl, hw⟩
  case pick c a b =>
    refine pure rfl ?_
    split at hw <;> try (exact hw.elim)
    rename_i t ht
    simp only [evOp, ht]
    rcases sel_of hw with ⟨rfl, h1⟩ | ⟨rfl, h1⟩
    · exact ⟨_, rfl, h1⟩
    · exact ⟨_, rfl, h1⟩
  case load t x =>
    refine pure rfl ?_
    split at hw <;> try (exact hw.elim)
    rename_i b p t' ht
    obtain ⟨htt, hw⟩ := bif_and hw
    have htt : t' = t := by simpa using htt
    obtain ⟨v, h1, h2⟩ := readW_of hw
    simp only [evOp, ht, htt, if_true, h1]
    exact ⟨_, rfl, h2⟩
  case store t k a x =>
    refine pure rfl ?_
    split at hw <;> try (exact hw.elim)
    rename_i b p t' ht
    obtain ⟨htt, hw⟩ := bif_and hw
    have htt : t' = t := by simpa using htt
    obtain ⟨v, h1, h2⟩ := writeW_of hw.2
    simp only [evOp, ht, htt, hw.1, and_self, if_true, h1]
    exact ⟨_, rfl, h2⟩
  case alloc e => exact pure rfl ⟨_, rfl, hw _ New.of⟩
  case box e k x =>
    refine pure rfl ?_
    simp only [evOp, hw.1, if_true]
    exact ⟨_, rfl, hw.2 _ New.of⟩
  case build t ps =>
    refine pure rfl ?_
    rw [ldP_eq] at hw
    split at hw <;> try (exact hw.elim)
    rename_i t' zs ht
    obtain ⟨v, h1, h2⟩ := optW_some hw
    simp only [evOp, ht, h1]
    exact ⟨_, rfl, h2⟩
  case fieldAddr s f t x =>
    refine pure rfl ?_
    split at hw <;> try (exact hw.elim)
    rename_i b p s' hx
    obtain ⟨htt, hw⟩ := bif_and hw
    have htt : s' = s := by simpa using htt
    simp only [evOp, hx, htt, if_true]
    exact ⟨_, rfl, hw⟩
  case field s f x =>
    refine pure rfl ?_
    split at hw <;> try (exact hw.elim)
    rename_i s' xs hx
    obtain ⟨htt, hw⟩ := bif_and hw
    have htt : s' = s := by simpa using htt
    obtain ⟨v, h1, h2⟩ := optW_some hw
    simp only [evOp, hx, htt, if_true, h1]
    exact ⟨_, rfl, h2⟩
  case extract i x =>
    refine pure rfl ?_
    split at hw <;> try (exact hw.elim)
    rename_i xs hx
    obtain ⟨v, h1, h2⟩ := optW_some hw
    simp only [evOp, hx, h1]
    exact ⟨_, rfl, h2⟩
  case idxA n a e x i =>
    refine pure rfl ?_
    split at hw <;> try (exact hw.elim)
    rename_i b p a' k j hx hi
    obtain ⟨htt, j', rfl, hj, hw⟩ := bif_and hw
    have htt : a' = a := by simpa using htt
    simp only [evOp, hx, hi]
    rw [if_pos ⟨htt, by omega, by omega⟩]
    exact ⟨_, rfl, by simpa using hw⟩
  case idxS e x i =>
    refine pure rfl ?_
    split at hw <;> try (exact hw.elim)
    rename_i k j hi
    obtain ⟨b, p, off, n, j', m, hx, rfl, hj, rfl, hw⟩ := hw
    simp only [evOp, hx, hi]
    rw [if_pos ⟨trivial, by omega, by omega⟩]
    exact ⟨_, rfl, by simpa using hw⟩
  case idxV n a x i =>
    refine pure rfl ?_
    split at hw <;> try (exact hw.elim)
    rename_i a' xs k j hx hi
    obtain ⟨htt, j', rfl, hj, hw⟩ := bif_and hw
    have htt : a' = a := by simpa using htt
    obtain ⟨v, h1, h2⟩ := optW_some hw
    simp only [evOp, hx, hi]
    rw [if_pos ⟨htt, by omega, by omega⟩]
    simp only [Int.toNat_natCast, h1]
    exact ⟨_, rfl, h2⟩
  case lenS x =>
    refine pure rfl ?_
    obtain ⟨n, hn, hw⟩ := hw
    rcases hn with ⟨h1, rfl⟩ | ⟨b, p, o, e, h1⟩
    · simp only [evOp, h1]; exact ⟨_, rfl, hw⟩
    · simp only [evOp, h1]; exact ⟨_, rfl, hw⟩
  case bin op x y =>
    refine pure rfl ?_
    obtain ⟨u, h1, h2⟩ := binC_of hw
    simp only [evOp, h1]
    exact ⟨_, rfl, h2⟩
  case buildSlice e n ps =>
    refine pure rfl ?_
    rw [ldP_eq] at hw
    obtain ⟨zs, h1, hw⟩ := optW_some hw
    simp only [evOp, h1]
    exact ⟨_, rfl, hw _ New.of⟩
  case eqv neg k x y =>
    refine pure rfl ?_
    obtain ⟨b, h1, hw⟩ := optW_some hw
    simp only [evOp, h1]
    cases neg
    · exact ⟨_, rfl, hw⟩
    · exact ⟨_, rfl, hw⟩
  case minmax mx x y =>
    refine pure rfl ?_
    split at hw <;> try (exact hw.elim)
    rename_i k a k' b hx hy
    obtain ⟨hk, hw⟩ := bif_and hw
    have hk := of_decide_eq_true hk
    simp only [evOp, hx, hy, hk, if_true]
    cases mx
    · obtain ⟨c, rfl, hw⟩ := hw
      rw [hk] at hw
      exact ⟨_, rfl, hw⟩
    · obtain ⟨c, rfl, hw⟩ := hw
      rw [hk] at hw
      exact ⟨_, rfl, hw⟩
  case conv k x =>
    refine pure rfl ?_
    split at hw <;> try (exact hw.elim)
    rename_i k' n hx
    obtain ⟨c, rfl, hw⟩ := hw
    simp only [evOp, hx]
    exact ⟨_, rfl, hw⟩
  case mkSlice e lim l c =>
    refine pure rfl ?_
    split at hw <;> try (exact hw.elim)
    rename_i k1 a k2 b hx hi
    obtain ⟨n, m, rfl, rfl, h1, h2, hw⟩ := hw
    simp only [evOp, hx, hi]
    rw [if_pos ⟨by omega, by omega, by omega⟩]
    exact ⟨_, rfl, by simpa using hw _ New.of⟩
  case sliceA n t e x lo hi =>
    refine pure rfl ?_
    split at hw <;> try (exact hw.elim)
    rename_i b p t' hx
    obtain ⟨htt, hw⟩ := bif_and hw
    have htt : t' = t := by simpa using htt
    obtain ⟨l, h1, hw⟩ := bdC_of hw
    obtain ⟨u, h2, len', h3, h4, rfl, hw⟩ := bdC_of hw
    simp only [evOp, hx, h1, h2]
    rw [if_pos ⟨htt, h3, h4⟩]
    exact ⟨_, rfl, hw⟩
  case sliceS e x lo hi =>
    refine pure rfl ?_
    obtain ⟨l, h1, hw⟩ := bdC_of hw
    cases hw with
    | nil hv hl hh hk =>
      subst hl
      simp only [evOp, hv, h1, hh]
      exact ⟨_, rfl, hk⟩
    | row b p off n u off' len' hv hh h2 h3 h4 h5 hk =>
      subst h4 h5
      simp only [evOp, hv, h1, hh]
      rw [if_pos ⟨trivial, h2, h3⟩]
      exact ⟨_, rfl, hk⟩
  case append e s lim x y =>
    obtain ⟨v, h1, he, hk⟩ := hw
    exact pure rfl ⟨(v, h1), he, hk⟩
  case copy e s x y =>
    obtain ⟨v, h1, he, hk⟩ := hw
    exact pure rfl ⟨(v, h1), he, hk⟩
  all_goals exact pure rfl (optP_some hw)
end Go.Dam
namespace Go.Dam

/-- an operation of a drawn region that isn't wanted -/
def offC (op : AOp) (conf : List Nat) (te : TypeId → ATy) (h : H) (rd : List (Nat × AOp × Env × AV)) (K : List (Nat × H) → Prop) (i : Nat) (ef : List (Nat × H)) : Prop := offX op conf te h rd K i ef

def knowE (c : Opnd) (y : Bool) (E : EL) : EL := match c with
  | .t i => (i, .bool y) :: E
  | .c _ => E
theorem knowE_eq {r0 : Env} {E : EL} {c : Opnd} {y : Bool} (h : c.ev (den r0 E) = .bool y) : den r0 (knowE c y E) = den r0 E := by
  cases c with
  | c v => rfl
  | t i =>
    show den r0 (setE (some i) (.bool y) E) = _
    rw [den_set]
    exact know_eq (c := .t i) h

/-- what must hold, up to loops and calls, and the rest of the road: one step -/
def qxStep (T : Tbl) (r0 : Env) (k0 : List Item) (Q : Env → H → Prop) (ih : List Item → EL → H → Prop) : List Item → EL → H → Prop
  | [], E, h => Wp T k0 (den r0 E) h Q
  | .code .skip :: k, E, h => ih k E h
  | .code (.reg ops) :: k, E, h => ih (.ops ops :: k) E h
  | .code (.draw ops) :: k, E, h => ih (.dops h.next 0 ops [] [] :: k) E (h.bump ops.length)
  | .code (.seq a b) :: k, E, h => ih (.code a :: .code b :: k) E h
  | .code (.cond c a b) :: k, E, h => ldC r0 E c fun v => match v with
    | .bool t => sel t (ih (.code a :: k) (knowE c true E) h) (ih (.code b :: k) (knowE c false E) h)
    | _ => False
  | .code (.block id a) :: k, E, h => ih (.code a :: .inBlock id :: k) E h
  | .code (.loop a) :: k, E, h => Wp T (.code (.loop a) :: (k ++ k0)) (den r0 E) h Q
  | .code (.exit id) :: k, E, h => match exitA id k with
    | some k' => ih k' E h
    | none => Wp T (.code (.exit id) :: k0) (den r0 E) h Q
  | .code (.scope a) :: k, E, h => ih (.code a :: k) E h
  | .code .ret :: _, E, h => Q (den r0 E) h
  | .inBlock _ :: k, E, h => ih k E h
  | .inLoop a :: k, E, h => Wp T (.inLoop a :: (k ++ k0)) (den r0 E) h Q
  | .ops [] :: k, E, h => ih k E h
  | .ops (⟨d, op, none⟩ :: l) :: k, E, h => opC T r0 E h h.next op fun v h' => ih (.ops l :: k) (setE d v E) h'
  | .ops (⟨d, _, some (none, _)⟩ :: l) :: k, E, h => ih (.ops l :: k) (setE d undefA E) h
  | .ops (⟨d, op, some (some g, true)⟩ :: l) :: k, E, h => lkC r0 E g fun v => match v with
    | .bool t => sel t (ih (.ops (⟨d, op, none⟩ :: l) :: k) (knowE (.t g) true E) h) (ih (.ops l :: k) (setE d undefA (knowE (.t g) false E)) h)
    | _ => ih (.ops l :: k) (setE d undefA E) h
  | .ops (⟨d, op, some (some g, false)⟩ :: l) :: k, E, h => lkC r0 E g fun v => match v with
    | .bool t => sel t (ih (.ops l :: k) (setE d undefA (knowE (.t g) true E)) h) (ih (.ops (⟨d, op, none⟩ :: l) :: k) (knowE (.t g) false E) h)
    | _ => ih (.ops l :: k) (setE d undefA E) h
  | .dops _ _ [] _ _ :: k, E, h => ih k E h
  | .dops b i ((⟨d, op, none⟩, conf) :: l) rd ef :: k, E, h => opC T r0 E h (b + i) op fun v h' =>
      if op.effect = true then disW T.te conf h' (ih (.dops b (i + 1) l rd ((i, h) :: ef) :: k) (setE d v E) h') rd
      else if op.reads = true then unmW T.te conf (den r0 E) op v (ih (.dops b (i + 1) l ((i, op, den r0 E, v) :: rd) ef :: k) (setE d v E) h') ef
      else ih (.dops b (i + 1) l rd ef :: k) (setE d v E) h'
  | .dops b i ((⟨d, op, some (none, _)⟩, conf) :: l) rd ef :: k, E, h => offX op conf T.te h rd (fun ef' => ih (.dops b (i + 1) l rd ef' :: k) (setE d undefA E) h) i ef
  | .dops b i ((⟨d, op, some (some g, true)⟩, conf) :: l) rd ef :: k, E, h => lkC r0 E g fun v => match v with
    | .bool t => sel t (ih (.dops b i ((⟨d, op, none⟩, conf) :: l) rd ef :: k) (knowE (.t g) true E) h) (offX op conf T.te h rd (fun ef' => ih (.dops b (i + 1) l rd ef' :: k) (setE d undefA (knowE (.t g) false E)) h) i ef)
    | _ => offX op conf T.te h rd (fun ef' => ih (.dops b (i + 1) l rd ef' :: k) (setE d undefA E) h) i ef
  | .dops b i ((⟨d, op, some (some g, false)⟩, conf) :: l) rd ef :: k, E, h => lkC r0 E g fun v => match v with
    | .bool t => sel t (offX op conf T.te h rd (fun ef' => ih (.dops b (i + 1) l rd ef' :: k) (setE d undefA (knowE (.t g) true E)) h) i ef) (ih (.dops b i ((⟨d, op, none⟩, conf) :: l) rd ef :: k) (knowE (.t g) false E) h)
    | _ => offX op conf T.te h rd (fun ef' => ih (.dops b (i + 1) l rd ef' :: k) (setE d undefA E) h) i ef
/-- so many steps -/
noncomputable def Qx (T : Tbl) (r0 : Env) (k0 : List Item) (Q : Env → H → Prop) (n : Nat) : List Item → EL → H → Prop :=
  Nat.rec (motive := fun _ => List Item → EL → H → Prop) (fun items E h => Wp T (items ++ k0) (den r0 E) h Q) (fun _ ih => qxStep T r0 k0 Q ih) n

theorem exitA_app {id : Nat} {k0 : List Item} : ∀ {k : List Item}, exitA id (k ++ k0) = match exitA id k with | some k' => some (k' ++ k0) | none => exitA id k0
  | [] => rfl
  | i :: k => by
    cases i with
    | inBlock j =>
      simp only [List.cons_append, exitA]
      split
      · rfl
      · exact exitA_app (k := k)
    | _ => exact exitA_app (k := k)
theorem wp_exit_app {T : Tbl} {id : Nat} {k k0 : List Item} {r : Env} {h : H} {Q : Env → H → Prop} (he : exitA id k = none) (hw : Wp T (.code (.exit id) :: k0) r h Q) : Wp T (.code (.exit id) :: (k ++ k0)) r h Q := by
  obtain ⟨k', h1, h2⟩ := e_exit.1 hw
  refine wp_exitA ?_ h2
  rw [exitA_app, he]
  exact h1

theorem qx_sound (T : Tbl) (r0 : Env) (k0 : List Item) (Q : Env → H → Prop) : ∀ (n : Nat) (items : List Item) (E : EL) (h : H), Qx T r0 k0 Q n items E h → Wp T (items ++ k0) (den r0 E) h Q := by
  intro n
  induction n with
  | zero => intro items E h hp; exact hp
  | succ n ih =>
    intro items E h hp
    have hp : qxStep T r0 k0 Q (Qx T r0 k0 Q n) items E h := hp
    unfold qxStep at hp
    split at hp
    · exact hp
    · exact wp_skipA (ih _ _ _ hp)
    · exact wp_reg (ih _ _ _ hp)
    · exact wp_draw (ih _ _ _ hp)
    · exact wp_seqA (ih _ _ _ hp)
    · rw [ldC_eq] at hp
      split at hp <;> try (exact hp.elim)
      rename_i t ht
      rcases sel_of hp with ⟨rfl, h1⟩ | ⟨rfl, h1⟩
      · have := ih _ _ _ h1
        rw [knowE_eq ht] at this
        exact wp_condA ht this
      · have := ih _ _ _ h1
        rw [knowE_eq ht] at this
        exact wp_condA ht this
    · exact wp_blockA (ih _ _ _ hp)
    · exact hp
    · split at hp
      · rename_i k' hk
        have he := exitA_app (id := _) (k0 := k0) (k := _) |>.trans (by rw [hk])
        exact wp_exitA he (ih _ _ _ hp)
      · rename_i hk
        exact wp_exit_app hk hp
    · exact wp_scopeA (ih _ _ _ hp)
    · exact wp_retA hp
    · exact wp_inBlock (ih _ _ _ hp)
    · exact hp
    · exact wp_ops_nil (ih _ _ _ hp)
    · refine wp_ops (Ow.mono (opC_of hp) fun v h' hq => ?_)
      have := ih _ _ _ hq
      rw [den_set] at this
      exact this
    · refine wp_ops_unwanted rfl ?_
      have := ih _ _ _ hp
      rw [den_set] at this
      exact this
    · rename_i d op g l k _
      rw [lkC_eq] at hp
      split at hp
      rotate_left
      · rename_i hnb
        have := ih _ _ _ hp
        rw [den_set] at this
        exact wp_ops_unwanted (wanted_no hnb) this
      rename_i t ht
      rcases sel_of hp with ⟨rfl, h1⟩ | ⟨rfl, h1⟩
      · have := ih _ _ _ h1
        rw [knowE_eq (c := .t g) ht] at this
        exact wp_ops_guard ht (fun _ => this) (fun hne => absurd rfl hne)
      · have := ih _ _ _ h1
        rw [den_set, knowE_eq (c := .t g) ht] at this
        exact wp_ops_guard ht (fun he => by cases he) (fun _ => this)
    · rename_i d op g l k _
      rw [lkC_eq] at hp
      split at hp
      rotate_left
      · rename_i hnb
        have := ih _ _ _ hp
        rw [den_set] at this
        exact wp_ops_unwanted (wanted_no hnb) this
      rename_i t ht
      rcases sel_of hp with ⟨rfl, h1⟩ | ⟨rfl, h1⟩
      · have := ih _ _ _ h1
        rw [den_set, knowE_eq (c := .t g) ht] at this
        exact wp_ops_guard ht (fun he => by cases he) (fun _ => this)
      · have := ih _ _ _ h1
        rw [knowE_eq (c := .t g) ht] at this
        exact wp_ops_guard ht (fun _ => this) (fun hne => absurd rfl hne)
    · exact wp_dops_nil (ih _ _ _ hp)
    · rename_i d op conf l rd ef k _
      refine wp_dops (Ow.mono (opC_of hp) fun v h' hq => ?_)
      by_cases he : op.effect = true
      · rw [if_pos he] at hq ⊢
        have h1 := disW_of hq
        have h2 := ih _ _ _ h1.2
        rw [den_set] at h2
        exact ⟨h1.1, h2⟩
      · rw [if_neg he] at hq ⊢
        by_cases hr : op.reads = true
        · rw [if_pos hr] at hq
          rw [if_pos (by simp only [hr, wantedA, Bool.and_self])]
          have h1 := unmW_of hq
          have h2 := ih _ _ _ h1.2
          rw [den_set] at h2
          exact ⟨h1.1, h2⟩
        · rw [if_neg hr] at hq
          rw [if_neg (by simp only [wantedA, Bool.and_true]; exact hr)]
          have h2 := ih _ _ _ hq
          rw [den_set] at h2
          exact h2
    · refine wp_dops_unwanted rfl (offX_mono hp fun ef' hq => ?_)
      have h2 := ih _ _ _ hq
      rw [den_set] at h2
      exact h2
    · rename_i d op g conf l rd ef k _
      rw [lkC_eq] at hp
      split at hp
      rotate_left
      · rename_i hnb
        refine wp_dops_unwanted (wanted_no hnb) (offX_mono hp fun ef' hq => ?_)
        have h2 := ih _ _ _ hq
        rw [den_set] at h2
        exact h2
      rename_i t ht
      rcases sel_of hp with ⟨rfl, h1⟩ | ⟨rfl, h1⟩
      · have := ih _ _ _ h1
        rw [knowE_eq (c := .t g) ht] at this
        exact wp_dops_wanted (wanted_is ht) this
      · refine wp_dops_unwanted (wanted_not ht (by simp)) (offX_mono h1 fun ef' hq => ?_)
        have h2 := ih _ _ _ hq
        rw [den_set, knowE_eq (c := .t g) ht] at h2
        exact h2
    · rename_i d op g conf l rd ef k _
      rw [lkC_eq] at hp
      split at hp
      rotate_left
      · rename_i hnb
        refine wp_dops_unwanted (wanted_no hnb) (offX_mono hp fun ef' hq => ?_)
        have h2 := ih _ _ _ hq
        rw [den_set] at h2
        exact h2
      rename_i t ht
      rcases sel_of hp with ⟨rfl, h1⟩ | ⟨rfl, h1⟩
      · refine wp_dops_unwanted (wanted_not ht (by simp)) (offX_mono h1 fun ef' hq => ?_)
        have h2 := ih _ _ _ hq
        rw [den_set, knowE_eq (c := .t g) ht] at h2
        exact h2
      · have := ih _ _ _ h1
        rw [knowE_eq (c := .t g) ht] at this
        exact wp_dops_wanted (wanted_is ht) this

/-- the results -/
def RetP (r : Env) (h : H) : List ARes → (List AV → Prop) → Prop
  | [], K => K []
  | .tmp t :: l, K => ∃ v, r t = v ∧ v.isTup = false ∧ RetP r h l fun vs => K (v :: vs)
  | .cell t ty :: l, K => ∃ b p v, r t = .ptr b p ty ∧ h.read b p = some v ∧ RetP r h l fun vs => K (v :: vs)
theorem RetP_of {r : Env} {h : H} : ∀ {rs : List ARes} {K : List AV → Prop}, RetP r h rs K → ∃ vs, resOf r h rs = some vs ∧ K vs
  | [], _, hw => ⟨[], rfl, hw⟩
  | .tmp t :: l, K, hw => by
    obtain ⟨v, rfl, h1, hw⟩ := hw
    obtain ⟨vs, h2, h3⟩ := RetP_of hw
    exact ⟨_, by simp only [resOf, h1, Bool.false_eq_true, if_false, h2, Option.map_some], h3⟩
  | .cell t ty :: l, K, hw => by
    obtain ⟨b, p, v, h0, h1, hw⟩ := hw
    obtain ⟨vs, h2, h3⟩ := RetP_of hw
    exact ⟨_, by simp only [resOf, h0, if_true, h1, h2], h3⟩
theorem read_of {h : H} {b : Nat} {p : List Nat} {k : BK} {e : TypeId} {xs : List AV} {v : AV} (hb : h.get b = some (.row k e xs)) (ha : at? p (.agg e xs) = some v) : h.read b p = some v := by
  unfold H.read
  rw [hb]
  exact ha
def RetQ (F : AFunc) (K : AV → H → Prop) (r : Env) (h : H) : Prop := RetP r h F.results fun vs => K (tupOf vs) h
def argE : Nat → List AV → EL
  | _, [] => []
  | i, a :: l => (i, a) :: argE (i + 1) l
theorem argE_lk {r0 : Env} : ∀ {l : List AV} {i j : Nat}, lk r0 (argE i l) j = if i ≤ j then (match l[j - i]? with | some v => v | none => r0 j) else r0 j
  | [], i, j => by simp [argE, lk]
  | a :: l, i, j => by
    simp only [argE, lk]
    by_cases h : j = i
    · subst h; simp
    · have : Nat.beq j i = false := by rw [← Bool.not_eq_true, Nat.beq_eq]; exact h
      rw [this, cond_false, argE_lk (l := l)]
      by_cases h2 : i + 1 ≤ j
      · rw [if_pos h2, if_pos (by omega), show j - i = (j - (i + 1)) + 1 by omega, List.getElem?_cons_succ]
      · rw [if_neg h2, if_neg (by omega)]
theorem den_args {args : List AV} : den (fun _ => undefA) (argE 0 args) = envOf args := by
  funext j
  simp only [den, argE_lk, Nat.zero_le, if_true, Nat.sub_zero, envOf]
  cases args[j]? <;> rfl
/-- a function's contract -/
theorem cw_q {T : Tbl} {f : FuncId} {args : List AV} {h : H} {K : AV → H → Prop} {F : AFunc} (n : Nat) (hx : T.ext f args = none) (hF : T.fn f = some F) (hp : Qx T (fun _ => undefA) [] (RetQ F K) n [.code F.body] (argE 0 args) h) : Cw T f args h K := by
  refine ⟨?_⟩
  unfold CwD
  rw [hx]
  have := qx_sound T _ _ _ n _ _ _ hp
  rw [den_args] at this
  refine ⟨F, hF, this.mono fun r1 h1 hw => ?_⟩
  obtain ⟨vs, h2, h3⟩ := RetP_of hw
  exact ⟨vs, h2, h3⟩

/-! ### slots that are known -/
def agree (r : Env) : EL → Prop
  | [] => True
  | (i, v) :: l => r i = v ∧ agree r l
theorem den_agree {r : Env} : ∀ {E : EL}, agree r E → den r E = r
  | [], _ => rfl
  | (i, v) :: l, h => by
    show den r (setE (some i) v l) = r
    rw [den_set, den_agree h.2]
    funext j
    simp only [set_at]
    split
    · rename_i hj; subst hj; exact h.1.symm
    · rfl
/-- a part of the road, from slots that are known -/
theorem wp_q {T : Tbl} {k0 items : List Item} {r : Env} {h : H} {Q : Env → H → Prop} {E : EL} (n : Nat) (ha : agree r E) (hp : Qx T r k0 Q n items E h) : Wp T (items ++ k0) r h Q := by
  have := qx_sound T r k0 Q n items E h hp
  rw [den_agree ha] at this
  exact this
end Go.Dam

namespace Go.Dam

theorem at1 {e : TypeId} {xs : List AV} {i : Nat} {v : AV} (h : xs[i]? = some v) : at? [i] (.agg e xs) = some v := h
theorem at_cons {p : List Nat} {y : AV} {t : TypeId} {xs : List AV} {i : Nat} {v : AV} (h1 : at? p y = some (.agg t xs)) (h2 : xs[i]? = some v) : at? (i :: p) y = some v := by
  rw [at?, h1]
  exact h2
/-- a read of one of a row -/
theorem read1 {h : H} {b i : Nat} {k : BK} {e : TypeId} {xs : List AV} {v : AV} {K : AV → Prop} (hb : h.get b = some (.row k e xs)) (hx : xs[i]? = some v) (hK : K v) : readW h b [i] K := ⟨_, _, _, hb, optW_of (at1 hx) hK⟩
/-- one of a row set anew -/
theorem write1 {h : H} {b i : Nat} {k : BK} {e : TypeId} {xs : List AV} {v : AV} {K : H → Prop} (hb : h.get b = some (.row k e xs)) (hk : k ≠ .ro) (hi : i < xs.length) (hK : ∀ h', Upd h b (.row k e (xs.set i v)) h' → K h') : writeW h b [i] v K := by
  refine ⟨_, _, _, hb, hk, ?_⟩
  refine optW_of (v := .agg e (xs.set i v)) ?_ hK
  simp only [put?, at?, hi, if_true]
/-- a read deeper in a row -/
theorem readP {h : H} {b : Nat} {p : List Nat} {k : BK} {e : TypeId} {xs : List AV} {v : AV} {K : AV → Prop} (hb : h.get b = some (.row k e xs)) (hx : at? p (.agg e xs) = some v) (hK : K v) : readW h b p K := ⟨_, _, _, hb, optW_of hx hK⟩
theorem writeP {h : H} {b : Nat} {p : List Nat} {k : BK} {e : TypeId} {xs ys : List AV} {v : AV} {K : H → Prop} (hb : h.get b = some (.row k e xs)) (hk : k ≠ .ro) (hp : put? p (.agg e xs) v = some (.agg e ys)) (hK : ∀ h', Upd h b (.row k e ys) h' → K h') : writeW h b p v K :=
  ⟨_, _, _, hb, hk, optW_of hp hK⟩
theorem put_cons {p : List Nat} {y x y' : AV} {t : TypeId} {xs : List AV} {i : Nat} (h1 : at? p y = some (.agg t xs)) (hi : i < xs.length) (h2 : put? p y (.agg t (xs.set i x)) = some y') : put? (i :: p) y x = some y' := by
  rw [put?, h1]
  simp only [hi, if_true]
  exact h2

/-! ### appends -/
/-- a row in the place of another one -/
structure Mov (h : H) (b : Nat) (x : Blk) (h' : H) : Prop where
  get : ∀ y, h'.get y = if y = h.next then some x else if y = b then none else h.get y
  next : h'.next = h.next + 1
theorem Mov.at {h h' : H} {b : Nat} {x : Blk} (m : Mov h b x h') : h'.get h.next = some x := by rw [m.get, if_pos rfl]
theorem Mov.ne {h h' : H} {b c : Nat} {x y : Blk} (m : Mov h b x h') (hc : h.get c = some y) (h1 : c < h.next) (h2 : c ≠ b) : h'.get c = some y := by rw [m.get, if_neg (by omega), if_neg h2]; exact hc
theorem Fr.mov {S : Nat → Prop} {h h' h2 : H} {b : Nat} {x : Blk} (k : Fr S h h') (u : Mov h' b x h2) (hb : S b ∨ h.next ≤ b) : Fr S h h2 := by
  have := k.1
  refine ⟨by rw [u.next]; omega, fun c hc hs => ?_⟩
  rw [u.get, if_neg (by omega), if_neg (fun e => by rcases hb with hb | hb; exact hs (e ▸ hb); omega)]
  exact k.2 c hc hs
theorem Keep.mov {h h' h2 : H} {b : Nat} {x : Blk} (k : Keep h h') (u : Mov h' b x h2) (hb : h.next ≤ b) : Keep h h2 := by
  have := k.1
  refine ⟨by rw [u.next]; omega, fun c hc => ?_⟩
  rw [u.get, if_neg (by omega), if_neg (by omega)]
  exact k.2 c hc

/-- the values that are appended -/
def Src (e : TypeId) (s : Bool) (h : H) (y : AV) (l : List AV) : Prop := srcElems e s h y = some l
theorem src_nils {e : TypeId} {h : H} : Src e false h .nils [] := rfl
theorem src_row {e : TypeId} {h : H} {b off n : Nat} {k : BK} {eb : TypeId} {xs : List AV} (hb : h.get b = some (.row k eb xs)) (hn : off + n ≤ xs.length) : Src e false h (.slice b [] off n e) ((xs.drop off).take n) := by
  simp only [Src, srcElems, H.elems, H.read, hb, at?, if_true, hn, Bool.false_eq_true, if_false]
theorem src_all {e : TypeId} {h : H} {b : Nat} {k : BK} {eb : TypeId} {xs : List AV} (hb : h.get b = some (.row k eb xs)) : Src e false h (.slice b [] 0 xs.length e) xs := by
  have := src_row (e := e) (off := 0) (n := xs.length) hb (by omega)
  simpa using this
theorem src_path {e : TypeId} {h : H} {b off n : Nat} {p : List Nat} {k : BK} {eb t : TypeId} {xs zs : List AV} (hb : h.get b = some (.row k eb xs)) (ha : at? p (.agg eb xs) = some (.agg t zs)) (hn : off + n ≤ zs.length) : Src e false h (.slice b p off n e) ((zs.drop off).take n) := by
  simp only [Src, srcElems, H.elems, H.read, hb, ha, if_true, hn, Bool.false_eq_true, if_false]
theorem src_ro {e : TypeId} {h : H} {v : AV} {xs : List AV} (r : IsRo h v e xs) : Src e false h v xs := by
  rcases r with ⟨rfl, rfl⟩ | ⟨b, rfl, _, hb⟩
  · exact src_nils
  · exact src_all hb
theorem lenIs_ro {h : H} {v : AV} {e : TypeId} {xs : List AV} (r : IsRo h v e xs) : lenIs v xs.length := by
  rcases r with ⟨rfl, rfl⟩ | ⟨b, rfl, _⟩
  · exact lenIs_nils
  · exact lenIs_slice

theorem app_none {e : TypeId} {s : Bool} {lim : Nat} {h : H} {x y : AV} {K : AV → H → Prop} (hs : Src e s h y []) (hx : x = .nils ∨ ∃ b p o n, x = .slice b p o n e) (hK : K x h) : AppP e s lim h x y K := by
  refine ⟨x, h, ?_, hK⟩
  unfold appendV
  rw [show srcElems e s h y = some [] from hs]
  rcases hx with rfl | ⟨b, p, o, n, rfl⟩
  · simp
  · simp
theorem app_nil {e : TypeId} {s : Bool} {lim : Nat} {h : H} {y : AV} {l : List AV} {K : AV → H → Prop} (hs : Src e s h y l) (h0 : 0 < l.length) (h1 : l.length ≤ lim) (hK : ∀ h', New h h.next (.row .grow e l) h' → K (.slice h.next [] 0 l.length e) h') : AppP e s lim h .nils y K := by
  refine ⟨_, h.new (.row .grow e l), ?_, hK _ New.of⟩
  unfold appendV
  rw [show srcElems e s h y = some l from hs]
  simp only [Nat.ne_of_gt h0, if_false, h1, if_true]
theorem app_grow {e : TypeId} {s : Bool} {lim : Nat} {h : H} {y : AV} {l old : List AV} {b off n : Nat} {eb : TypeId} {xs : List AV} {K : AV → H → Prop} (hs : Src e s h y l) (hb : h.get b = some (.row .grow eb xs)) (_ : b < h.next) (hn : off + n ≤ xs.length) (ho : old = (xs.drop off).take n) (h0 : 0 < l.length) (h1 : n + l.length ≤ lim)
    (hK : ∀ h', Mov h b (.row .grow e (old ++ l)) h' → K (.slice h.next [] 0 (n + l.length) e) h') : AppP e s lim h (.slice b [] off n e) y K := by
  subst ho
  refine ⟨_, (h.del b).new (.row .grow e ((xs.drop off).take n ++ l)), ?_, hK _ ⟨fun y => ?_, ?_⟩⟩
  · unfold appendV
    rw [show srcElems e s h y = some l from hs]
    have he : h.elems b [] off n = some ((xs.drop off).take n) := by simp only [H.elems, H.read, hb, at?, hn, if_true]
    simp only [ne_eq, not_true_eq_false, if_false, Nat.ne_of_gt h0, h1, if_true, hb, H.read, at?, he]
    simp
  · rw [H.get_new, H.get_del]
    rfl
  · simp [H.new, H.newAt, H.del]
/-- a whole row that has no room of its own: it is copied -/
theorem app_full {e : TypeId} {s : Bool} {lim : Nat} {h : H} {y : AV} {l old : List AV} {b off n : Nat} {eb : TypeId} {xs : List AV} {K : AV → H → Prop} (hs : Src e s h y l) (hb : h.get b = some (.row .fixed eb xs)) (hn : off + n ≤ xs.length) (hf : xs.length < off + n + l.length) (ho : old = (xs.drop off).take n) (h1 : n + l.length ≤ lim)
    (hK : ∀ h', New h h.next (.row .grow e (old ++ l)) h' → K (.slice h.next [] 0 (n + l.length) e) h') : AppP e s lim h (.slice b [] off n e) y K := by
  subst ho
  refine ⟨_, h.new (.row .grow e ((xs.drop off).take n ++ l)), ?_, hK _ New.of⟩
  unfold appendV
  rw [show srcElems e s h y = some l from hs]
  have he : h.elems b [] off n = some ((xs.drop off).take n) := by simp only [H.elems, H.read, hb, at?, hn, if_true]
  have h0 : l.length ≠ 0 := by omega
  have hne : ¬ off + n + l.length ≤ xs.length := by omega
  simp only [ne_eq, not_true_eq_false, if_false, h0, h1, if_true, hb, H.read, at?, he, or_true, hne]

/-- a loop, from where the road stands -/
theorem loop_go {T : Tbl} {r0 : Env} {k0 k : List Item} {Q : Env → H → Prop} {E : EL} {h : H} {a : ACode} (n : Nat) (hp : Qx T r0 k0 Q n (.code a :: .inLoop a :: k) E h) : Wp T (.code (.loop a) :: (k ++ k0)) (den r0 E) h Q :=
  wp_loopA (qx_sound T r0 k0 Q n _ E h hp)
theorem inLoop_go {T : Tbl} {r0 : Env} {k0 k : List Item} {Q : Env → H → Prop} {E : EL} {h : H} {a : ACode} (n : Nat) (hp : Qx T r0 k0 Q n (.code a :: .inLoop a :: k) E h) : Wp T (.inLoop a :: (k ++ k0)) (den r0 E) h Q :=
  wp_inLoop (qx_sound T r0 k0 Q n _ E h hp)
/-- nothing of a slice -/
theorem slice_none {e : TypeId} {h : H} {v : AV} {hi : Nat → Option Nat} {K : AV → H → Prop} (hv : (v = .nils ∧ True) ∨ ∃ b p o n, v = .slice b p o n e) (hh : ∀ n, hi n = some 0) (hK : ∀ u, lenIs u 0 → K u h) : SliceP e h v 0 hi K := by
  rcases hv with ⟨rfl, _⟩ | ⟨b, p, o, n, rfl⟩
  · exact .nil rfl rfl (hh 0) (hK _ lenIs_nils)
  · exact .row b p o n 0 o 0 rfl (hh n) (Nat.le_refl _) (Nat.zero_le _) rfl rfl (hK _ lenIs_slice)
theorem copy_none {e : TypeId} {s : Bool} {h : H} {x y : AV} {l : List AV} {b o n : Nat} {p : List Nat} {K : AV → H → Prop} (hs : Src e s h y l) (hx : x = .slice b p o n e) (h0 : min l.length n = 0) (hK : K (.int .i64 0) h) : CopyP e s h x y K := by
  subst hx
  refine ⟨_, _, ?_, hK⟩
  unfold copyV
  rw [show srcElems e s h y = some l from hs]
  simp only [ne_eq, not_true_eq_false, if_false, h0, if_true]

/-- a row that is filled from its begin on -/
def fillR (n i : Nat) (f : Nat → AV) (z : AV) : List AV := (List.range n).map fun j => if j < i then f j else z
theorem fillR_zero {n : Nat} {f : Nat → AV} {z : AV} : fillR n 0 f z = List.replicate n z := by
  unfold fillR
  apply List.ext_getElem (by simp)
  intro j h1 h2
  simp
theorem fillR_all {n : Nat} {f : Nat → AV} {z : AV} : fillR n n f z = (List.range n).map f := by
  unfold fillR
  apply List.ext_getElem (by simp)
  intro j h1 h2
  simp at h1
  simp [h1]
theorem fillR_length {n i : Nat} {f : Nat → AV} {z : AV} : (fillR n i f z).length = n := by simp [fillR]
theorem fillR_set {n i : Nat} {f : Nat → AV} {z : AV} : (fillR n i f z).set i (f i) = fillR n (i + 1) f z := by
  unfold fillR
  apply List.ext_getElem (by simp)
  intro j h1 h2
  rw [List.getElem_set]
  simp only [List.getElem_map, List.getElem_range]
  by_cases h : i = j
  · subst h; simp
  · by_cases h3 : j < i
    · rw [if_neg h, if_pos h3, if_pos (by omega)]
    · rw [if_neg h, if_neg h3, if_neg (by omega)]

theorem wp_q0 {T : Tbl} {items : List Item} {r : Env} {h : H} {Q : Env → H → Prop} {E : EL} (n : Nat) (ha : agree r E) (hp : Qx T r [] Q n items E h) : Wp T items r h Q := by
  have := wp_q (k0 := []) n ha hp
  rwa [List.append_nil] at this

/-- a road cut in two -/
theorem wp_cut {T : Tbl} {a b : ACode} {k : List Item} {r0 : Env} {E : EL} {h : H} {Q : Env → H → Prop} (n : Nat) (hp : Qx T r0 (.code b :: k) Q n [.code a] E h) : Wp T (.code (.seq a b) :: k) (den r0 E) h Q := wp_seqA (qx_sound T r0 _ Q n _ E h hp)
theorem wp_cutA {T : Tbl} {a b : ACode} {k : List Item} {r : Env} {E : EL} {h : H} {Q : Env → H → Prop} (n : Nat) (ha : agree r E) (hp : Qx T r (.code b :: k) Q n [.code a] E h) : Wp T (.code (.seq a b) :: k) r h Q := by
  have := wp_cut n hp
  rw [den_agree ha] at this
  exact this
theorem cw_w {T : Tbl} {f : FuncId} {args : List AV} {h : H} {K : AV → H → Prop} {F : AFunc} (hx : T.ext f args = none) (hF : T.fn f = some F) (hp : Wp T [.code F.body] (den (fun _ => undefA) (argE 0 args)) h (RetQ F K)) : Cw T f args h K := by
  refine ⟨?_⟩
  unfold CwD
  rw [hx]
  rw [den_args] at hp
  refine ⟨F, hF, hp.mono fun r1 h1 hw => ?_⟩
  obtain ⟨vs, h2, h3⟩ := RetP_of hw
  exact ⟨vs, h2, h3⟩

/-- a slice that grew by appends -/
def IsSl (lo : Nat) (h : H) (v : AV) (e : TypeId) (ys : List AV) : Prop := (v = .nils ∧ ys = []) ∨ ∃ c, v = .slice c [] 0 ys.length e ∧ lo ≤ c ∧ c < h.next ∧ h.get c = some (.row .grow e ys)
theorem IsSl.nil {lo : Nat} {h : H} {e : TypeId} : IsSl lo h .nils e [] := .inl ⟨rfl, rfl⟩
theorem IsSl.fr {lo : Nat} {h h' : H} {v : AV} {e : TypeId} {ys : List AV} {S : Nat → Prop} (o : IsSl lo h v e ys) (k : Fr S h h') (hs : ∀ c, S c → lo ≤ c → h.get c ≠ some (.row .grow e ys)) : IsSl lo h' v e ys := by
  rcases o with o | ⟨c, h1, h2, h3, h4⟩
  · exact .inl o
  · exact .inr ⟨c, h1, h2, Nat.lt_of_lt_of_le h3 k.1, k.to h4 h3 (fun q => hs c q h2 h4)⟩
theorem IsSl.keep {lo : Nat} {h h' : H} {v : AV} {e : TypeId} {ys : List AV} (o : IsSl lo h v e ys) (k : Keep h h') : IsSl lo h' v e ys := o.fr (S := fun _ => False) k.fr (fun _ h => h.elim)
theorem IsSl.len {lo : Nat} {h : H} {v : AV} {e : TypeId} {ys : List AV} (o : IsSl lo h v e ys) : lenIs v ys.length := by
  rcases o with ⟨rfl, rfl⟩ | ⟨c, rfl, _⟩
  · exact lenIs_nils
  · exact lenIs_slice
theorem sl_app {lo : Nat} {e : TypeId} {lim : Nat} {h : H} {v y : AV} {ys l : List AV} {K : AV → H → Prop} (o : IsSl lo h v e ys) (src : Src e false h y l) (h0 : 0 < l.length) (h1 : ys.length + l.length ≤ lim) (hlo : lo ≤ h.next)
    (hK : ∀ h' v', Fr (fun c => v = .slice c [] 0 ys.length e ∧ lo ≤ c) h h' → IsSl lo h' v' e (ys ++ l) → K v' h') : AppP e false lim h v y K := by
  rcases o with ⟨rfl, rfl⟩ | ⟨c, rfl, h2, h3, h4⟩
  · refine app_nil src h0 (by simpa using h1) (fun g m => ?_)
    refine hK g _ ((Fr.refl _ _).new m (Nat.le_refl _)) (.inr ⟨h.next, by simp, hlo, by rw [m.nx]; omega, by simpa using m.at⟩)
  · refine app_grow src h4 h3 (by omega) rfl h0 h1 (fun g m => ?_)
    refine hK g _ ((Fr.refl _ _).mov m (.inl ⟨rfl, h2⟩)) (.inr ⟨h.next, by simp, hlo, by rw [m.next]; omega, ?_⟩)
    have := m.at
    rw [List.drop_zero, List.take_of_length_le (Nat.le_refl _)] at this
    exact this
/-- a slice that may be read -/
def IsRow (h : H) (v : AV) (e : TypeId) (ys : List AV) : Prop := (v = .nils ∧ ys = []) ∨ ∃ c o k eb xs, v = .slice c [] o ys.length e ∧ h.get c = some (.row k eb xs) ∧ o + ys.length ≤ xs.length ∧ (xs.drop o).take ys.length = ys
theorem IsRow.len {h : H} {v : AV} {e : TypeId} {ys : List AV} (o : IsRow h v e ys) : lenIs v ys.length := by
  rcases o with ⟨rfl, rfl⟩ | ⟨c, o, k, eb, xs, rfl, _⟩
  · exact lenIs_nils
  · exact lenIs_slice
theorem IsSl.row {lo : Nat} {h : H} {v : AV} {e : TypeId} {ys : List AV} (o : IsSl lo h v e ys) : IsRow h v e ys := by
  rcases o with o | ⟨c, h1, h2, h3, h4⟩
  · exact .inl o
  · exact .inr ⟨c, 0, _, _, _, h1, h4, by omega, by simp⟩
theorem IsRo.row {h : H} {v : AV} {e : TypeId} {ys : List AV} (o : IsRo h v e ys) : IsRow h v e ys := by
  rcases o with o | ⟨c, h1, h2, h3⟩
  · exact .inl o
  · exact .inr ⟨c, 0, _, _, _, h1, h3, by omega, by simp⟩
/-- one of a slice: where it lies -/
theorem IsRow.at {h : H} {v : AV} {e : TypeId} {ys : List AV} (o : IsRow h v e ys) {i : Nat} {y : AV} (hi : ys[i]? = some y) : ∃ c off k eb xs, v = .slice c [] off ys.length e ∧ h.get c = some (.row k eb xs) ∧ xs[off + i]? = some y := by
  have hl := (List.getElem?_eq_some_iff.1 hi).1
  rcases o with ⟨_, rfl⟩ | ⟨c, o, k, eb, xs, h1, h2, h3, h4⟩
  · simp at hi
  · refine ⟨c, o, k, eb, xs, h1, h2, ?_⟩
    have : ((xs.drop o).take ys.length)[i]? = some y := by rw [h4]; exact hi
    rw [List.getElem?_take, if_pos hl, List.getElem?_drop] at this
    exact this
end Go.Dam
