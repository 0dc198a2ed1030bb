/- Running the machine is running the model, part A: what a call gives back, guards, the code but drawn regions. -/
import Derived.LoopN
import Derived.Orders
import Derived.Scope
import Derived.Test.YtoipeoafcjjaeaaDamB
namespace Go.Dam
open Go.RowKit (Below)

theorem VV_VV1 {P : Program} {φ : Phi} {x : AV} {v : Value} (h : VV P φ x v) (ht : x.isTup = false) : VV1 P φ x v := by
  cases x <;> first | exact h | (simp [AV.isTup] at ht)

theorem fit_notup {P : Program} {t : TypeId} {x : AV} (h : Fit P t x) : x.isTup = false := by
  by_cases ht : x.isTup = false
  · exact ht
  · obtain ⟨xs, rfl⟩ := tup_of ht
    simp [Fit, fitB] at h

def resFn (a : Act) : ResultVar → Sem Value
  | .tmp t => pure (a.tmps.getD t undef)
  | .cell b t => do loadVar t (← asAddr (a.tmps.getD b undef))
theorem results_eq (fn : Func) (a : Act) : results fn a.tmps = (do
    let vs ← fn.results.mapM (resFn a)
    pure (if h : vs.size = 1 then vs[0] else .tuple vs)) := by
  unfold results
  congr

theorem res_run {P : Program} (g : Good P) {base : Nat} {φ : Phi} {h : H} {w : World} (hr : HR P base φ h w) {r : Env} {a : Act} (he : EnvR P φ r a) : ∀ {l : List ResultVar} {rs : List ARes} {vs : List AV}, compileRes P l = some rs → resOf r h rs = some vs →
    ∃ cs, (l.mapM (resFn a)).run P w = .ok cs w ∧ VV1s P φ vs cs
  | [], rs, vs, h1, h2 => by
    simp only [compileRes, Option.some.injEq] at h1
    subst h1
    simp only [resOf, Option.some.injEq] at h2
    subst h2
    exact ⟨[], by simp, rfl⟩
  | .tmp t :: l, rs, vs, h1, h2 => by
    simp only [compileRes, Option.map_eq_some_iff] at h1
    obtain ⟨rs', h1, rfl⟩ := h1
    simp only [resOf] at h2
    split at h2 <;> try (cases h2; done)
    rename_i ht
    simp only [Option.map_eq_some_iff] at h2
    obtain ⟨vs', h2, rfl⟩ := h2
    obtain ⟨cs, q1, q2⟩ := res_run g hr he h1 h2
    refine ⟨a.tmps.getD t undef :: cs, ?_, _, cs, VV_VV1 (he t) (by simpa using ht), q2, rfl⟩
    simp only [List.mapM_cons, resFn, Sem.run_bind, Sem.run_pure, Result.andThen_ok, q1]
  | .cell b t :: l, rs, vs, h1, h2 => by
    simp only [compileRes] at h1
    split at h1 <;> try (cases h1; done)
    rename_i hh
    simp only [Option.map_eq_some_iff] at h1
    obtain ⟨rs', h1, rfl⟩ := h1
    simp only [resOf] at h2
    split at h2 <;> try (cases h2; done)
    rename_i bb p t' hrt
    split at h2 <;> try (cases h2; done)
    rename_i htt
    split at h2 <;> try (cases h2; done)
    rename_i v vs' hread hres
    simp only [Option.some.injEq] at h2
    subst h2
    obtain ⟨cs, q1, q2⟩ := res_run g hr he h1 hres
    have hp := he b
    rw [hrt] at hp
    obtain ⟨i, off, t2, hi, hpl, hcan, hlt2, hval⟩ := hp
    obtain ⟨_, hf, cs2, hc2, _, hcell⟩ := hr.read g hread hi hpl
    have hft : Fit P t v := by
      rw [← fit_canon g (heldT_lt hh), ← htt, ← hcan, fit_canon g hlt2]; exact hf
    obtain ⟨cv, k1, k2⟩ := run_loadVar g hh hft hc2 hcell
    refine ⟨cv :: cs, ?_, _, cs, VV_VV1 k2 (fit_notup hft), q2, rfl⟩
    have ha : (asAddr (a.tmps.getD b undef)).run P w = .ok ⟨i.c, i.o + off, none⟩ w := by rw [hval]; rfl
    simp only [List.mapM_cons, resFn, Sem.run_bind, ha, Sem.run_pure, Result.andThen_ok, k1, q1]

theorem VV1s_len {P : Program} {φ : Phi} : ∀ {xs : List AV} {vs : List Value}, VV1s P φ xs vs → vs.length = xs.length
  | [], vs, h => by
    have h : vs = [] := h
    simp [h]
  | x :: xs, _, h => by
    obtain ⟨v, r, _, h2, rfl⟩ := h
    simp [VV1s_len h2]

theorem results_run {P : Program} (g : Good P) {base : Nat} {φ : Phi} {h : H} {w : World} (hr : HR P base φ h w) {r : Env} {a : Act} (he : EnvR P φ r a) {fn : Func} {rs : List ARes} {vs : List AV} (h1 : compileRes P fn.results.toList = some rs) (h2 : resOf r h rs = some vs) :
    ∃ cv, (results fn a.tmps).run P w = .ok cv w ∧ VV P φ (tupOf vs) cv := by
  obtain ⟨cs, q1, q2⟩ := res_run g hr he h1 h2
  have hlen := VV1s_len q2
  have hrun : (results fn a.tmps).run P w = .ok (if h : cs.toArray.size = 1 then cs.toArray[0] else .tuple cs.toArray) w := by
    rw [results_eq, Sem.run_bind, Array.mapM_eq_mapM_toList, Sem.run_map]
    rw [q1]
    rfl
  cases vs with
  | nil =>
    have : cs = [] := List.length_eq_zero_iff.1 hlen
    subst this
    exact ⟨_, hrun, [], q2, rfl⟩
  | cons v vs =>
    cases vs with
    | nil =>
      obtain ⟨c, r', p1, p2, rfl⟩ := q2
      have : r' = [] := p2
      subst this
      exact ⟨c, by rw [hrun]; rfl, VV1_VV p1⟩
    | cons v2 vs =>
      have hne : ¬ cs.toArray.size = 1 := by
        simp only [List.size_toArray, hlen, List.length_cons]
        omega
      exact ⟨.tuple cs.toArray, by rw [hrun, dif_neg hne], cs, q2, rfl⟩

/-! ### slots -/
theorem EnvR.put {P : Program} {φ φ' : Phi} {r : Env} {a : Act} (he : EnvR P φ r a) (hle : PhiLe φ φ') {d : Option Nat} (hd : ∀ i, d = some i → i < a.tmps.size) {v : AV} {c : Value} (hv : VV P φ' v c) : EnvR P φ' (r.set d v) (a.put d c) := by
  intro t
  cases d with
  | none => exact VV.mono hle (he t)
  | some i =>
    have hi := hd i rfl
    simp only [Env.set, Act.put]
    by_cases ht : t = i
    · subst ht
      simp [Array.getD_eq_getD_getElem?, hi, hv]
    · have hne : i ≠ t := fun e => ht e.symm
      have := VV.mono hle (he t)
      simp only [if_neg ht]
      simpa [Array.getD_eq_getD_getElem?, Array.getElem?_setIfInBounds_ne hne] using this

theorem EnvR.mono {P : Program} {φ φ' : Phi} {r : Env} {a : Act} (he : EnvR P φ r a) (hle : PhiLe φ φ') : EnvR P φ' r a := fun t => VV.mono hle (he t)

theorem put_size (a : Act) (d : Option Nat) (c : Value) : (a.put d c).tmps.size = a.tmps.size := by
  cases d <;> simp [Act.put]
theorem put_defers (a : Act) (d : Option Nat) (c : Value) : (a.put d c).defers = a.defers := by
  cases d <;> rfl

/-! ### guards -/
theorem VV_bool {P : Program} {φ : Phi} {x : AV} {c : Value} (h : VV P φ x c) (b : Bool) : x = .bool b ↔ c = .bool b := by
  constructor
  · rintro rfl; exact h
  · rintro rfl
    cases x with
    | agg t xs => obtain ⟨_, cs, _, e⟩ := h; cases e
    | tup xs => obtain ⟨vs, _, e⟩ := h; cases e
    | fn f a c => obtain ⟨_, _, _, _, e⟩ := h; cases e
    | ptr b p t => obtain ⟨_, _, _, _, _, _, _, e⟩ := h; cases e
    | slice b p o l e => obtain ⟨_, _, _, _, _, _, _, _, _, _, _, e⟩ := h; cases e
    | bool b' => have h : Value.bool b = Value.bool b' := h; cases h; rfl
    | int k n => have h : Value.bool b = Value.int k n := h; cases h
    | str s => have h : Value.bool b = Value.string s := h; cases h
    | nilp => have h : Value.bool b = Value.pointer none := h; cases h
    | nils => have h : Value.bool b = Value.slice none 0 0 := h; cases h
    | map m => exact h.elim
    | nilm => have h : Value.bool b = Value.map none := h; cases h
    | nilf => have h : Value.bool b = Value.nilFunc := h; cases h

theorem wanted_eq {P : Program} {φ : Phi} {r : Env} {a : Act} (he : EnvR P φ r a) {ops : Array Oper} {o : Oper} : Region.wanted o (yielded ops a.tmps) = wantedA r (o.guard.map fun (j, b) => ((ops[j]?).bind (·.dst), b)) := by
  unfold Region.wanted wantedA
  cases o.guard with
  | none => rfl
  | some gb =>
    obtain ⟨j, b⟩ := gb
    simp only [Option.map_some, yielded]
    cases hd : (ops[j]?).bind (·.dst) with
    | none => rfl
    | some t =>
      have ht := he t
      simp only [Option.bind_some]
      cases hx : r t with
      | bool x =>
        rw [hx] at ht
        have ht : a.tmps.getD t undef = .bool x := ht
        have : a.tmps[t]? = some (.bool x) := by
          rw [Array.getD_eq_getD_getElem?] at ht
          cases hq : a.tmps[t]? with
          | none => rw [hq] at ht; cases ht
          | some q => rw [hq] at ht; simpa using ht
        rw [this]
        cases x <;> cases b <;> rfl
      | _ =>
        have hnb : ∀ y, a.tmps[t]? ≠ some (.bool y) := by
          intro y hy
          have : a.tmps.getD t undef = .bool y := by rw [Array.getD_eq_getD_getElem?, hy]; rfl
          rw [this] at ht
          have := (VV_bool ht y).2 rfl
          rw [hx] at this
          cases this
        split
        · rename_i y hy; exact (hnb y hy).elim
        · rfl

/-! ### one operation in the model's frame -/
theorem wp_of_runs {P : Program} {o : Oper} {a : Act} {w w' : World} {cv : Value} {next : Act → World → Prop} {Q : Exit → Act → World → Prop} (h : Runs P o a w cv w') (hn : next (a.put o.dst cv) w') : o.wp P a w next Q := by
  unfold Oper.wp
  rcases h with h | ⟨h, rfl⟩
  · rw [h]; exact hn
  · rw [h]; exact hn

theorem wpOps_step {P : Program} {ops : Array Oper} {Q : Exit → Act → World → Prop} {i : Nat} {rest : List Nat} {a : Act} {w : World} {o : Oper} (ho : ops[i]? = some o) :
    (Region.wanted o (yielded ops a.tmps) = true → o.wp P a w (wpOps P ops Q rest) Q) → (Region.wanted o (yielded ops a.tmps) = false → wpOps P ops Q rest (a.put o.dst undef) w) → wpOps P ops Q (i :: rest) a w := by
  intro h1 h2
  simp only [wpOps, ho]
  cases hw : Region.wanted o (yielded ops a.tmps)
  · simpa using h2 hw
  · simpa using Or.inl (h1 hw)

/-! ### calls -/
/-- what a table says of a function without its code -/
def ExtOK (P : Program) (f : FuncId) (args vs : List AV) : Prop :=
  (∃ fn c, P.funcs[f]? = some fn ∧ fn.body = some c ∧ fn.name ≠ "runtime.NumGoroutine") ∧
  ∀ φ w (cargs : List Value), cargs.length = args.length → (∀ (j : Nat) x c, args[j]? = some x → cargs[j]? = some c → VV P φ x c) →
    Calls P f cargs.toArray w fun e w' => ∃ v, e = .returned v ∧ (∀ φ, VV P φ (tupOf vs) v) ∧ Below w.heap.size w w'
structure TblOK (P : Program) (T : Tbl) : Prop where
  te : T.te = teOf P
  fn : ∀ f F, T.fn f = some F → compileFn P f = some F
  ext : ∀ f args vs, T.ext f args = some vs → ExtOK P f args vs

theorem compileFn_parts {P : Program} {f : FuncId} {F : AFunc} (h : compileFn P f = some F) : ∃ fn c, P.funcs[f]? = some fn ∧ fn.body = some c ∧ fn.name ≠ "runtime.NumGoroutine" ∧ dstsOK fn.ntmps c = true ∧ compile P c = some F.body ∧ compileRes P fn.results.toList = some F.results := by
  unfold compileFn at h
  split at h <;> try (cases h; done)
  rename_i fn hfn
  split at h <;> try (cases h; done)
  rename_i c hc
  split at h <;> try (cases h; done)
  rename_i hh
  simp only [Bool.and_eq_true, bne_iff_ne] at hh
  split at h <;> try (cases h; done)
  rename_i b rs hb hrs
  simp only [Option.some.injEq] at h
  subst h
  exact ⟨fn, c, hfn, hc, hh.1, hh.2, hb, hrs⟩

theorem run_callFunc {P : Program} {f : FuncId} {fn : Func} {c : Code} (h1 : P.funcs[f]? = some fn) (h2 : fn.body = some c) (h3 : fn.name ≠ "runtime.NumGoroutine") (args : Array Value) (w : World) : (callFunc f args).run P w = .ok (.enter f args) w := by
  unfold callFunc
  rw [Sem.run_bind, run_program, Result.andThen_ok]
  simp only [h1]
  have : (fn.name == "runtime.NumGoroutine") = false := by simpa using h3
  rw [this, h2]
  rfl

/-- the arguments of a call, as the machine and as the model have them -/
theorem call_sound {P : Program} {φ : Phi} {r : Env} {a : Act} (he : EnvR P φ r a) {o : Oper} {ao : AOp} (hc : compileOp P o.op = some ao) (hic : ao.isCall = true) {f : FuncId} {args : List AV} (hco : callOf r ao = some (f, args)) :
    ∃ cargs : List Value, cargs.length = args.length ∧ (∀ (j : Nat) x c, args[j]? = some x → cargs[j]? = some c → VV P φ x c) ∧
      ∀ (fn : Func) (c : Code) (w : World), P.funcs[f]? = some fn → fn.body = some c → fn.name ≠ "runtime.NumGoroutine" → (execOp a.eval o).run P w = .ok (.enter f cargs.toArray) w := by
  cases ho : o.op with
  | call c =>
    simp only [ho, compileOp] at hc
    split at hc <;> try (cases hc; done)
    rename_i as has
    obtain ⟨l1, l2⟩ := opnds_VV he has
    have hargs : ∀ (j : Nat) x c', (as.map (Opnd.ev r))[j]? = some x → (c.args.toList.map a.eval)[j]? = some c' → VV P φ x c' := by
      intro j x c' h1 h2
      rw [List.getElem?_map, Option.map_eq_some_iff] at h1 h2
      obtain ⟨y, hy, rfl⟩ := h1
      obtain ⟨z, hz, rfl⟩ := h2
      exact l2 j (List.getElem?_eq_some_iff.1 hz).1 z y hz hy
    split at hc <;> try (cases hc; done)
    · -- a function by its name
      rename_i g hg
      simp only [Option.some.injEq] at hc
      subst hc
      simp only [callOf, Option.some.injEq, Prod.mk.injEq] at hco
      obtain ⟨hf, rfl⟩ := hco
      subst hf
      refine ⟨c.args.toList.map a.eval, by simp [l1], hargs, fun fn cc w h1 h2 h3 => ?_⟩
      have hev : a.eval (.func g) = .func (.func g) #[] #[] := rfl
      simp only [execOp, ho, resolve, hg, hev, Deferred.ofValue, Sem.run_bind, Sem.run_pure, Result.andThen_ok, invoke, Array.empty_append, Array.append_empty]
      rw [run_callFunc h1 h2 h3]
      congr 2
      apply Array.ext'
      simp
    · -- a value
      rename_i x _ hx
      simp only [Option.map_eq_some_iff] at hc
      obtain ⟨y, hy, rfl⟩ := hc
      simp only [callOf] at hco
      split at hco <;> try (cases hco; done)
      rename_i g fi ca hyv
      simp only [Option.some.injEq, Prod.mk.injEq] at hco
      obtain ⟨rfl, rfl⟩ := hco
      have hv := opnd_VV he hy
      rw [hyv] at hv
      obtain ⟨cf, cc, s1, s2, hval⟩ := hv
      have sv : ∀ {xs : List AV} {vs : List Value}, SV0s P φ xs vs → vs.length = xs.length ∧ ∀ (j : Nat) x c', xs[j]? = some x → vs[j]? = some c' → VV P φ x c' := by
        intro xs
        induction xs with
        | nil => intro vs h; have h : vs = [] := h; subst h; simp
        | cons x xs ih =>
          intro vs h
          obtain ⟨v, r', p1, p2, rfl⟩ := h
          obtain ⟨i1, i2⟩ := ih p2
          refine ⟨by simp [i1], fun j x' c' h1 h2 => ?_⟩
          cases j with
          | zero =>
            simp at h1 h2; subst h1; subst h2
            cases x <;> first | exact p1 | exact p1.elim
          | succ j => simp at h1 h2; exact i2 j x' c' h1 h2
      obtain ⟨a1, a2⟩ := sv s1
      obtain ⟨b1, b2⟩ := sv s2
      have l1s : c.args.size = as.length := by simpa using l1
      refine ⟨cf ++ c.args.toList.map a.eval ++ cc, by simp [a1, b1, l1], fun j x' c' h1 h2 => ?_, fun fn cc2 w h1 h2 h3 => ?_⟩
      · have e1 : (fi ++ as.map (Opnd.ev r)).length = (cf ++ c.args.toList.map a.eval).length := by simp [a1, l1]
        rcases Nat.lt_or_ge j fi.length with q | q
        · rw [List.append_assoc, List.getElem?_append_left q] at h1
          rw [List.append_assoc, List.getElem?_append_left (by omega)] at h2
          exact a2 j x' c' h1 h2
        · rw [List.append_assoc, List.getElem?_append_right q] at h1
          rw [List.append_assoc, List.getElem?_append_right (by omega), a1] at h2
          rcases Nat.lt_or_ge (j - fi.length) (as.map (Opnd.ev r)).length with q2 | q2
          · rw [List.getElem?_append_left q2] at h1
            rw [List.getElem?_append_left (by simp at q2 ⊢; omega)] at h2
            exact hargs _ x' c' h1 h2
          · rw [List.getElem?_append_right q2] at h1
            rw [List.getElem?_append_right (by simp at q2 ⊢; omega)] at h2
            have e2 : (c.args.toList.map a.eval).length = (as.map (Opnd.ev r)).length := by simp [l1]
            rw [e2] at h2
            exact b2 _ x' c' h1 h2
      · simp only [execOp, ho, resolve, hx, hval, Deferred.ofValue, Sem.run_bind, Sem.run_pure, Result.andThen_ok, invoke]
        rw [run_callFunc h1 h2 h3]
        congr 2
        apply Array.ext'
        simp
    all_goals
      exfalso
      revert hc
      repeat' split
      all_goals (intro hc; first | (cases hc; done) | (simp only [Option.some.injEq] at hc; subst hc; simp [AOp.isCall] at hic))
  | _ =>
    exfalso
    simp only [ho, compileOp] at hc
    revert hc
    repeat' split
    all_goals (intro hc; first | contradiction | (cases hc; done) | (simp only [Option.some.injEq] at hc; subst hc; simp [AOp.isCall] at hic; done) | (simp only [Option.map_eq_some_iff] at hc; obtain ⟨_, _, rfl⟩ := hc; simp [AOp.isCall] at hic; done))

end Go.Dam

namespace Go.Dam
open Go.RowKit (Below)

mutual
theorem beq_eq : ∀ {x y : AV}, AV.beq x y = true → x = y
  | .bool _, y, h => by cases y <;> simp_all [AV.beq]
  | .int .., y, h => by cases y <;> simp_all [AV.beq]
  | .str s, y, h => by
    cases y with
    | str t =>
      simp only [AV.beq, beq_iff_eq] at h
      have : s = t := by cases s; cases t; simp_all
      rw [this]
    | _ => simp [AV.beq] at h
  | .ptr .., y, h => by cases y <;> simp_all [AV.beq]
  | .nilp, y, h => by cases y <;> simp_all [AV.beq]
  | .slice .., y, h => by cases y <;> simp_all [AV.beq]
  | .nils, y, h => by cases y <;> simp_all [AV.beq]
  | .map _, y, h => by cases y <;> simp_all [AV.beq]
  | .nilm, y, h => by cases y <;> simp_all [AV.beq]
  | .nilf, y, h => by cases y <;> simp_all [AV.beq]
  | .fn f x c, y, h => by
    cases y with
    | fn f' x' c' =>
      simp only [AV.beq, Bool.and_eq_true, beq_iff_eq] at h
      rw [h.1.1, beqs_eq h.1.2, beqs_eq h.2]
    | _ => simp [AV.beq] at h
  | .agg t xs, y, h => by
    cases y with
    | agg t' xs' =>
      simp only [AV.beq, Bool.and_eq_true, beq_iff_eq] at h
      rw [h.1, beqs_eq h.2]
    | _ => simp [AV.beq] at h
  | .tup xs, y, h => by
    cases y with
    | tup xs' =>
      simp only [AV.beq] at h
      rw [beqs_eq h]
    | _ => simp [AV.beq] at h
theorem beqs_eq : ∀ {xs ys : List AV}, AV.beqs xs ys = true → xs = ys
  | [], [], _ => rfl
  | x :: xs, y :: ys, h => by
    simp only [AV.beqs, Bool.and_eq_true] at h
    rw [beq_eq h.1, beqs_eq h.2]
  | [], _ :: _, h => by simp [AV.beqs] at h
  | _ :: _, [], h => by simp [AV.beqs] at h
end

/-! ### what an operation leaves alone -/
/-- numbers below the next one that name nothing go on naming nothing, but for one -/
def Old (h h' : H) (nid : Nat) : Prop := h.next ≤ h'.next ∧ ∀ b, b < h.next → b ≠ nid → h.get b = none → h'.get b = none
theorem Old.refl (h : H) (nid : Nat) : Old h h nid := ⟨Nat.le_refl _, fun _ _ _ h => h⟩
theorem Old.newAt (h : H) (nid : Nat) (x : Blk) : Old h (h.newAt nid x) nid := by
  refine ⟨by simp only [H.newAt]; split <;> omega, fun b _ hb hg => ?_⟩
  rw [H.get_newAt, if_neg hb]; exact hg
theorem Old.new (h : H) (nid : Nat) (x : Blk) : Old h (h.new x) nid := by
  refine ⟨by simp only [H.new, H.newAt]; split <;> omega, fun b hb _ hg => ?_⟩
  rw [H.get_new, if_neg (by omega)]; exact hg
theorem Old.del (h : H) (nid b : Nat) : Old h (h.del b) nid := by
  refine ⟨Nat.le_refl _, fun b' _ _ hg => ?_⟩
  rw [H.get_del]; split <;> first | rfl | exact hg
theorem Old.trans {a b c : H} {nid : Nat} (h : Old a b nid) (k : Old b c nid) : Old a c nid :=
  ⟨Nat.le_trans h.1 k.1, fun i hi hn hg => k.2 i (Nat.lt_of_lt_of_le hi h.1) hn (h.2 i hi hn hg)⟩
theorem Old.write {h h' : H} {b : Nat} {p : List Nat} {x : AV} {nid : Nat} (hw : h.write b p x = some h') : Old h h' nid := by
  unfold H.write at hw
  split at hw <;> try (cases hw; done)
  rename_i hb
  split at hw <;> try (cases hw; done)
  split at hw <;> try (cases hw; done)
  simp only [Option.some.injEq] at hw
  subst hw
  refine ⟨Nat.le_refl _, fun b' _ _ hg => ?_⟩
  rw [H.get_put, if_neg (fun e => by rw [e, hb] at hg; cases hg)]
  exact hg
theorem Old.putElems {h h' : H} {b : Nat} {p : List Nat} {off : Nat} {ys : List AV} {nid : Nat} (hw : h.putElems b p off ys = some h') : Old h h' nid := by
  unfold H.putElems at hw
  split at hw <;> try (cases hw; done)
  split at hw <;> try (cases hw; done)
  exact Old.write hw

theorem Old.appendV {e : TypeId} {s : Bool} {lim nid : Nat} {h h' : H} {x y v : AV} (hv : appendV e s lim h x y = some (v, h')) : Old h h' nid := by
  unfold Dam.appendV at hv
  split at hv <;> try (cases hv; done)
  split at hv <;> try (cases hv; done)
  · split at hv
    · simp only [Option.some.injEq, Prod.mk.injEq] at hv; rw [← hv.2]; exact Old.refl _ _
    · split at hv <;> try (cases hv; done)
      simp only [Option.some.injEq, Prod.mk.injEq] at hv; rw [← hv.2]; exact Old.new _ _ _
  · split at hv <;> try (cases hv; done)
    split at hv
    · simp only [Option.some.injEq, Prod.mk.injEq] at hv; rw [← hv.2]; exact Old.refl _ _
    · split at hv <;> try (cases hv; done)
      split at hv <;> try (cases hv; done)
      split at hv
      · split at hv
        · split at hv <;> try (cases hv; done)
          rename_i hp
          simp only [Option.some.injEq, Prod.mk.injEq] at hv; rw [← hv.2]; exact Old.putElems hp
        · simp only [Option.some.injEq, Prod.mk.injEq] at hv; rw [← hv.2]; exact Old.new _ _ _
      · split at hv <;> try (cases hv; done)
        simp only [Option.some.injEq, Prod.mk.injEq] at hv; rw [← hv.2]; exact (Old.del _ _ _).trans (Old.new _ _ _)

theorem Old.copyV {e : TypeId} {s : Bool} {nid : Nat} {h h' : H} {x y v : AV} (hv : copyV e s h x y = some (v, h')) : Old h h' nid := by
  unfold Dam.copyV at hv
  split at hv <;> try (cases hv; done)
  · simp only [Option.some.injEq, Prod.mk.injEq] at hv; rw [← hv.2]; exact Old.refl _ _
  · split at hv <;> try (cases hv; done)
    split at hv
    · simp only [Option.some.injEq, Prod.mk.injEq] at hv; rw [← hv.2]; exact Old.refl _ _
    · split at hv <;> try (cases hv; done)
      rename_i hp
      simp only [Option.some.injEq, Prod.mk.injEq] at hv; rw [← hv.2]; exact Old.putElems hp

/-- operations that are no effect: the heap stays, or gets one new block -/
theorem evOp_still {te : TypeId → ATy} {r : Env} {h h' : H} {nid : Nat} {o : AOp} {v : AV} (hv : evOp te r h nid o = some (v, h')) (he : o.effect = false) : h' = h ∨ (o.allocs = true ∧ ∃ x, h' = h.newAt nid x) := by
  cases o <;> simp only [AOp.effect] at he <;> try (cases he; done)
  all_goals
    simp only [evOp] at hv
    revert hv
    repeat' split
    all_goals
      intro hv
      first
        | (cases hv; done)
        | (simp only [Option.some.injEq, Prod.mk.injEq] at hv; left; rw [← hv.2]; done)
        | (simp only [Option.some.injEq, Prod.mk.injEq] at hv; right; exact ⟨rfl, _, hv.2.symm⟩)
        | (simp only [Option.map_eq_some_iff, Prod.mk.injEq] at hv; obtain ⟨_, _, _, hv⟩ := hv; left; rw [hv]; done)
        | (simp only [Option.map_eq_some_iff, Prod.mk.injEq] at hv; obtain ⟨_, _, _, hv⟩ := hv; right; exact ⟨rfl, _, hv.symm⟩)

theorem evOp_oldE {te : TypeId → ATy} {r : Env} {h h' : H} {nid nid' : Nat} {o : AOp} {v : AV} (hv : evOp te r h nid o = some (v, h')) (he : o.effect = true) : Old h h' nid' := by
  cases o <;> try (cases he; done)
  · simp only [evOp] at hv
    split at hv <;> try (cases hv; done)
    split at hv <;> try (cases hv; done)
    simp only [Option.map_eq_some_iff, Prod.mk.injEq] at hv
    obtain ⟨_, hw, _, rfl⟩ := hv
    exact Old.write hw
  · exact Old.appendV hv
  · exact Old.copyV hv
  · cases hv
  · cases hv

theorem evOp_old {te : TypeId → ATy} {r : Env} {h h' : H} {nid : Nat} {o : AOp} {v : AV} (hv : evOp te r h nid o = some (v, h')) : Old h h' nid := by
  cases he : o.effect
  · rcases evOp_still hv he with rfl | ⟨_, x, rfl⟩
    · exact Old.refl _ _
    · exact Old.newAt _ _ _
  · exact evOp_oldE hv he

/-! ### one step of a region -/
/-- as a run began: what was known of old blocks is known -/
structure St (base : Nat) (φ0 : Phi) (w0 : World) (nx0 : Nat) (φ : Phi) (w : World) (nx : Nat) : Prop where
  le : PhiLe φ0 φ
  old : ∀ b, b < nx0 → φ b = φ0 b
  nx : nx0 ≤ nx
  below : Below base w0 w
theorem St.refl (base : Nat) (φ : Phi) (w : World) (nx : Nat) : St base φ w nx φ w nx := ⟨PhiLe.refl _, fun _ _ => rfl, Nat.le_refl _, Below.refl _ _⟩
theorem St.trans {base : Nat} {φ0 φ1 φ2 : Phi} {w0 w1 w2 : World} {n0 n1 n2 : Nat} (h : St base φ0 w0 n0 φ1 w1 n1) (k : St base φ1 w1 n1 φ2 w2 n2) : St base φ0 w0 n0 φ2 w2 n2 :=
  ⟨h.le.trans k.le, fun b hb => (k.old b (Nat.lt_of_lt_of_le hb h.nx)).trans (h.old b hb), Nat.le_trans h.nx k.nx, h.below.trans k.below⟩

def CallGood (P : Program) (base : Nat) (f : FuncId) (args : List AV) (h : H) (vs : List AV) (h1 : H) : Prop :=
  (h.next ≤ h1.next ∧ ∀ b, b < h.next → h.get b = none → h1.get b = none) ∧
  (∃ fn c, P.funcs[f]? = some fn ∧ fn.body = some c ∧ fn.name ≠ "runtime.NumGoroutine") ∧
  ∀ φ w (cargs : List Value), HR P base φ h w → cargs.length = args.length → (∀ (j : Nat) x c, args[j]? = some x → cargs[j]? = some c → VV P φ x c) →
    Calls P f cargs.toArray w fun e w' => ∃ v φ', e = .returned v ∧ VV P φ' (tupOf vs) v ∧ HR P base φ' h1 w' ∧ St base φ w h.next φ' w' h1.next

/-- what leaves all that was there alone leaves the machine's heap alone -/
theorem RowR.below {P : Program} {base : Nat} {φ : Phi} {w w' : World} {k : BK} {e : TypeId} {xs : List AV} {i : BI} (r : RowR P base φ w k e xs i) (hb : Below w.heap.size w w') : RowR P base φ w' k e xs i := by
  have hcell : ∀ (x : Addr) v, w.cell? x = some v → w'.cell? x = some v := by
    intro x v hv
    have hlt : x.block < w.heap.size := by
      rcases Nat.lt_or_ge x.block w.heap.size with h | h
      · exact h
      · simp [World.cell?, Array.getElem?_eq_none h] at hv
    unfold World.cell? at hv ⊢
    rw [hb.block x.block hlt]
    exact hv
  refine ⟨r.ie, r.held, r.canon, r.fit, r.len, r.fixed, r.own, r.ro, fun hn => ?_, fun h1 h2 => ?_⟩
  · obtain ⟨cs, q1, q2⟩ := r.mem hn
    exact ⟨cs, q1, fun j v hv => hcell _ _ (q2 j v hv)⟩
  · obtain ⟨arr, T, fz, q1, q2⟩ := r.room h1 h2
    have hlt : i.c < w.heap.size := (Array.getElem?_eq_some_iff.1 q1).1
    exact ⟨arr, T, fz, by rw [hb.block i.c hlt]; exact q1, q2⟩
theorem HR.below {P : Program} {base : Nat} {φ : Phi} {h : H} {w w' : World} (hr : HR P base φ h w) (hb : Below w.heap.size w w') : HR P base φ h w' :=
  ⟨Nat.le_trans hr.size hb.size, fun b k e xs hg => (hr.row b k e xs hg).elim fun i h => ⟨i, h.1, h.2.below hb⟩, hr.apart, hr.fresh, hr.nomap⟩
theorem below_le {a b : Nat} {w w' : World} (h : Below b w w') (hab : a ≤ b) : Below a w w' := ⟨h.os, h.tape, h.output, h.size, fun k hk => h.block k (Nat.lt_of_lt_of_le hk hab)⟩

theorem ext_good {P : Program} {base : Nat} {f : FuncId} {args : List AV} {h : H} {vs : List AV} (he : ExtOK P f args vs) : CallGood P base f args h vs h := by
  refine ⟨⟨Nat.le_refl _, fun _ _ h => h⟩, he.1, fun φ w cargs hr hl hv => Calls.mono (he.2 φ w cargs hl hv) fun e w' hq => ?_⟩
  obtain ⟨v, h1, h2, h3⟩ := hq
  exact ⟨v, φ, h1, h2 φ, hr.below h3, ⟨PhiLe.refl _, fun _ _ => rfl, Nat.le_refl _, below_le h3 hr.size⟩⟩

def StepOK (P : Program) (T : Tbl) (base : Nat) (r : Env) (h : H) (nid : Nat) (o : AOper) (v : AV) (h' : H) : Prop :=
  (wantedA r o.guard = false ∧ v = undefA ∧ h' = h) ∨
  (wantedA r o.guard = true ∧ o.op.isCall = false ∧ evOp T.te r h nid o.op = some (v, h')) ∨
  (wantedA r o.guard = true ∧ o.op.isCall = true ∧ ∃ f args vs, callOf r o.op = some (f, args) ∧ v = tupOf vs ∧ CallGood P base f args h vs h')

theorem StepOK.old {P : Program} {T : Tbl} {base : Nat} {r : Env} {h h' : H} {nid : Nat} {o : AOper} {v : AV} (hs : StepOK P T base r h nid o v h') : Old h h' nid := by
  rcases hs with ⟨_, _, rfl⟩ | ⟨_, _, hv⟩ | ⟨_, _, f, args, vs, _, _, hc⟩
  · exact Old.refl _ _
  · exact evOp_old hv
  · exact ⟨hc.1.1, fun b hb _ hg => hc.1.2 b hb hg⟩

theorem StepOK.oldE {P : Program} {T : Tbl} {base : Nat} {r : Env} {h h' : H} {nid nid' : Nat} {o : AOper} {v : AV} (hs : StepOK P T base r h nid o v h') (he : o.op.effect = true) : Old h h' nid' := by
  rcases hs with ⟨_, _, rfl⟩ | ⟨_, _, hv⟩ | ⟨_, _, f, args, vs, _, _, hc⟩
  · exact Old.refl _ _
  · exact evOp_oldE hv he
  · exact ⟨hc.1.1, fun b hb _ hg => hc.1.2 b hb hg⟩

theorem isCall_effect {o : AOp} (h : o.isCall = true) : o.effect = true := by cases o <;> simp_all [AOp.isCall, AOp.effect]

theorem StepOK.still {P : Program} {T : Tbl} {base : Nat} {r : Env} {h h' : H} {nid : Nat} {o : AOper} {v : AV} (hs : StepOK P T base r h nid o v h') (he : o.op.effect = false) : h' = h ∨ (o.op.allocs = true ∧ ∃ x, h' = h.newAt nid x) := by
  rcases hs with ⟨_, _, rfl⟩ | ⟨_, _, hv⟩ | ⟨_, hi, _⟩
  · exact .inl rfl
  · exact evOp_still hv he
  · rw [isCall_effect hi] at he; cases he

/-- an operation of a region does what the machine's step does -/
theorem oper_sound {P : Program} (g : Good P) {T : Tbl} (hT : T.te = teOf P) {base : Nat} {φ : Phi} {h h' : H} {w : World} (hr : HR P base φ h w) {nid : Nat} {r : Env} {a : Act} (he : EnvR P φ r a) {ops : Array Oper} {i : Nat} {o : Oper} {ao : AOper} {v : AV} {Q : Exit → Act → World → Prop} {K : Act → World → Prop}
    (hi : ops[i]? = some o) (hc : compileOper P ops o = some ao) (hs : StepOK P T base r h nid ao v h') (hn : ao.op.allocs = true → φ nid = none ∧ nid ≤ h.next)
    (hk : ∀ φ' cv w', PhiNx φ φ' h.next nid → VV P φ' v cv → HR P base φ' h' w' → Below base w w' → K (a.put o.dst cv) w') : wpOp P ops Q i K a w := by
  simp only [compileOper, Option.map_eq_some_iff] at hc
  obtain ⟨aop, hc, rfl⟩ := hc
  have hw := wanted_eq he (ops := ops) (o := o)
  unfold wpOp
  simp only [hi]
  rcases hs with ⟨h1, rfl, rfl⟩ | ⟨h1, h2, hv⟩ | ⟨h1, h2, f, args, vs, hco, rfl, hcg⟩
  · rw [hw, h1]
    exact hk φ undef w (PhiNx.refl _ _ _) undef_VV hr (Below.refl _ _)
  · rw [hw, h1]
    rw [hT] at hv
    obtain ⟨φ', cv, w', q1, q2, q3, q4, q5⟩ := op_sound g hr he hc h2 hn hv
    exact .inl (wp_of_runs q1 (hk φ' cv w' q2 q3 q4 q5))
  · rw [hw, h1]
    obtain ⟨cargs, hl, hp, hrun⟩ := call_sound he hc h2 hco
    obtain ⟨_, ⟨fn, c, p1, p2, p3⟩, hcall⟩ := hcg
    refine .inl ?_
    unfold Oper.wp
    rw [hrun fn c w p1 p2 p3, Oper.upon_enter]
    refine Calls.mono (hcall φ w cargs hr hl hp) fun e w' he => ?_
    obtain ⟨cv, φ', rfl, q1, q2, q3⟩ := he
    exact hk φ' cv w' ⟨q3.le, fun b hb _ => q3.old b hb⟩ q1 q2 q3.below

end Go.Dam

namespace Go.Dam
open Go.RowKit (Below)

theorem ev_congr {x : Opnd} {r r' : Env} (h : ∀ t ∈ x.temps, r t = r' t) : x.ev r = x.ev r' := by
  cases x with
  | t i => exact h i (by simp [Opnd.temps])
  | c v => rfl
theorem evs_congr {xs : List Opnd} {r r' : Env} (h : ∀ t ∈ xs.flatMap (·.temps), r t = r' t) : xs.map (Opnd.ev r) = xs.map (Opnd.ev r') :=
  List.map_congr_left fun x hx => ev_congr fun t ht => h t (List.mem_flatMap.2 ⟨x, hx, ht⟩)
theorem parts_congr {xs : List (Nat × Opnd)} {r r' : Env} (h : ∀ t ∈ xs.flatMap (fun (_, x) => x.temps), r t = r' t) : (xs.map fun (i, x) => (i, x.ev r)) = (xs.map fun (i, x) => (i, x.ev r')) :=
  List.map_congr_left fun p hp => by
    obtain ⟨i, x⟩ := p
    simp only [ev_congr (x := x) (r := r) (r' := r') fun t ht => h t (List.mem_flatMap.2 ⟨(i, x), hp, ht⟩)]
theorem simples_congr {xs : List Opnd} {r r' : Env} (h : ∀ t ∈ xs.flatMap (·.temps), r t = r' t) : (xs.all fun x => (x.ev r).simple) = (xs.all fun x => (x.ev r').simple) := by
  induction xs with
  | nil => rfl
  | cons x xs ih =>
    simp only [List.all_cons]
    rw [ev_congr (x := x) (r := r) (r' := r') fun t ht => h t (by simp [ht]), ih fun t ht => h t (by simp only [List.flatMap_cons, List.mem_append]; exact .inr ht)]
theorem bound_congr {o : Option Opnd} {d : Nat} {r r' : Env} (h : ∀ t ∈ optTemps o, r t = r' t) : bound r o d = bound r' o d := by
  cases o with
  | none => rfl
  | some x => simp only [bound]; rw [ev_congr (x := x) h]

theorem evOp_congr {te : TypeId → ATy} {r r' : Env} {h : H} {nid : Nat} {o : AOp} (hh : ∀ t ∈ o.temps, r t = r' t) : evOp te r h nid o = evOp te r' h nid o := by
  cases o <;> simp only [AOp.temps, List.mem_append] at hh <;> simp only [evOp]
  case pick a b c => rw [ev_congr (x := a) fun t ht => hh t (.inl (.inl ht)), ev_congr (x := b) fun t ht => hh t (.inl (.inr ht)), ev_congr (x := c) fun t ht => hh t (.inr ht)]
  case build t ps => rw [parts_congr hh]
  case buildSlice e n ps => rw [parts_congr hh]
  case mkFn f a b =>
    rw [simples_congr (xs := a) fun t ht => hh t (.inl ht), simples_congr (xs := b) fun t ht => hh t (.inr ht), evs_congr (xs := a) fun t ht => hh t (.inl ht), evs_congr (xs := b) fun t ht => hh t (.inr ht)]
  case sliceA n t e x lo hi => rw [ev_congr (x := x) fun t ht => hh t (.inl (.inl ht)), bound_congr (o := lo) fun t ht => hh t (.inl (.inr ht)), bound_congr (o := hi) fun t ht => hh t (.inr ht)]
  case sliceS e x lo hi =>
    rw [ev_congr (x := x) fun t ht => hh t (.inl (.inl ht))]
    split
    · rw [bound_congr (o := lo) fun t ht => hh t (.inl (.inr ht)), bound_congr (o := hi) fun t ht => hh t (.inr ht)]
    · rw [bound_congr (o := lo) fun t ht => hh t (.inl (.inr ht)), bound_congr (o := hi) fun t ht => hh t (.inr ht)]
    · rfl
  case sliceT x lo hi =>
    rw [ev_congr (x := x) fun t ht => hh t (.inl (.inl ht))]
    split
    · rw [bound_congr (o := lo) fun t ht => hh t (.inl (.inr ht)), bound_congr (o := hi) fun t ht => hh t (.inr ht)]
    · rfl
  all_goals first
    | rfl
    | (rename_i x; rw [ev_congr (x := x) hh]; done)
    | (rename_i x y; rw [ev_congr (x := x) fun t ht => hh t (.inl ht), ev_congr (x := y) fun t ht => hh t (.inr ht)]; done)

theorem callOf_congr {r r' : Env} {o : AOp} (hh : ∀ t ∈ o.temps, r t = r' t) : callOf r o = callOf r' o := by
  cases o <;> simp only [AOp.temps, List.mem_append] at hh <;> simp only [callOf]
  case call f as => rw [evs_congr hh]
  case callv x as => rw [ev_congr (x := x) fun t ht => hh t (.inl ht), evs_congr (xs := as) fun t ht => hh t (.inr ht)]

theorem wantedA_congr {r r' : Env} {o : AOper} (hh : ∀ t ∈ o.temps, r t = r' t) : wantedA r o.guard = wantedA r' o.guard := by
  cases hg : o.guard with
  | none => rfl
  | some gb =>
    obtain ⟨t, b⟩ := gb
    cases t with
    | none => rfl
    | some t =>
      have := hh t (by simp [AOper.temps, hg])
      simp only [wantedA, this]

theorem StepOK.congr {P : Program} {T : Tbl} {base : Nat} {r r' : Env} {h h' : H} {nid : Nat} {o : AOper} {v : AV} (hs : StepOK P T base r h nid o v h') (hh : ∀ t ∈ o.temps, r t = r' t) : StepOK P T base r' h nid o v h' := by
  have h1 : ∀ t ∈ o.op.temps, r t = r' t := fun t ht => hh t (by simp [AOper.temps, ht])
  unfold StepOK at hs ⊢
  rw [← wantedA_congr hh, ← callOf_congr h1, ← evOp_congr h1]
  exact hs

/-! ### reads -/
def AOp.touch (r : Env) : AOp → Option Nat
  | .load _ x => match x.ev r with
    | .ptr b _ _ => some b
    | _ => none
  | .toStr x | .sameB x => match x.ev r with
    | .slice b _ _ _ _ => some b
    | _ => none
  | _ => none

theorem touch_congr {r r' : Env} {o : AOp} (hh : ∀ t ∈ o.temps, r t = r' t) : o.touch r = o.touch r' := by
  cases o <;> simp only [AOp.temps] at hh <;> simp only [AOp.touch]
  all_goals (rename_i x; rw [ev_congr (x := x) hh])

theorem read_congr {h h2 : H} {b : Nat} (hb : h2.get b = h.get b) (p : List Nat) : h2.read b p = h.read b p := by
  unfold H.read
  rw [hb]
theorem elems_congr {h h2 : H} {b : Nat} (hb : h2.get b = h.get b) (p : List Nat) (o l : Nat) : h2.elems b p o l = h.elems b p o l := by
  unfold H.elems
  rw [read_congr hb]

theorem read_ext {te : TypeId → ATy} {r : Env} {h h' h2 : H} {nid nid2 : Nat} {o : AOp} {v : AV} (hr : o.reads = true) (hv : evOp te r h nid o = some (v, h')) (hb : ∀ b, o.touch r = some b → h2.get b = h.get b) : evOp te r h2 nid2 o = some (v, h2) := by
  cases o <;> try (cases hr; done)
  · rename_i t x
    simp only [evOp] at hv ⊢
    simp only [AOp.touch] at hb
    cases hx : x.ev r <;> rw [hx] at hv hb <;> try (cases hv; done)
    rename_i b p t'
    simp only at hv hb ⊢
    split at hv <;> try (cases hv; done)
    rename_i ht
    rw [if_pos ht, read_congr (hb b rfl)]
    simp only [Option.map_eq_some_iff, Prod.mk.injEq] at hv ⊢
    obtain ⟨u, h1, h2, _⟩ := hv
    exact ⟨u, h1, h2, trivial⟩
  · rename_i x
    simp only [evOp] at hv ⊢
    simp only [AOp.touch] at hb
    cases hx : x.ev r <;> rw [hx] at hv hb <;> try (cases hv; done)
    rename_i b p off len e
    simp only at hb
    cases p with
    | cons => simp only at hv; cases hv
    | nil =>
      simp only at hv ⊢
      rw [hb b rfl]
      split at hv <;> try (cases hv; done)
      split at hv <;> try (cases hv; done)
      rename_i hk
      rw [if_neg hk]
      simp only [Option.some.injEq, Prod.mk.injEq] at hv ⊢
      exact ⟨hv.1, trivial⟩
  · rename_i x
    simp only [evOp] at hv ⊢
    simp only [AOp.touch] at hb
    cases hx : x.ev r <;> rw [hx] at hv hb <;> try (cases hv; done)
    · rename_i b p off len e
      simp only at hv hb ⊢
      rw [elems_congr (hb b rfl)]
      split at hv <;> try (cases hv; done)
      simp only [Option.map_eq_some_iff, Prod.mk.injEq] at hv ⊢
      obtain ⟨u, h1, h2, _⟩ := hv
      exact ⟨u, h1, h2, trivial⟩
    · simp only [Option.some.injEq, Prod.mk.injEq] at hv ⊢
      exact ⟨hv.1, trivial⟩

theorem touch_some {te : TypeId → ATy} {r : Env} {h h' : H} {nid b : Nat} {o : AOp} {v : AV} (hv : evOp te r h nid o = some (v, h')) (hb : o.touch r = some b) : h.get b ≠ none := by
  intro hn
  cases o <;> try (cases hb; done)
  · rename_i t x
    simp only [evOp] at hv
    simp only [AOp.touch] at hb
    cases hx : x.ev r <;> rw [hx] at hv hb <;> try (cases hb; done)
    simp only [Option.some.injEq] at hb
    subst hb
    simp only [H.read, hn] at hv
    split at hv <;> cases hv
  · rename_i x
    simp only [evOp] at hv
    simp only [AOp.touch] at hb
    cases hx : x.ev r <;> rw [hx] at hv hb <;> try (cases hb; done)
    rename_i b p off len e
    simp only [Option.some.injEq] at hb
    subst hb
    cases p with
    | cons => simp only at hv; cases hv
    | nil => simp only [hn] at hv; cases hv
  · rename_i x
    simp only [evOp] at hv
    simp only [AOp.touch] at hb
    cases hx : x.ev r <;> rw [hx] at hv hb <;> try (cases hb; done)
    simp only [Option.some.injEq] at hb
    subst hb
    simp only [H.elems, H.read, hn] at hv
    cases hv

theorem touch_phi {P : Program} {φ : Phi} {r : Env} {a : Act} (he : EnvR P φ r a) {o : AOp} (hp : o.plainRead = true) {b : Nat} (hb : o.touch r = some b) : φ b ≠ none := by
  cases o <;> try (cases hb; done)
  all_goals
    rename_i x
    cases x with
    | c _ => cases hp
    | t i =>
      simp only [AOp.touch, Opnd.ev] at hb
      have := he i
      cases hx : r i <;> rw [hx] at hb this <;> try (cases hb; done)
      simp only [Option.some.injEq] at hb
      subst hb
      first
        | (obtain ⟨_, _, _, h1, _⟩ := this; rw [h1]; simp)
        | (obtain ⟨_, _, _, _, _, h1, _⟩ := this; rw [h1]; simp)

/-- what is no effect and no read asks nothing of the heap -/
theorem evOp_blind {te : TypeId → ATy} {r : Env} {h h' : H} {nid : Nat} {o : AOp} {v : AV} (hv : evOp te r h nid o = some (v, h')) (he : o.effect = false) (hr : o.reads = false) :
    (h' = h ∧ ∀ h2, evOp te r h2 nid o = some (v, h2)) ∨ (o.allocs = true ∧ ∃ x, h' = h.newAt nid x ∧ ∀ h2, evOp te r h2 nid o = some (v, h2.newAt nid x)) := by
  cases o <;> simp only [AOp.effect, AOp.reads] at he hr <;> try (first | (cases he; done) | (cases hr; done))
  all_goals
    simp only [evOp] at hv ⊢
    revert hv
    repeat' split
    all_goals
      intro hv
      first
        | (cases hv; done)
        | (simp only [Option.some.injEq, Prod.mk.injEq] at hv; left; refine ⟨hv.2.symm, fun h2 => ?_⟩; simp only [hv.1]; done)
        | (simp only [Option.some.injEq, Prod.mk.injEq] at hv; right; refine ⟨rfl, _, hv.2.symm, fun h2 => ?_⟩; simp only [hv.1]; done)
        | (simp only [Option.map_eq_some_iff, Prod.mk.injEq] at hv; obtain ⟨u, h1, h2, h3⟩ := hv; left; refine ⟨h3.symm, fun h4 => ?_⟩; simp only [h1, Option.map_some, h2]; done)
        | (simp only [Option.map_eq_some_iff, Prod.mk.injEq] at hv; obtain ⟨u, h1, h2, h3⟩ := hv; right; refine ⟨rfl, _, h3.symm, fun h4 => ?_⟩; simp only [h1, Option.map_some, h2]; done)

end Go.Dam

namespace Go.Dam
open Go.RowKit (Below)

/-- the machine's run of a drawn region in the order of the text, and what was looked at -/
structure Trc (P : Program) (T : Tbl) (base : Nat) (ops : Array Oper) (l : List AOper) (conf : Nat → List Nat) (B : Nat → Nat → Bool) (b : Nat) (rs : Nat → Env) (hs : Nat → H) (vs : Nat → AV) : Prop where
  n : l.length = ops.size
  comp : ∀ (i : Nat) o, ops[i]? = some o → ∃ ao, l[i]? = some ao ∧ compileOper P ops o = some ao
  apart : ∀ (i j : Nat) a c, i < j → l[i]? = some a → l[j]? = some c → apartD a c = true
  float : ∀ (i j : Nat) a c, i < j → l[i]? = some a → l[j]? = some c → B i j = false → mayFloat a c = true
  cnf : ∀ (i j : Nat) a c, i < j → l[i]? = some a → l[j]? = some c → B i j = false → confPair a c = true → i ∈ conf j
  edge : ∀ (j : Nat) o, ops[j]? = some o → ∀ e ∈ o.after, Region.binds .any e = true → e.on < j
  bef : ∀ (i j : Nat) o, ops[j]? = some o → B i j = true → ∃ e ∈ o.after, Region.binds .any e = true ∧ (i = e.on ∨ B i e.on = true)
  plain : ∀ (i : Nat) a, l[i]? = some a → a.op.plainRead = true
  step : ∀ (j : Nat) a, l[j]? = some a → StepOK P T base (rs j) (hs j) (b + j) a (vs j) (hs (j + 1)) ∧ rs (j + 1) = (rs j).set a.dst (vs j)
  eff : ∀ (i j : Nat) a c, i < j → l[i]? = some a → l[j]? = some c → c.op.effect = true → a.op.effect = false → a.op.reads = true → wantedA (rs i) a.guard = true → i ∈ conf j → ∃ h'', evOp T.te (rs i) (hs (j + 1)) 0 a.op = some (vs i, h'')
  rd : ∀ (i j : Nat) a c, i < j → l[i]? = some a → l[j]? = some c → a.op.effect = true → c.op.effect = false → c.op.reads = true → wantedA (rs j) c.guard = true → i ∈ conf j → ∃ h'', evOp T.te (rs j) (hs i) 0 c.op = some (vs j, h'')
  next0 : b + ops.size ≤ (hs 0).next
  none0 : ∀ k, k < ops.size → (hs 0).get (b + k) = none

theorem effect_allocs {o : AOp} (h : o.effect = true) : o.allocs = false := by cases o <;> simp_all [AOp.effect, AOp.allocs]
theorem reads_allocs {o : AOp} (h : o.reads = true) : o.allocs = false := by cases o <;> simp_all [AOp.reads, AOp.allocs]

section
variable {P : Program} {T : Tbl} {base : Nat} {ops : Array Oper} {l : List AOper} {conf : Nat → List Nat} {B : Nat → Nat → Bool} {b : Nat} {rs : Nat → Env} {hs : Nat → H} {vs : Nat → AV} (t : Trc P T base ops l conf B b rs hs vs)
include t

theorem Trc.at {i : Nat} (h : i < ops.size) : ∃ a, l[i]? = some a := ⟨_, List.getElem?_eq_getElem (t.n ▸ h)⟩
theorem Trc.lt {i : Nat} {a : AOper} (h : l[i]? = some a) : i < ops.size := by
  rw [← t.n]; exact (List.getElem?_eq_some_iff.1 h).1

theorem Trc.uniq {i j d : Nat} {a c : AOper} (h1 : l[i]? = some a) (h2 : l[j]? = some c) (d1 : a.dst = some d) (d2 : c.dst = some d) : i = j := by
  rcases Nat.lt_trichotomy i j with h | h | h
  · have := t.apart i j a c h h1 h2
    simp [apartD, d1, d2] at this
  · exact h
  · have := t.apart j i c a h h2 h1
    simp [apartD, d1, d2] at this

theorem Trc.env : ∀ m, m ≤ ops.size → (∀ j a d, j < m → l[j]? = some a → a.dst = some d → rs m d = vs j) ∧ (∀ d, (∀ j a, j < m → l[j]? = some a → a.dst ≠ some d) → rs m d = rs 0 d)
  | 0, _ => ⟨fun _ _ _ h => absurd h (Nat.not_lt_zero _), fun _ _ => rfl⟩
  | m + 1, hm => by
    obtain ⟨i1, i2⟩ := Trc.env m (by omega)
    obtain ⟨c, hc⟩ := t.at (i := m) (by omega)
    have hs := (t.step m c hc).2
    have key : ∀ d, c.dst ≠ some d → rs (m + 1) d = rs m d := by
      intro d hd
      rw [hs]
      cases hcd : c.dst with
      | none => rfl
      | some i =>
        have : d ≠ i := fun e => hd (by rw [hcd, e])
        simp [Env.set, this]
    refine ⟨fun j a d hj ha hd => ?_, fun d hd => ?_⟩
    · rcases Nat.lt_or_ge j m with h | h
      · rw [key d (fun e => by have := t.uniq ha hc hd e; omega)]
        exact i1 j a d h ha hd
      · have : j = m := by omega
        subst this
        rw [hc] at ha
        cases ha
        rw [hs, hd]
        simp [Env.set]
    · rw [key d (hd m c (by omega) hc)]
      exact i2 d fun j a hj ha => hd j a (by omega) ha

theorem Trc.nones : ∀ m, m ≤ ops.size → b + ops.size ≤ (hs m).next ∧ ∀ k, k < ops.size → (hs m).get (b + k) ≠ none → k < m ∧ ∃ a, l[k]? = some a ∧ a.op.allocs = true
  | 0, _ => ⟨t.next0, fun k hk h => absurd (t.none0 k hk) h⟩
  | m + 1, hm => by
    obtain ⟨i1, i2⟩ := Trc.nones m (by omega)
    obtain ⟨c, hc⟩ := t.at (i := m) (by omega)
    have hs' := (t.step m c hc).1
    refine ⟨Nat.le_trans i1 hs'.old.1, fun k hk hg => ?_⟩
    by_cases hold : (hs m).get (b + k) = none
    · have hkm : k = m := by
        rcases Nat.lt_trichotomy k m with h | h | h
        · exact absurd (hs'.old.2 (b + k) (by omega) (by omega) hold) hg
        · exact h
        · exact absurd (hs'.old.2 (b + k) (by omega) (by omega) hold) hg
      subst hkm
      refine ⟨by omega, c, hc, ?_⟩
      cases he : c.op.effect
      · rcases hs'.still he with h | ⟨h, _⟩
        · rw [h] at hg; exact absurd hold hg
        · exact h
      · exact absurd ((hs'.oldE (nid' := b + ops.size) he).2 (b + k) (by omega) (by omega) hold) hg
    · obtain ⟨h1, h2⟩ := i2 k hk hold
      exact ⟨by omega, h2⟩

theorem Trc.stay {m : Nat} : ∀ e, m ≤ e → e ≤ ops.size → (∀ k a, m ≤ k → k < e → l[k]? = some a → a.op.effect = false) → (hs e).next = (hs m).next ∧ ∀ x, (hs e).get x = (hs m).get x ∨ ∃ k a, m ≤ k ∧ k < e ∧ l[k]? = some a ∧ a.op.allocs = true ∧ x = b + k
  | 0, h, _, _ => by
    have : m = 0 := by omega
    subst this
    exact ⟨rfl, fun _ => .inl rfl⟩
  | e + 1, h, hn, hne => by
    rcases Nat.lt_or_ge e m with h1 | h1
    · have : m = e + 1 := by omega
      subst this
      exact ⟨rfl, fun _ => .inl rfl⟩
    obtain ⟨i1, i2⟩ := Trc.stay e h1 (by omega) fun k a p q => hne k a p (by omega)
    obtain ⟨c, hc⟩ := t.at (i := e) (by omega)
    have hs' := (t.step e c hc).1
    have hbn := (t.nones e (by omega)).1
    rcases hs'.still (hne e c h1 (by omega) hc) with h2 | ⟨ha, x, h2⟩
    · rw [h2]
      refine ⟨i1, fun y => ?_⟩
      rcases i2 y with h3 | ⟨k, a, p, q, r⟩
      · exact .inl h3
      · exact .inr ⟨k, a, p, by omega, r⟩
    · rw [h2]
      refine ⟨?_, fun y => ?_⟩
      · simp only [H.newAt, if_neg (show b + e ≠ (hs e).next by omega)]
        exact i1
      · rw [H.get_newAt]
        by_cases hy : y = b + e
        · exact .inr ⟨e, c, h1, by omega, hc, ha, hy⟩
        · rw [if_neg hy]
          rcases i2 y with h3 | ⟨k, a, p, q, r⟩
          · exact .inl h3
          · exact .inr ⟨k, a, p, by omega, r⟩

/-- the next effect from a place on -/
theorem Trc.nextEff : ∀ d m, m + d = ops.size → ∃ e, m ≤ e ∧ e ≤ ops.size ∧ (∀ k c, m ≤ k → k < e → l[k]? = some c → c.op.effect = false) ∧ (e = ops.size ∨ ∃ c, l[e]? = some c ∧ c.op.effect = true)
  | 0, m, h => ⟨m, Nat.le_refl _, by omega, fun _ _ _ _ => by omega, .inl (by omega)⟩
  | d + 1, m, h => by
    obtain ⟨c, hc⟩ := t.at (i := m) (by omega)
    cases he : c.op.effect
    · obtain ⟨e, p, q, r, s⟩ := Trc.nextEff d (m + 1) (by omega)
      refine ⟨e, by omega, q, fun k c' h1 h2 h3 => ?_, s⟩
      rcases Nat.lt_or_ge m k with h4 | h4
      · exact r k c' h4 h2 h3
      · have : k = m := by omega
        subst this
        rw [hc] at h3
        cases h3
        exact he
    · exact ⟨m, Nat.le_refl _, by omega, fun _ _ _ _ => by omega, .inr ⟨c, hc, he⟩⟩

/-- the last effect between two places -/
theorem Trc.lastEff (j : Nat) : ∀ e, e ≤ ops.size → (∀ k c, j < k → k < e → l[k]? = some c → c.op.effect = false) ∨ ∃ k c, j < k ∧ k < e ∧ l[k]? = some c ∧ c.op.effect = true ∧ ∀ k' c', k < k' → k' < e → l[k']? = some c' → c'.op.effect = false
  | 0, _ => .inl fun _ _ _ _ => by omega
  | e + 1, he => by
    obtain ⟨c, hc⟩ := t.at (i := e) (by omega)
    cases hce : c.op.effect
    · rcases Trc.lastEff j e (by omega) with h | ⟨k, c', h1, h2, h3, h4, h5⟩
      · refine .inl fun k c' h1 h2 h3 => ?_
        rcases Nat.lt_or_ge k e with h4 | h4
        · exact h k c' h1 h4 h3
        · have : k = e := by omega
          subst this
          rw [hc] at h3
          cases h3
          exact hce
      · refine .inr ⟨k, c', h1, by omega, h3, h4, fun k' c'' p q r => ?_⟩
        rcases Nat.lt_or_ge k' e with h6 | h6
        · exact h5 k' c'' p h6 r
        · have : k' = e := by omega
          subst this
          rw [hc] at r
          cases r
          exact hce
    · rcases Nat.lt_or_ge j e with h | h
      · exact .inr ⟨e, c, h, by omega, hc, hce, fun _ _ _ _ => by omega⟩
      · exact .inl fun _ _ _ _ => by omega
end

/-- where a run of the region in some order stands -/
structure Inv (P : Program) (base : Nat) (ops : Array Oper) (l : List AOper) (b : Nat) (rs : Nat → Env) (hs : Nat → H) (vs : Nat → AV) (listed : Array Bool) (φ : Phi) (a : Act) (w : World) (e : Nat) (hS : H) (rS : Env) : Prop where
  size : listed.size = ops.size
  closed : ∀ j o, ops[j]? = some o → listed.getD j false = true → ∀ x ∈ o.after, Region.binds .any x = true → listed.getD x.on false = true
  ele : e ≤ ops.size
  elow : ∀ k c, k < e → l[k]? = some c → c.op.effect = true → listed.getD k false = true
  ehigh : ∀ k c, e ≤ k → l[k]? = some c → c.op.effect = true → listed.getD k false = false
  eeff : e = ops.size ∨ ∃ c, l[e]? = some c ∧ c.op.effect = true
  next : hS.next = (hs e).next
  getU : ∀ k, k < ops.size → listed.getD k false = false → hS.get (b + k) = none
  getL : ∀ x, (∀ k, k < ops.size → x = b + k → listed.getD k false = true) → hS.get x = (hs e).get x
  phi : ∀ k, k < ops.size → listed.getD k false = false → φ (b + k) = none
  rL : ∀ j c d, listed.getD j false = true → l[j]? = some c → c.dst = some d → rS d = vs j
  rU : ∀ d, (∀ j c, listed.getD j false = true → l[j]? = some c → c.dst ≠ some d) → rS d = rs 0 d
  env : EnvR P φ rS a
  hr : HR P base φ hS w

theorem HR.ext {P : Program} {base : Nat} {φ : Phi} {h h2 : H} {w : World} (hr : HR P base φ h w) (hg : ∀ x, h2.get x = h.get x) (hn : h2.next = h.next) : HR P base φ h2 w :=
  ⟨hr.size, fun b k e xs hb => hr.row b k e xs (by rw [← hg]; exact hb), fun b b' k k' e e' xs xs' i i' hne h1 h2 => hr.apart b b' k k' e e' xs xs' i i' hne (by rw [← hg]; exact h1) (by rw [← hg]; exact h2),
    fun b hb => hr.fresh b (by rw [← hn]; exact hb), fun b es => by rw [hg]; exact hr.nomap b es⟩

theorem set_same {listed : Array Bool} {i : Nat} (h : i < listed.size) : (listed.setIfInBounds i true).getD i false = true := by simp [h]
theorem set_other {listed : Array Bool} {i k : Nat} (h : k ≠ i) : (listed.setIfInBounds i true).getD k false = listed.getD k false := getD_set_ne false (Ne.symm h)

theorem closed_set {ops : Array Oper} {listed : Array Bool} (hcl : ∀ (j : Nat) o, ops[j]? = some o → listed.getD j false = true → ∀ x ∈ o.after, Region.binds .any x = true → listed.getD x.on false = true) {j : Nat} {o : Oper} (ho : ops[j]? = some o) (hall : ∀ x ∈ o.after, Region.binds .any x = true → listed.getD x.on false = true) : ∀ (i : Nat) oi, ops[i]? = some oi → (listed.setIfInBounds j true).getD i false = true → ∀ x ∈ oi.after, Region.binds .any x = true → (listed.setIfInBounds j true).getD x.on false = true := by
  intro i oi hoi hi x hx hb
  by_cases hij : i = j
  · subst hij
    rw [ho] at hoi
    cases hoi
    exact getD_set_true (hall x hx hb)
  · rw [set_other hij] at hi
    exact getD_set_true (hcl i oi hoi hi x hx hb)

section
variable {P : Program} {T : Tbl} {base : Nat} {ops : Array Oper} {l : List AOper} {conf : Nat → List Nat} {B : Nat → Nat → Bool} {b : Nat} {rs : Nat → Env} {hs : Nat → H} {vs : Nat → AV} (t : Trc P T base ops l conf B b rs hs vs)
  {listed : Array Bool} {φ : Phi} {a : Act} {w : World} {e : Nat} {hS : H} {rS : Env} (v : Inv P base ops l b rs hs vs listed φ a w e hS rS)
include t v

theorem Inv.before : ∀ (j i : Nat), j < ops.size → B i j = true → listed.getD j false = true → listed.getD i false = true := by
  intro j
  induction j using Nat.strongRecOn with
  | _ j ih =>
    intro i hj hB hl
    obtain ⟨x, hx, hb, hor⟩ := t.bef i j ops[j] (Array.getElem?_eq_getElem hj) hB
    have hxl := v.closed j ops[j] (Array.getElem?_eq_getElem hj) hl x hx hb
    have hxj := t.edge j ops[j] (Array.getElem?_eq_getElem hj) x hx hb
    rcases hor with rfl | hB'
    · exact hxl
    · exact ih x.on hxj i (by omega) hB' hxl

theorem Inv.ready {j i : Nat} {o : Oper} (ho : ops[j]? = some o) (hall : ∀ x ∈ o.after, Region.binds .any x = true → listed.getD x.on false = true) (hB : B i j = true) : listed.getD i false = true := by
  obtain ⟨x, hx, hb, hor⟩ := t.bef i j o ho hB
  have hj : j < ops.size := (Array.getElem?_eq_some_iff.1 ho).1
  have hxj := t.edge j o ho x hx hb
  rcases hor with rfl | hB'
  · exact hall x hx hb
  · exact v.before t x.on i (by omega) hB' (hall x hx hb)

/-- an operation that is ready sees its slots as in the order of the text -/
theorem Inv.slots {j : Nat} {o : Oper} {c : AOper} (ho : ops[j]? = some o) (hc : l[j]? = some c) (hun : listed.getD j false = false) (hall : ∀ x ∈ o.after, Region.binds .any x = true → listed.getD x.on false = true) :
    ∀ d ∈ c.temps, rs j d = rS d := by
  intro d hd
  have hj := t.lt hc
  obtain ⟨e1, e2⟩ := t.env j (by omega)
  by_cases hex : ∃ (k : Nat) (ck : AOper), l[k]? = some ck ∧ ck.dst = some d
  · obtain ⟨k, ck, hk, hkd⟩ := hex
    rcases Nat.lt_trichotomy k j with h | h | h
    · rw [e1 k ck d h hk hkd]
      have hB : B k j = true := by
        cases hB : B k j
        · have := t.float k j ck c h hk hc hB
          simp [mayFloat, apartT, hkd, hd] at this
        · rfl
      rw [v.rL k ck d (v.ready t ho hall hB) hk hkd]
    · subst h
      rw [e2 d (fun i ci hi hci hcd => by have := t.uniq hci hk hcd hkd; omega)]
      rw [v.rU d (fun i ci hli hci hcd => by have := t.uniq hci hk hcd hkd; subst this; rw [hun] at hli; cases hli)]
    · rw [e2 d (fun i ci hi hci hcd => by have := t.uniq hci hk hcd hkd; omega)]
      rw [v.rU d (fun i ci hli hci hcd => by
        have := t.uniq hci hk hcd hkd
        subst this
        have hB : B j i = true := by
          cases hB : B j i
          · have := t.float j i c ck h hc hk hB
            simp [mayFloat, apartT, hkd, hd] at this
          · rfl
        have := v.before t i j (t.lt hk) hB hli
        rw [hun] at this
        cases this)]
  · rw [e2 d (fun i ci _ hci hcd => hex ⟨i, ci, hci, hcd⟩), v.rU d (fun i ci _ hci hcd => hex ⟨i, ci, hci, hcd⟩)]

theorem Inv.rL' {j : Nat} {c : AOper} (hc : l[j]? = some c) : (∀ i ci d, (listed.setIfInBounds j true).getD i false = true → l[i]? = some ci → ci.dst = some d → (rS.set c.dst (vs j)) d = vs i) ∧ ∀ d, (∀ i ci, (listed.setIfInBounds j true).getD i false = true → l[i]? = some ci → ci.dst ≠ some d) → (rS.set c.dst (vs j)) d = rs 0 d := by
  have key : ∀ d, c.dst ≠ some d → (rS.set c.dst (vs j)) d = rS d := by
    intro d hd
    cases hcd : c.dst with
    | none => rfl
    | some i =>
      have : d ≠ i := fun e => hd (by rw [hcd, e])
      simp [Env.set, this]
  refine ⟨fun i ci d hi hci hd => ?_, fun d hd => ?_⟩
  · by_cases hij : i = j
    · subst hij
      rw [hc] at hci
      cases hci
      rw [hd]
      simp [Env.set]
    · rw [key d (fun e => hij (t.uniq hci hc hd e))]
      rw [set_other hij] at hi
      exact v.rL i ci d hi hci hd
  · have hjs : j < listed.size := by rw [v.size]; exact t.lt hc
    rw [key d (hd j c (set_same hjs) hc)]
    refine v.rU d fun i ci hi hci => hd i ci ?_ hci
    by_cases hij : i = j
    · subst hij; exact set_same hjs
    · rw [set_other hij]; exact hi

/-- an effect that is ready is the next one, and the heap is that of the text -/
theorem Inv.effect {j : Nat} {o : Oper} {c : AOper} (ho : ops[j]? = some o) (hc : l[j]? = some c) (hun : listed.getD j false = false) (hall : ∀ x ∈ o.after, Region.binds .any x = true → listed.getD x.on false = true) (he : c.op.effect = true) :
    j = e ∧ HR P base φ (hs e) w := by
  have hj := t.lt hc
  have hje : j = e := by
    rcases Nat.lt_trichotomy j e with h | h | h
    · have := v.elow j c h hc he
      rw [hun] at this
      cases this
    · exact h
    · rcases v.eeff with h1 | ⟨ce, h1, h2⟩
      · omega
      · have hB : B e j = true := by
          cases hB : B e j
          · have := t.float e j ce c h h1 hc hB
            simp [mayFloat, he, h2] at this
          · rfl
        have := v.ready t ho hall hB
        rw [v.ehigh e ce (Nat.le_refl _) h1 h2] at this
        cases this
  refine ⟨hje, v.hr.ext (fun x => ?_) v.next.symm⟩
  subst hje
  by_cases hx : ∃ k, k < ops.size ∧ x = b + k ∧ listed.getD k false = false
  · obtain ⟨k, hk, rfl, hku⟩ := hx
    rw [v.getU k hk hku]
    by_cases hn : (hs j).get (b + k) = none
    · exact hn
    · obtain ⟨h1, ck, h2, h3⟩ := (t.nones j (by omega)).2 k hk hn
      have hB : B k j = true := by
        cases hB : B k j
        · have := t.float k j ck c h1 h2 hc hB
          simp [mayFloat, he, h3] at this
        · rfl
      have := v.ready t ho hall hB
      rw [hku] at this
      cases this
  · refine (v.getL x fun k hk hxk => ?_).symm
    cases hl : listed.getD k false
    · exact absurd ⟨k, hk, hxk, hl⟩ hx
    · rfl

/-- what is no effect, when it is ready: it does what it did in the order of the text -/
theorem Inv.quiet {j : Nat} {o : Oper} {c : AOper} (ho : ops[j]? = some o) (hc : l[j]? = some c) (hun : listed.getD j false = false) (hall : ∀ x ∈ o.after, Region.binds .any x = true → listed.getD x.on false = true) (he : c.op.effect = false) :
    ∃ hS', StepOK P T base rS hS (b + j) c (vs j) hS' ∧ ((hS' = hS ∧ hs (j + 1) = hs j) ∨ (c.op.allocs = true ∧ ∃ x, hS' = hS.newAt (b + j) x ∧ hs (j + 1) = (hs j).newAt (b + j) x)) := by
  have hj := t.lt hc
  have hsl := v.slots t ho hc hun hall
  have hsl1 : ∀ d ∈ c.op.temps, rs j d = rS d := fun d hd => hsl d (by simp [AOper.temps, hd])
  obtain ⟨hst, _⟩ := t.step j c hc
  rcases hst with ⟨h1, h2, h3⟩ | ⟨h1, h2, h3⟩ | ⟨h1, h2, _⟩
  · exact ⟨hS, .inl ⟨by rw [← wantedA_congr hsl]; exact h1, h2, rfl⟩, .inl ⟨rfl, h3⟩⟩
  · have hw : wantedA rS c.guard = true := by rw [← wantedA_congr hsl]; exact h1
    cases hrd : c.op.reads
    · rcases evOp_blind h3 he hrd with ⟨p1, p2⟩ | ⟨p0, x, p1, p2⟩
      · exact ⟨hS, .inr (.inl ⟨hw, h2, by rw [← evOp_congr hsl1]; exact p2 hS⟩), .inl ⟨rfl, p1⟩⟩
      · exact ⟨hS.newAt (b + j) x, .inr (.inl ⟨hw, h2, by rw [← evOp_congr hsl1]; exact p2 hS⟩), .inr ⟨p0, x, rfl, p1⟩⟩
    · have hsame : hs (j + 1) = hs j := by
        rcases evOp_still h3 he with h | ⟨h, _⟩
        · exact h
        · rw [reads_allocs hrd] at h; cases h
      -- a place of the text where it reads the same
      have hm : ∃ m nid h'', m ≤ e ∧ (∀ k ck, m ≤ k → k < e → l[k]? = some ck → ck.op.effect = false) ∧ evOp T.te (rs j) (hs m) nid c.op = some (vs j, h'') := by
        rcases Nat.lt_or_ge j e with hje | hje
        · rcases t.lastEff j e v.ele with h | ⟨k, ck, p1, p2, p3, p4, p5⟩
          · refine ⟨j, b + j, _, by omega, fun k ck q1 q2 q3 => ?_, h3⟩
            rcases Nat.lt_or_ge j k with q | q
            · exact h k ck q q2 q3
            · have : k = j := by omega
              subst this
              rw [hc] at q3
              cases q3
              exact he
          · have hB : B j k = false := by
              cases hB : B j k
              · rfl
              · have := v.before t k j (t.lt p3) hB (v.elow k ck p2 p3 p4)
                rw [hun] at this
                cases this
            have hcf := t.cnf j k c ck p1 hc p3 hB (by simp [confPair, hrd, p4])
            obtain ⟨h'', hev⟩ := t.eff j k c ck p1 hc p3 p4 he hrd h1 hcf
            exact ⟨k + 1, 0, h'', by omega, fun k' ck' q1 q2 q3 => p5 k' ck' (by omega) q2 q3, hev⟩
        · rcases v.eeff with q1 | ⟨ce, q1, q2⟩
          · omega
          · have hne : e ≠ j := by
              intro h
              subst h
              rw [hc] at q1
              cases q1
              rw [he] at q2
              cases q2
            have hB : B e j = false := by
              cases hB : B e j
              · rfl
              · have := v.ready t ho hall hB
                rw [v.ehigh e ce (Nat.le_refl _) q1 q2] at this
                cases this
            have hcf := t.cnf e j ce c (by omega) q1 hc hB (by simp [confPair, hrd, q2])
            obtain ⟨h'', hev⟩ := t.rd e j ce c (by omega) q1 hc q2 he hrd h1 hcf
            exact ⟨e, 0, h'', Nat.le_refl _, fun _ _ _ _ => by omega, hev⟩
      obtain ⟨m, nid, h'', hme, hno, hev⟩ := hm
      have hrd2 := read_ext (nid2 := b + j) hrd hev (h2 := hS) fun x hx => by
        have hx' : c.op.touch rS = some x := by rw [← touch_congr hsl1]; exact hx
        have hφ := touch_phi v.env (t.plain j c hc) hx'
        have hsome := touch_some hev hx
        have hxl : ∀ k, k < ops.size → x = b + k → listed.getD k false = true := by
          intro k hk hxk
          cases hl : listed.getD k false
          · rw [hxk, v.phi k hk hl] at hφ
            exact absurd rfl hφ
          · rfl
        rw [v.getL x hxl]
        rcases (t.stay e hme v.ele hno).2 x with h | ⟨k, ck, r1, r2, r3, r4, r5⟩
        · exact h
        · rw [r5] at hsome
          have := ((t.nones m (by have := v.ele; omega)).2 k (t.lt r3) hsome).1
          omega
      exact ⟨hS, .inr (.inl ⟨hw, h2, by rw [← evOp_congr hsl1]; exact hrd2⟩), .inl ⟨rfl, hsame⟩⟩
  · rw [isCall_effect h2] at he
    cases he

/-- behind an effect -/
theorem Inv.afterEffect {o : Oper} {c : AOper} {φ' : Phi} {cv : Value} {w' : World} {ntm : Nat} (ho : ops[e]? = some o) (hc : l[e]? = some c) (hun : listed.getD e false = false) (hall : ∀ x ∈ o.after, Region.binds .any x = true → listed.getD x.on false = true) (he : c.op.effect = true) (hdo : o.dst = c.dst)
    (hds : ∀ d, o.dst = some d → d < ntm) (hts : ntm ≤ a.tmps.size) (h1 : PhiNx φ φ' (hs e).next (b + e)) (h2 : VV P φ' (vs e) cv) (h3 : HR P base φ' (hs (e + 1)) w') :
    ∃ e', Inv P base ops l b rs hs vs (listed.setIfInBounds e true) φ' (a.put o.dst cv) w' e' (hs (e + 1)) (rS.set c.dst (vs e)) := by
  have hj := t.lt hc
  have hjs : e < listed.size := by rw [v.size]; exact hj
  obtain ⟨e', q1, q2, q3, q4⟩ := t.nextEff (ops.size - (e + 1)) (e + 1) (by omega)
  have hstay := t.stay e' q1 q2 fun k ck p1 p2 p3 => q3 k ck p1 p2 p3
  have hun' : ∀ k, (listed.setIfInBounds e true).getD k false = false → k ≠ e ∧ listed.getD k false = false := by
    intro k hk
    have : k ≠ e := fun h => by rw [h, set_same hjs] at hk; cases hk
    exact ⟨this, by rw [← set_other this]; exact hk⟩
  obtain ⟨hrL, hrU⟩ := v.rL' t hc
  refine ⟨e', ⟨by simp [v.size], closed_set v.closed ho hall, q2, fun k ck p1 p2 p3 => ?_, fun k ck p1 p2 p3 => ?_, q4, hstay.1.symm, fun k hk hku => ?_, fun x hx => ?_, fun k hk hku => ?_, hrL, hrU, ?_, h3⟩⟩
  · by_cases hke : k = e
    · subst hke; exact set_same hjs
    · rw [set_other hke]
      rcases Nat.lt_or_ge k e with h | h
      · exact v.elow k ck h p2 p3
      · have := q3 k ck (by omega) p1 p2
        rw [p3] at this
        cases this
  · rw [set_other (by omega)]
    exact v.ehigh k ck (by omega) p2 p3
  · obtain ⟨hke, hku⟩ := hun' k hku
    by_cases hn : (hs (e + 1)).get (b + k) = none
    · exact hn
    · obtain ⟨r1, ck, r2, r3⟩ := (t.nones (e + 1) (by omega)).2 k hk hn
      have hB : B k e = true := by
        cases hB : B k e
        · have := t.float k e ck c (by omega) r2 hc hB
          simp [mayFloat, he, r3] at this
        · rfl
      have := v.ready t ho hall hB
      rw [hku] at this
      cases this
  · rcases hstay.2 x with h | ⟨k, ck, r1, r2, r3, r4, r5⟩
    · exact h.symm
    · exfalso
      have hl := hx k (t.lt r3) r5
      rw [set_other (by omega)] at hl
      have hB : B e k = true := by
        cases hB : B e k
        · have := t.float e k c ck (by omega) hc r3 hB
          simp [mayFloat, he, r4] at this
        · rfl
      have := v.before t k e (t.lt r3) hB hl
      rw [hun] at this
      cases this
  · obtain ⟨hke, hku⟩ := hun' k hku
    rw [h1.2 (b + k) (by have := (t.nones e (by omega)).1; omega) (by omega)]
    exact v.phi k hk hku
  · rw [← hdo]
    exact v.env.put h1.1 (fun i hi => Nat.lt_of_lt_of_le (hds i hi) hts) h2

/-- behind anything else -/
theorem Inv.afterQuiet {j : Nat} {o : Oper} {c : AOper} {φ' : Phi} {cv : Value} {w' : World} {ntm : Nat} {hS' : H} (ho : ops[j]? = some o) (hc : l[j]? = some c) (hun : listed.getD j false = false) (hall : ∀ x ∈ o.after, Region.binds .any x = true → listed.getD x.on false = true) (he : c.op.effect = false) (hdo : o.dst = c.dst)
    (hds : ∀ d, o.dst = some d → d < ntm) (hts : ntm ≤ a.tmps.size) (hor : (hS' = hS ∧ hs (j + 1) = hs j) ∨ (c.op.allocs = true ∧ ∃ x, hS' = hS.newAt (b + j) x ∧ hs (j + 1) = (hs j).newAt (b + j) x)) (h1 : PhiNx φ φ' hS.next (b + j)) (h2 : VV P φ' (vs j) cv) (h3 : HR P base φ' hS' w') :
    Inv P base ops l b rs hs vs (listed.setIfInBounds j true) φ' (a.put o.dst cv) w' e hS' (rS.set c.dst (vs j)) := by
  have hj := t.lt hc
  have hjs : j < listed.size := by rw [v.size]; exact hj
  have hun' : ∀ k, (listed.setIfInBounds j true).getD k false = false → k ≠ j ∧ listed.getD k false = false := by
    intro k hk
    have : k ≠ j := fun h => by rw [h, set_same hjs] at hk; cases hk
    exact ⟨this, by rw [← set_other this]; exact hk⟩
  obtain ⟨hrL, hrU⟩ := v.rL' t hc
  have hnx := (t.nones e v.ele).1
  rw [← v.next] at hnx
  have hnext : hS'.next = hS.next := by
    rcases hor with ⟨rfl, _⟩ | ⟨_, x, rfl, _⟩
    · rfl
    · simp only [H.newAt, if_neg (show b + j ≠ hS.next by omega)]
  have hother : ∀ x, x ≠ b + j → hS'.get x = hS.get x := by
    intro x hx
    rcases hor with ⟨rfl, _⟩ | ⟨_, y, rfl, _⟩
    · rfl
    · rw [H.get_newAt, if_neg hx]
  have hne : ∀ k ck, l[k]? = some ck → ck.op.effect = true → k ≠ j := by
    intro k ck p1 p2 p3
    subst p3
    rw [hc] at p1
    cases p1
    rw [he] at p2
    cases p2
  -- the text's heap at the new block
  have hat : (hs e).get (b + j) = (hs (j + 1)).get (b + j) := by
    cases hal : c.op.allocs
    · have n1 : (hs e).get (b + j) = none := by
        by_cases hn : (hs e).get (b + j) = none
        · exact hn
        · obtain ⟨_, c', r1, r2⟩ := (t.nones e v.ele).2 j hj hn
          rw [hc] at r1
          cases r1
          rw [hal] at r2
          cases r2
      have n2 : (hs (j + 1)).get (b + j) = none := by
        by_cases hn : (hs (j + 1)).get (b + j) = none
        · exact hn
        · obtain ⟨_, c', r1, r2⟩ := (t.nones (j + 1) (by omega)).2 j hj hn
          rw [hc] at r1
          cases r1
          rw [hal] at r2
          cases r2
      rw [n1, n2]
    · have hje : j < e := by
        rcases Nat.lt_trichotomy j e with h | h | h
        · exact h
        · rcases v.eeff with r | ⟨ce, r1, r2⟩
          · omega
          · exact absurd h.symm (hne e ce r1 r2)
        · rcases v.eeff with r | ⟨ce, r1, r2⟩
          · omega
          · have hB : B e j = true := by
              cases hB : B e j
              · have := t.float e j ce c h r1 hc hB
                simp [mayFloat, hal, r2] at this
              · rfl
            have := v.ready t ho hall hB
            rw [v.ehigh e ce (Nat.le_refl _) r1 r2] at this
            cases this
      rcases (t.stay (m := j + 1) e (by omega) v.ele fun k ck p1 p2 p3 => by
        cases hk : ck.op.effect
        · rfl
        · have hB : B j k = true := by
            cases hB : B j k
            · have := t.float j k c ck (by omega) hc p3 hB
              simp [mayFloat, hal, hk] at this
            · rfl
          have := v.before t k j (t.lt p3) hB (v.elow k ck p2 p3 hk)
          rw [hun] at this
          cases this).2 (b + j) with h | ⟨k, ck, r1, _, _, _, r5⟩
      · exact h
      · omega
  refine ⟨by simp [v.size], closed_set v.closed ho hall, v.ele, fun k ck p1 p2 p3 => ?_, fun k ck p1 p2 p3 => ?_, v.eeff, by rw [hnext]; exact v.next, fun k hk hku => ?_, fun x hx => ?_, fun k hk hku => ?_, hrL, hrU, ?_, h3⟩
  · exact getD_set_true (v.elow k ck p1 p2 p3)
  · rw [set_other (hne k ck p2 p3)]
    exact v.ehigh k ck p1 p2 p3
  · obtain ⟨hkj, hku⟩ := hun' k hku
    rw [hother _ (by omega)]
    exact v.getU k hk hku
  · by_cases hxj : x = b + j
    · subst hxj
      rw [hat]
      rcases hor with ⟨rfl, r⟩ | ⟨_, y, rfl, r⟩
      · rw [r, v.getU j hj hun]
        by_cases hn : (hs j).get (b + j) = none
        · exact hn.symm
        · have := ((t.nones j (by omega)).2 j hj hn).1
          omega
      · rw [r, H.get_newAt, H.get_newAt]
        simp
    · rw [hother x hxj]
      refine v.getL x fun k hk hxk => ?_
      have := hx k hk hxk
      rw [set_other (by omega)] at this
      exact this
  · obtain ⟨hkj, hku⟩ := hun' k hku
    rw [h1.2 (b + k) (by omega) (by omega)]
    exact v.phi k hk hku
  · rw [← hdo]
    exact v.env.put h1.1 (fun i hi => Nat.lt_of_lt_of_le (hds i hi) hts) h2
end

end Go.Dam

namespace Go.Dam
open Go.RowKit (Below)

theorem filter_le : ∀ (l : List Nat) {p q : Nat → Bool}, (∀ i, i ∈ l → q i = true → p i = true) → (l.filter q).length ≤ (l.filter p).length
  | [], _, _, _ => Nat.le_refl _
  | x :: l, p, q, h => by
    have ih := filter_le l (p := p) (q := q) fun i hi => h i (List.mem_cons_of_mem _ hi)
    by_cases hq : q x = true
    · rw [List.filter_cons_of_pos hq, List.filter_cons_of_pos (h x List.mem_cons_self hq)]
      simpa using ih
    · rw [List.filter_cons_of_neg hq]
      by_cases hp : p x = true
      · rw [List.filter_cons_of_pos hp]
        simp only [List.length_cons]
        omega
      · rw [List.filter_cons_of_neg hp]
        exact ih
theorem filter_lt : ∀ (l : List Nat) {p q : Nat → Bool} {j : Nat}, (∀ i, i ∈ l → q i = true → p i = true) → j ∈ l → p j = true → q j = false → (l.filter q).length < (l.filter p).length
  | [], _, _, _, _, hj, _, _ => by cases hj
  | x :: l, p, q, j, h, hj, hp, hq => by
    by_cases hx : x = j
    · subst hx
      rw [List.filter_cons_of_neg (by simp [hq]), List.filter_cons_of_pos hp]
      have := filter_le l (p := p) (q := q) fun i hi => h i (List.mem_cons_of_mem _ hi)
      simp only [List.length_cons]
      omega
    · have hj' : j ∈ l := by
        cases hj with
        | head => exact absurd rfl hx
        | tail _ h => exact h
      have ih := filter_lt l (fun i hi => h i (List.mem_cons_of_mem _ hi)) hj' hp hq
      by_cases hqx : q x = true
      · rw [List.filter_cons_of_pos hqx, List.filter_cons_of_pos (h x List.mem_cons_self hqx)]
        simpa using ih
      · rw [List.filter_cons_of_neg hqx]
        by_cases hpx : p x = true
        · rw [List.filter_cons_of_pos hpx]
          simp only [List.length_cons]
          omega
        · rw [List.filter_cons_of_neg hpx]
          exact ih

theorem compileOper_dst {P : Program} {ops : Array Oper} {o : Oper} {c : AOper} (h : compileOper P ops o = some c) : o.dst = c.dst := by
  simp only [compileOper, Option.map_eq_some_iff] at h
  obtain ⟨_, _, rfl⟩ := h
  rfl

section
variable {P : Program} {T : Tbl} {base : Nat} {ops : Array Oper} {l : List AOper} {conf : Nat → List Nat} {B : Nat → Nat → Bool} {b : Nat} {rs : Nat → Env} {hs : Nat → H} {vs : Nat → AV}

theorem Inv.done (t : Trc P T base ops l conf B b rs hs vs) {listed : Array Bool} {φ : Phi} {a : Act} {w : World} {e : Nat} {hS : H} {rS : Env} (v : Inv P base ops l b rs hs vs listed φ a w e hS rS)
    (hall : ∀ k, k < ops.size → listed.getD k false = true) : HR P base φ (hs ops.size) w ∧ EnvR P φ (rs ops.size) a := by
  have he : e = ops.size := by
    rcases v.eeff with h | ⟨c, h1, h2⟩
    · exact h
    · have := v.ehigh e c (Nat.le_refl _) h1 h2
      rw [hall e (t.lt h1)] at this
      cases this
  subst he
  refine ⟨v.hr.ext (fun x => (v.getL x fun k hk _ => hall k hk).symm) v.next.symm, ?_⟩
  obtain ⟨e1, e2⟩ := t.env ops.size (Nat.le_refl _)
  have : rS = rs ops.size := by
    funext d
    by_cases hex : ∃ (k : Nat) (ck : AOper), l[k]? = some ck ∧ ck.dst = some d
    · obtain ⟨k, ck, hk, hkd⟩ := hex
      rw [e1 k ck d (t.lt hk) hk hkd, v.rL k ck d (hall k (t.lt hk)) hk hkd]
    · rw [e2 d fun i ci _ hci hcd => hex ⟨i, ci, hci, hcd⟩, v.rU d fun i ci _ hci hcd => hex ⟨i, ci, hci, hcd⟩]
  rw [← this]
  exact v.env

theorem draw_any (g : Good P) (hT : T.te = teOf P) (t : Trc P T base ops l conf B b rs hs vs) {ntm : Nat} (hds : ∀ (i : Nat) o d, ops[i]? = some o → o.dst = some d → d < ntm)
    {φ0 : Phi} {w0 : World} {nx : Nat} (hnx : nx ≤ b) {Q : Exit → Act → World → Prop}
    (hQ : ∀ φ' a' w', HR P base φ' (hs ops.size) w' → EnvR P φ' (rs ops.size) a' → PhiLe φ0 φ' → (∀ x, x < nx → φ' x = φ0 x) → Below base w0 w' → a'.defers = [] → ntm ≤ a'.tmps.size → Q .normal a' w') :
    ∀ fuel listed φ a w e hS rS, Inv P base ops l b rs hs vs listed φ a w e hS rS → ((List.range ops.size).filter fun i => !listed.getD i false).length ≤ fuel → PhiLe φ0 φ → (∀ x, x < nx → φ x = φ0 x) → Below base w0 w → a.defers = [] → ntm ≤ a.tmps.size →
      wpAny P .any ops Q fuel listed a w := by
  have fin : ∀ listed φ a w e hS rS, Inv P base ops l b rs hs vs listed φ a w e hS rS → PhiLe φ0 φ → (∀ x, x < nx → φ x = φ0 x) → Below base w0 w → a.defers = [] → ntm ≤ a.tmps.size →
      Region.ready .any ops listed = [] → Q .normal a w := by
    intro listed φ a w e hS rS v h1 h2 h3 h4 h5 hr
    have hall : ∀ k, k < ops.size → listed.getD k false = true := by
      intro k
      induction k using Nat.strongRecOn with
      | _ k ih =>
        intro hk
        cases hl : listed.getD k false
        · have : k ∈ Region.ready .any ops listed := by
            rw [mem_ready]
            refine ⟨?_, ops[k], Array.getElem?_eq_getElem hk, fun x hx hb => ih x.on (t.edge k _ (Array.getElem?_eq_getElem hk) x hx hb) (by have := t.edge k _ (Array.getElem?_eq_getElem hk) x hx hb; omega)⟩
            have hks : k < listed.size := by rw [v.size]; exact hk
            simp [hks] at hl ⊢
            exact hl
          rw [hr] at this
          cases this
        · rfl
    obtain ⟨q1, q2⟩ := v.done t hall
    exact hQ φ a w q1 q2 h1 h2 h3 h4 h5
  intro fuel
  induction fuel with
  | zero =>
    intro listed φ a w e hS rS v hc h1 h2 h3 h4 h5
    have hr : Region.ready .any ops listed = [] := by
      cases hr : Region.ready .any ops listed with
      | nil => rfl
      | cons x xs =>
        have hx : x ∈ Region.ready .any ops listed := by rw [hr]; exact List.mem_cons_self
        obtain ⟨p1, o, p2, _⟩ := mem_ready.1 hx
        have hxs : x < ops.size := (Array.getElem?_eq_some_iff.1 p2).1
        have : x ∈ (List.range ops.size).filter fun i => !listed.getD i false := by
          rw [List.mem_filter, List.mem_range]
          refine ⟨hxs, ?_⟩
          have hks : x < listed.size := by rw [v.size]; exact hxs
          simp [hks] at p1 ⊢
          exact p1
        rw [List.length_eq_zero_iff.1 (Nat.le_zero.1 hc)] at this
        cases this
    exact ⟨hr, fin listed φ a w e hS rS v h1 h2 h3 h4 h5 hr⟩
  | succ fuel ih =>
    intro listed φ a w e hS rS v hc h1 h2 h3 h4 h5
    refine ⟨fin listed φ a w e hS rS v h1 h2 h3 h4 h5, fun j hj => ?_⟩
    obtain ⟨p1, o, ho, hall⟩ := mem_ready.1 hj
    have hjs : j < ops.size := (Array.getElem?_eq_some_iff.1 ho).1
    have hjl : j < listed.size := by rw [v.size]; exact hjs
    have hun : listed.getD j false = false := by
      simp [hjl] at p1 ⊢
      exact p1
    obtain ⟨c, hcl, hco⟩ := t.comp j o ho
    have hdo := compileOper_dst hco
    have hcnt : ((List.range ops.size).filter fun i => !(listed.setIfInBounds j true).getD i false).length ≤ fuel := by
      have := filter_lt (List.range ops.size) (p := fun i => !listed.getD i false) (q := fun i => !(listed.setIfInBounds j true).getD i false) (j := j) (fun i _ hi => by
        by_cases hij : i = j
        · subst hij
          rw [set_same hjl] at hi
          cases hi
        · rw [set_other hij] at hi
          exact hi) (List.mem_range.2 hjs) (by simp only [hun, Bool.not_false]) (by simp only [set_same hjl, Bool.not_true])
      omega
    have hds' : ∀ d, o.dst = some d → d < ntm := fun d hd => hds j o d ho hd
    cases hef : c.op.effect
    · obtain ⟨hS', hst, hor⟩ := v.quiet t ho hcl hun hall hef
      have hnxt := (t.nones e v.ele).1
      rw [← v.next] at hnxt
      refine oper_sound g hT v.hr v.env ho hco hst (fun _ => ⟨v.phi j hjs hun, by omega⟩) fun φ' cv w' q1 q2 q3 q4 => ?_
      refine ih _ φ' _ w' e hS' _ (v.afterQuiet t ho hcl hun hall hef hdo hds' h5 hor q1 q2 q3) hcnt (h1.trans q1.1) (fun x hx => (q1.2 x (by omega) (by omega)).trans (h2 x hx)) (h3.trans q4) (by rw [put_defers]; exact h4) (by rw [put_size]; exact h5)
    · obtain ⟨rfl, hr⟩ := v.effect t ho hcl hun hall hef
      have hnxt := (t.nones j (by omega)).1
      refine oper_sound g hT hr v.env ho hco ((t.step j c hcl).1.congr (v.slots t ho hcl hun hall)) (fun h => by rw [effect_allocs hef] at h; cases h) fun φ' cv w' q1 q2 q3 q4 => ?_
      obtain ⟨e', v'⟩ := v.afterEffect t ho hcl hun hall hef hdo hds' h5 q1 q2 q3
      refine ih _ φ' _ w' e' _ _ v' hcnt (h1.trans q1.1) (fun x hx => (q1.2 x (by omega) (by omega)).trans (h2 x hx)) (h3.trans q4) (by rw [put_defers]; exact h4) (by rw [put_size]; exact h5)

/-- at the start nothing has run -/
theorem Inv.start (t : Trc P T base ops l conf B b rs hs vs) {φ : Phi} {a : Act} {w : World} (hr : HR P base φ (hs 0) w) (he : EnvR P φ (rs 0) a) (hφ : ∀ k, k < ops.size → φ (b + k) = none) :
    ∃ e, Inv P base ops l b rs hs vs (Array.replicate ops.size false) φ a w e (hs 0) (rs 0) := by
  obtain ⟨e, q1, q2, q3, q4⟩ := t.nextEff ops.size 0 (by omega)
  have hf : ∀ k, (Array.replicate ops.size false).getD k false = false := by
    intro k
    simp [Array.getElem?_replicate]
    split <;> simp
  obtain ⟨s1, s2⟩ := t.stay (m := 0) e (by omega) q2 q3
  refine ⟨e, by simp, fun j o _ hl => (by rw [hf] at hl; cases hl), q2, fun k c p1 p2 p3 => ?_, fun k _ _ _ _ => hf k, q4, s1.symm, fun k hk _ => t.none0 k hk, fun x hx => ?_, fun k hk _ => hφ k hk, fun j _ _ hl => (by rw [hf] at hl; cases hl), fun _ _ => rfl, he, hr⟩
  · rw [q3 k c (Nat.zero_le _) p1 p2] at p3
    cases p3
  · rcases s2 x with h | ⟨k, ck, _, _, r3, _, r5⟩
    · exact h.symm
    · have := hx k (t.lt r3) r5
      rw [hf] at this
      cases this
end

/-! ### what the compiler checked of a drawn region -/
theorem befEdges_spec {acc : List Nat} {j : Nat} : ∀ {es : List Edge} {m : Nat}, befEdges acc j es = some m → (∀ e ∈ es, Region.binds .any e = true → e.on < j) ∧ ∀ i, m.testBit i = true → ∃ e ∈ es, Region.binds .any e = true ∧ (i = e.on ∨ (acc.getD e.on 0).testBit i = true)
  | [], m, h => by
    simp only [befEdges, Option.some.injEq] at h
    subst h
    exact ⟨fun e he => (by cases he), fun i hi => by simp at hi⟩
  | e :: es, m, h => by
    simp only [befEdges] at h
    split at h
    · rename_i hb
      split at h <;> try (cases h; done)
      rename_i hlt
      simp only [Option.map_eq_some_iff] at h
      obtain ⟨m', h, rfl⟩ := h
      obtain ⟨i1, i2⟩ := befEdges_spec h
      refine ⟨fun e' he' hb' => ?_, fun i hi => ?_⟩
      · cases he' with
        | head => exact hlt
        | tail _ he' => exact i1 e' he' hb'
      · rw [Nat.testBit_or, Nat.testBit_or, Bool.or_eq_true, Bool.or_eq_true] at hi
        rcases hi with hi | hi | hi
        · obtain ⟨e', p1, p2⟩ := i2 i hi
          exact ⟨e', List.mem_cons_of_mem _ p1, p2⟩
        · exact ⟨e, List.mem_cons_self, hb, .inr hi⟩
        · refine ⟨e, List.mem_cons_self, hb, .inl ?_⟩
          simp only [Nat.testBit_shiftLeft, Bool.and_eq_true, decide_eq_true_eq] at hi
          obtain ⟨h1, h2⟩ := hi
          have := Nat.testBit_one_eq_true_iff_self_eq_zero.1 h2
          omega
    · rename_i hb
      obtain ⟨i1, i2⟩ := befEdges_spec h
      refine ⟨fun e' he' hb' => ?_, fun i hi => ?_⟩
      · cases he' with
        | head => exact absurd hb' hb
        | tail _ he' => exact i1 e' he' hb'
      · obtain ⟨e', p1, p2⟩ := i2 i hi
        exact ⟨e', List.mem_cons_of_mem _ p1, p2⟩

theorem befs_spec : ∀ {l : List Oper} {acc : List Nat} {j : Nat} {bs : List Nat}, befs acc j l = some bs → acc.length = j → (∀ i, i < j → bs.getD i 0 = acc.getD i 0) ∧ ∀ (k : Nat) o, l[k]? = some o → (∀ e ∈ o.after.toList, Region.binds .any e = true → e.on < j + k) ∧
    ∀ i, (bs.getD (j + k) 0).testBit i = true → ∃ e ∈ o.after.toList, Region.binds .any e = true ∧ (i = e.on ∨ (bs.getD e.on 0).testBit i = true)
  | [], acc, j, bs, h, hl => by
    simp only [befs, Option.some.injEq] at h
    subst h
    exact ⟨fun _ _ => rfl, fun k o ho => by simp at ho⟩
  | o :: l, acc, j, bs, h, hl => by
    simp only [befs] at h
    split at h <;> try (cases h; done)
    rename_i m hm
    rw [forced_eq] at h
    obtain ⟨i1, i2⟩ := befs_spec h (by simp [hl])
    have hacc : ∀ i, i < j → bs.getD i 0 = acc.getD i 0 := by
      intro i hi
      rw [i1 i (by omega)]
      simp [List.getElem?_append_left (show i < acc.length by omega)]
    refine ⟨hacc, fun k o' ho' => ?_⟩
    cases k with
    | zero =>
      simp only [List.getElem?_cons_zero, Option.some.injEq] at ho'
      subst ho'
      obtain ⟨p1, p2⟩ := befEdges_spec hm
      refine ⟨p1, fun i hi => ?_⟩
      have : bs.getD (j + 0) 0 = m := by
        rw [Nat.add_zero, i1 j (by omega)]
        simp [← hl]
      rw [this] at hi
      obtain ⟨e, q1, q2, q3⟩ := p2 i hi
      refine ⟨e, q1, q2, ?_⟩
      rw [hacc e.on (p1 e q1 q2)]
      exact q3
    | succ k =>
      simp only [List.getElem?_cons_succ] at ho'
      obtain ⟨p1, p2⟩ := i2 k o' ho'
      have e1 : j + 1 + k = j + (k + 1) := by omega
      rw [e1] at p1 p2
      exact ⟨p1, p2⟩

theorem drawOps_spec {before : List Nat} {l : List AOper} {l' : List (AOper × List Nat)} (h : drawOps before l = some l') :
    l'.length = l.length ∧ (∀ (j : Nat) c, l[j]? = some c → c.op.plainRead = true ∧ ∃ cf, l'[j]? = some (c, cf) ∧
      ∀ (i : Nat) a, i < j → l[i]? = some a → apartD a c = true ∧ ((before.getD j 0).testBit i = false → mayFloat a c = true ∧ (confPair a c = true → i ∈ cf))) ∧ ∀ (j : Nat) c cf, l'[j]? = some (c, cf) → l[j]? = some c := by
  unfold drawOps at h
  simp only at h
  split at h <;> try (cases h; done)
  rename_i hall
  simp only [Option.some.injEq] at h
  subst h
  have hz : ∀ (j : Nat) c, l[j]? = some c → (l.zipIdx)[j]? = some (c, j) := fun j c hc => by simp [List.getElem?_zipIdx, hc]
  refine ⟨by simp, fun j c hc => ?_, fun j c cf hc => ?_⟩
  · have hcj := List.all_eq_true.1 hall (c, j) (List.mem_of_getElem? (hz j c hc))
    simp only [Bool.and_eq_true, List.all_eq_true] at hcj
    refine ⟨hcj.1, _, by rw [List.getElem?_map, hz j c hc]; rfl, fun i a hi ha => ?_⟩
    have hmem : (a, i) ∈ (l.zipIdx).take j := List.mem_of_getElem? (i := i) (by rw [List.getElem?_take, if_pos hi]; exact hz i a ha)
    have h2 := hcj.2 (a, i) hmem
    simp only [Bool.or_eq_true] at h2
    refine ⟨h2.1, fun hb => ⟨h2.2.resolve_left (by rw [hb]; simp), fun hcp => ?_⟩⟩
    exact List.mem_map.2 ⟨(a, i), List.mem_filter.2 ⟨hmem, by simp only [hb, hcp]; rfl⟩, rfl⟩
  · rw [List.getElem?_map, Option.map_eq_some_iff] at hc
    obtain ⟨⟨x, k⟩, h1, h2⟩ := hc
    simp only [Prod.mk.injEq] at h2
    rw [List.getElem?_zipIdx, Option.map_eq_some_iff] at h1
    obtain ⟨y, h3, h4⟩ := h1
    simp only [Prod.mk.injEq] at h4
    rw [h3, h4.1, h2.1]

end Go.Dam

namespace Go.Dam
open Go.RowKit (Below)

/-! ### what a run leaves alone -/
def itemsGE (m : Nat) : List Item → Prop
  | [] => True
  | .dops b _ _ _ _ :: k => m ≤ b ∧ itemsGE m k
  | _ :: k => itemsGE m k

theorem itemsGE_exit {m id : Nat} : ∀ {k k' : List Item}, itemsGE m k → exitA id k = some k' → itemsGE m k'
  | [], _, _, h => by simp [exitA] at h
  | i :: k, k', h, he => by
    cases i with
    | inBlock j =>
      simp only [exitA] at he
      split at he
      · simp only [Option.some.injEq] at he
        subst he
        exact h
      · exact itemsGE_exit (k := k) h he
    | dops => exact itemsGE_exit h.2 he
    | _ => exact itemsGE_exit (k := k) h he

theorem exec_old (T : Tbl) : ∀ (n : Nat) (items : List Item) (r : Env) (h : H) (r' : Env) (h' : H) (m : Nat), exec T n items r h = some (r', h') → m ≤ h.next → itemsGE m items →
    h.next ≤ h'.next ∧ ∀ b, b < m → h.get b = none → h'.get b = none := by
  intro n
  induction n with
  | zero => intro items r h r' h' m he; simp [exec] at he
  | succ n ih =>
    intro items r h r' h' m he hm hg
    have two : ∀ {items1 : List Item} {r1 : Env} {h1 : H} {nid : Nat}, Old h h1 nid → m ≤ nid → exec T n items1 r1 h1 = some (r', h') → itemsGE m items1 → h.next ≤ h'.next ∧ ∀ b, b < m → h.get b = none → h'.get b = none := by
      intro items1 r1 h1 nid ho hn he hg
      obtain ⟨p1, p2⟩ := ih items1 r1 h1 r' h' m he (Nat.le_trans hm ho.1) hg
      exact ⟨Nat.le_trans ho.1 p1, fun b hb hn' => p2 b hb (ho.2 b (by omega) (by omega) hn')⟩
    have call : ∀ {f : FuncId} {args : List AV} {F : AFunc} {r1 : Env} {h1 : H}, exec T n [.code F.body] (envOf args) h = some (r1, h1) → Old h h1 h.next := by
      intro f args F r1 h1 he1
      obtain ⟨p1, p2⟩ := ih [.code F.body] (envOf args) h r1 h1 h.next he1 (Nat.le_refl _) trivial
      exact ⟨p1, fun b hb _ hn => p2 b hb hn⟩
    have stp : ∀ {o : AOper} {nid0 : Nat} {v : AV} {h1 : H}, m ≤ nid0 → stepR T (fun F args => exec T n [.code F.body] (envOf args) h) r h nid0 o = some (v, h1) → ∃ nid, m ≤ nid ∧ Old h h1 nid := by
      intro o nid0 v h1 hn hstep
      unfold stepR at hstep
      split at hstep
      · split at hstep
        · split at hstep <;> try (cases hstep; done)
          split at hstep
          · simp only [Option.some.injEq, Prod.mk.injEq] at hstep
            rw [← hstep.2]
            exact ⟨h.next, hm, Old.refl _ _⟩
          · split at hstep <;> try (cases hstep; done)
            split at hstep <;> try (cases hstep; done)
            rename_i h2 he1
            split at hstep <;> try (cases hstep; done)
            simp only [Option.some.injEq, Prod.mk.injEq] at hstep
            rw [← hstep.2]
            exact ⟨h.next, hm, call (f := 0) he1⟩
        · exact ⟨nid0, hn, evOp_old hstep⟩
      · simp only [Option.some.injEq, Prod.mk.injEq] at hstep
        rw [← hstep.2]
        exact ⟨h.next, hm, Old.refl _ _⟩
    cases items with
    | nil => simp only [exec, Option.some.injEq, Prod.mk.injEq] at he; rw [← he.2]; exact ⟨Nat.le_refl _, fun _ _ h => h⟩
    | cons i k =>
      cases i with
      | code c =>
        cases c with
        | skip => exact ih k _ _ _ _ m he hm hg
        | reg ops => exact ih _ _ _ _ _ m he hm hg
        | draw ops =>
          simp only [exec] at he
          obtain ⟨p1, p2⟩ := ih _ r (h.bump ops.length) r' h' m he (Nat.le_trans hm (Nat.le_add_right _ _)) ⟨hm, hg⟩
          exact ⟨Nat.le_trans (Nat.le_add_right _ _) p1, p2⟩
        | seq a b => exact ih _ _ _ _ _ m he hm hg
        | cond c a b =>
          simp only [exec] at he
          split at he <;> try (cases he; done)
          split at he
          · exact ih _ _ _ _ _ m he hm hg
          · exact ih _ _ _ _ _ m he hm hg
        | block id a => exact ih _ _ _ _ _ m he hm hg
        | loop a => exact ih _ _ _ _ _ m he hm hg
        | exit id =>
          simp only [exec] at he
          split at he <;> try (cases he; done)
          rename_i k' hk'
          exact ih k' _ _ _ _ m he hm (itemsGE_exit (k := k) hg hk')
        | scope a => exact ih _ _ _ _ _ m he hm hg
        | ret => simp only [exec, Option.some.injEq, Prod.mk.injEq] at he; rw [← he.2]; exact ⟨Nat.le_refl _, fun _ _ h => h⟩
      | inBlock id => exact ih k _ _ _ _ m he hm hg
      | inLoop a => exact ih _ _ _ _ _ m he hm hg
      | ops l =>
        cases l with
        | nil => exact ih k _ _ _ _ m he hm hg
        | cons o l =>
          simp only [exec] at he
          split at he <;> try (cases he; done)
          rename_i v h1 hstep
          obtain ⟨nid, hn, ho⟩ := stp hm hstep
          exact two ho hn he hg
      | dops b i l rd ef =>
        cases l with
        | nil => exact ih k _ _ _ _ m he hm hg.2
        | cons oc l =>
          obtain ⟨o, conf⟩ := oc
          simp only [exec] at he
          split at he <;> try (cases he; done)
          rename_i v h1 hstep
          obtain ⟨nid, hn, ho⟩ := stp (Nat.le_trans hg.1 (Nat.le_add_right _ _)) hstep
          have hg' : ∀ rd' ef', itemsGE m (.dops b (i + 1) l rd' ef' :: k) := fun _ _ => ⟨hg.1, hg.2⟩
          split at he
          · split at he <;> try (cases he; done)
            exact two ho hn he (hg' _ _)
          · split at he
            · split at he <;> try (cases he; done)
              exact two ho hn he (hg' _ _)
            · exact two ho hn he (hg' _ _)

/-! ### the trace of a drawn region -/
theorem undisturbed_spec {te : TypeId → ATy} {conf : List Nat} {h' : H} {rd : List (Nat × AOp × Env × AV)} (h : undisturbed te conf h' rd = true) {i : Nat} {op : AOp} {r : Env} {v : AV} (hm : (i, op, r, v) ∈ rd) (hc : i ∈ conf) : ∃ h'', evOp te r h' 0 op = some (v, h'') := by
  have := List.all_eq_true.1 h _ hm
  simp only [Bool.or_eq_true, Bool.not_eq_true', List.contains_eq_mem, decide_eq_false_iff_not] at this
  rcases this with h1 | h1
  · exact absurd hc h1
  · split at h1
    · rename_i v' h'' he
      rw [beq_eq h1] at he
      exact ⟨h'', he⟩
    · cases h1
theorem unmoved_spec {te : TypeId → ATy} {conf : List Nat} {r : Env} {op : AOp} {v : AV} {ef : List (Nat × H)} (h : unmoved te conf r op v ef = true) {i : Nat} {h0 : H} (hm : (i, h0) ∈ ef) (hc : i ∈ conf) : ∃ h'', evOp te r h0 0 op = some (v, h'') := by
  have := List.all_eq_true.1 h _ hm
  simp only [Bool.or_eq_true, Bool.not_eq_true', List.contains_eq_mem, decide_eq_false_iff_not] at this
  rcases this with h1 | h1
  · exact absurd hc h1
  · split at h1
    · rename_i v' h'' he
      rw [beq_eq h1] at he
      exact ⟨h'', he⟩
    · cases h1

/-- what a trace holds, with what was noted before it -/
def TStep (P : Program) (T : Tbl) (base b i : Nat) (rd : List (Nat × AOp × Env × AV)) (ef : List (Nat × H)) (l : List (AOper × List Nat)) (rs : Nat → Env) (hs : Nat → H) (vs : Nat → AV) : Prop :=
  ∀ (j : Nat) o c, l[j]? = some (o, c) →
    (StepOK P T base (rs (i + j)) (hs (i + j)) (b + (i + j)) o (vs (i + j)) (hs (i + j + 1)) ∧ rs (i + j + 1) = (rs (i + j)).set o.dst (vs (i + j))) ∧
    (o.op.effect = true → (∀ i' op r' v, (i', op, r', v) ∈ rd → i' ∈ c → ∃ h'', evOp T.te r' (hs (i + j + 1)) 0 op = some (v, h'')) ∧
      ∀ (j' : Nat) o' c', j' < j → l[j']? = some (o', c') → o'.op.effect = false → o'.op.reads = true → wantedA (rs (i + j')) o'.guard = true → i + j' ∈ c → ∃ h'', evOp T.te (rs (i + j')) (hs (i + j + 1)) 0 o'.op = some (vs (i + j'), h'')) ∧
    (o.op.effect = false → o.op.reads = true → wantedA (rs (i + j)) o.guard = true → (∀ i' h0, (i', h0) ∈ ef → i' ∈ c → ∃ h'', evOp T.te (rs (i + j)) h0 0 o.op = some (vs (i + j), h'')) ∧
      ∀ (j' : Nat) o' c', j' < j → l[j']? = some (o', c') → o'.op.effect = true → i + j' ∈ c → ∃ h'', evOp T.te (rs (i + j)) (hs (i + j')) 0 o.op = some (vs (i + j), h''))

/-- the machine's step of an operation, as the step of a region -/
theorem stepOK_of {P : Program} {T : Tbl} {base n : Nat} (hT : TblOK P T) {r : Env} {h : H} {o : AOper} {nid : Nat} {v : AV} {h1 : H}
    (callg : ∀ f F args h r1 h1 vs, T.fn f = some F → exec T n [.code F.body] (envOf args) h = some (r1, h1) → resOf r1 h1 F.results = some vs → CallGood P base f args h vs h1)
    (hstep : stepR T (fun F args => exec T n [.code F.body] (envOf args) h) r h nid o = some (v, h1)) : StepOK P T base r h nid o v h1 := by
  unfold stepR at hstep
  split at hstep
  · rename_i hw
    split at hstep
    · rename_i hic
      split at hstep <;> try (cases hstep; done)
      rename_i f args hco
      split at hstep
      · rename_i vs hx
        simp only [Option.some.injEq, Prod.mk.injEq] at hstep
        obtain ⟨rfl, rfl⟩ := hstep
        exact .inr (.inr ⟨hw, hic, f, args, vs, hco, rfl, ext_good (hT.ext f args vs hx)⟩)
      · split at hstep <;> try (cases hstep; done)
        rename_i F hF
        split at hstep <;> try (cases hstep; done)
        rename_i r2 h2 he1
        split at hstep <;> try (cases hstep; done)
        rename_i vs' hres
        simp only [Option.some.injEq, Prod.mk.injEq] at hstep
        obtain ⟨rfl, rfl⟩ := hstep
        exact .inr (.inr ⟨hw, hic, f, args, vs', hco, rfl, callg f F args h r2 h2 vs' hF he1 hres⟩)
    · rename_i hic
      exact .inr (.inl ⟨hw, by simpa using hic, hstep⟩)
  · rename_i hw
    simp only [Option.some.injEq, Prod.mk.injEq] at hstep
    obtain ⟨rfl, rfl⟩ := hstep
    exact .inl ⟨by simpa using hw, rfl, rfl⟩

theorem trace {P : Program} {T : Tbl} (hT : TblOK P T) {base N b : Nat} {k : List Item} {R : Env × H}
    (callg : ∀ m f F args h r1 h1 vs, m < N → T.fn f = some F → exec T m [.code F.body] (envOf args) h = some (r1, h1) → resOf r1 h1 F.results = some vs → CallGood P base f args h vs h1) :
    ∀ (l : List (AOper × List Nat)) (m i : Nat) (rd : List (Nat × AOp × Env × AV)) (ef : List (Nat × H)) (r : Env) (h : H), m ≤ N → exec T m (.dops b i l rd ef :: k) r h = some R →
      ∃ rs hs vs m', m' < m ∧ rs i = r ∧ hs i = h ∧ exec T m' k (rs (i + l.length)) (hs (i + l.length)) = some R ∧ TStep P T base b i rd ef l rs hs vs := by
  intro l
  induction l with
  | nil =>
    intro m i rd ef r h hm he
    cases m with
    | zero => simp [exec] at he
    | succ m =>
      simp only [exec] at he
      exact ⟨fun _ => r, fun _ => h, fun _ => undefA, m, by omega, rfl, rfl, he, fun j o c hj => by simp at hj⟩
  | cons oc l ih =>
    intro m i rd ef r h hm he
    obtain ⟨o, conf⟩ := oc
    cases m with
    | zero => simp [exec] at he
    | succ m =>
      simp only [exec] at he
      split at he <;> try (cases he; done)
      rename_i v h1 hstep
      have hso : StepOK P T base r h (b + i) o v h1 := stepOK_of hT (fun f F args h r1 h1 vs => callg m f F args h r1 h1 vs (by omega)) hstep
      -- the rest, by what was noted
      have go : ∀ rd' ef', exec T m (.dops b (i + 1) l rd' ef' :: k) (r.set o.dst v) h1 = some R → (∀ x, x ∈ rd → x ∈ rd') → (∀ x, x ∈ ef → x ∈ ef') →
          (o.op.effect = true → undisturbed T.te conf h1 rd = true ∧ (i, h) ∈ ef') → (o.op.effect = false → o.op.reads = true → wantedA r o.guard = true → unmoved T.te conf r o.op v ef = true ∧ (i, o.op, r, v) ∈ rd') →
          ∃ rs hs vs m', m' < m + 1 ∧ rs i = r ∧ hs i = h ∧ exec T m' k (rs (i + (l.length + 1))) (hs (i + (l.length + 1))) = some R ∧ TStep P T base b i rd ef ((o, conf) :: l) rs hs vs := by
        intro rd' ef' he' hrd hef heff hread
        obtain ⟨rs, hs, vs, m', q1, q2, q3, q4, q5⟩ := ih m (i + 1) rd' ef' _ _ (by omega) he'
        obtain ⟨rsn, r0, rn⟩ : ∃ f : Nat → Env, f i = r ∧ ∀ x, x ≠ i → f x = rs x := ⟨fun x => if x = i then r else rs x, if_pos rfl, fun x hx => if_neg hx⟩
        obtain ⟨hsn, h0, hn⟩ : ∃ f : Nat → H, f i = h ∧ ∀ x, x ≠ i → f x = hs x := ⟨fun x => if x = i then h else hs x, if_pos rfl, fun x hx => if_neg hx⟩
        obtain ⟨vsn, v0, vn⟩ : ∃ f : Nat → AV, f i = v ∧ ∀ x, x ≠ i → f x = vs x := ⟨fun x => if x = i then v else vs x, if_pos rfl, fun x hx => if_neg hx⟩
        refine ⟨rsn, hsn, vsn, m', by omega, r0, h0, ?_, ?_⟩
        · rw [rn _ (by omega), hn _ (by omega), show i + (l.length + 1) = i + 1 + l.length by omega]
          exact q4
        · intro j o1 c1 hj
          cases j with
          | zero =>
            simp only [List.getElem?_cons_zero, Option.some.injEq, Prod.mk.injEq] at hj
            obtain ⟨rfl, rfl⟩ := hj
            simp only [Nat.add_zero]
            rw [r0, h0, v0, rn (i + 1) (by omega), hn (i + 1) (by omega), q2, q3]
            refine ⟨⟨hso, rfl⟩, fun he1 => ⟨fun i' op r' v' hmem hc => undisturbed_spec (heff he1).1 hmem hc, fun j' _ _ hj' => absurd hj' (Nat.not_lt_zero _)⟩, fun he1 hr1 hw1 => ⟨fun i' h0 hmem hc => unmoved_spec (hread he1 hr1 hw1).1 hmem hc, fun j' _ _ hj' => absurd hj' (Nat.not_lt_zero _)⟩⟩
          | succ j =>
            simp only [List.getElem?_cons_succ] at hj
            have e1 : i + (j + 1) = i + 1 + j := by omega
            obtain ⟨p1, p2, p3⟩ := q5 j o1 c1 hj
            rw [e1, rn (i + 1 + j) (by omega), hn (i + 1 + j) (by omega), vn (i + 1 + j) (by omega), rn (i + 1 + j + 1) (by omega), hn (i + 1 + j + 1) (by omega)]
            refine ⟨p1, fun he1 => ⟨fun i' op r' v' hmem hc => (p2 he1).1 i' op r' v' (hrd _ hmem) hc, fun j' o' c' hj' hl' e2 e3 e4 e5 => ?_⟩, fun he1 hr1 hw1 => ⟨fun i' h0 hmem hc => (p3 he1 hr1 hw1).1 i' h0 (hef _ hmem) hc, fun j' o' c' hj' hl' e2 e3 => ?_⟩⟩
            · cases j' with
              | zero =>
                simp only [List.getElem?_cons_zero, Option.some.injEq, Prod.mk.injEq] at hl'
                obtain ⟨rfl, rfl⟩ := hl'
                simp only [Nat.add_zero] at e4 e5 ⊢
                rw [r0] at e4 ⊢
                rw [v0]
                exact (p2 he1).1 i o.op r v (hread e2 e3 e4).2 e5
              | succ j' =>
                simp only [List.getElem?_cons_succ] at hl'
                have e6 : i + (j' + 1) = i + 1 + j' := by omega
                rw [e6] at e4 e5 ⊢
                rw [rn (i + 1 + j') (by omega)] at e4 ⊢
                rw [vn (i + 1 + j') (by omega)]
                exact (p2 he1).2 j' o' c' (by omega) hl' e2 e3 e4 e5
            · cases j' with
              | zero =>
                simp only [List.getElem?_cons_zero, Option.some.injEq, Prod.mk.injEq] at hl'
                obtain ⟨rfl, rfl⟩ := hl'
                simp only [Nat.add_zero] at e3 ⊢
                rw [h0]
                exact (p3 he1 hr1 hw1).1 i h (heff e2).2 e3
              | succ j' =>
                simp only [List.getElem?_cons_succ] at hl'
                have e6 : i + (j' + 1) = i + 1 + j' := by omega
                rw [e6] at e3 ⊢
                rw [hn (i + 1 + j') (by omega)]
                exact (p3 he1 hr1 hw1).2 j' o' c' (by omega) hl' e2 e3
      split at he
      · rename_i hef
        split at he <;> try (cases he; done)
        rename_i hun
        exact go rd ((i, h) :: ef) he (fun _ h => h) (fun _ h => List.mem_cons_of_mem _ h) (fun _ => ⟨hun, List.mem_cons_self⟩) (fun h2 => by rw [hef] at h2; cases h2)
      · rename_i hef
        split at he
        · rename_i hrw
          split at he <;> try (cases he; done)
          rename_i hun
          exact go ((i, o.op, r, v) :: rd) ef he (fun _ h => List.mem_cons_of_mem _ h) (fun _ h => h) (fun h2 => absurd h2 hef) (fun _ _ _ => ⟨hun, List.mem_cons_self⟩)
        · rename_i hrw
          exact go rd ef he (fun _ h => h) (fun _ h => h) (fun h2 => absurd h2 hef) (fun _ h2 h3 => by simp [h2, h3] at hrw)

end Go.Dam

namespace Go.Dam
open Go.RowKit (Below)

/-- what is left of a loop's round -/
def LoopIn (P : Program) (c : Code) (Q : Exit → Act → World → Prop) (a : Act) (w : World) : Prop :=
  ∀ (b : Frame) (k : List Go.Item) (cs : List Frame), ∃ e a' w', Q e a' w' ∧ Arrives P (lone (b.at a (.inLoop c :: k)) cs w) b k cs e a' w'

theorem loopIn_of {P : Program} {c : Code} {Q : Exit → Act → World → Prop} {a : Act} {w : World} (h : c.wp P (Exit.then (LoopIn P c Q) Q) a w) : LoopIn P c Q a w ∧ (Code.loop c).wp P Q a w := by
  have key : ∀ (b : Frame) (k : List Go.Item) (cs : List Frame), ∃ e a' w', Q e a' w' ∧ Arrives P (lone (b.at a (.code c :: .inLoop c :: k)) cs w) b k cs e a' w' := by
    intro b k cs
    obtain ⟨e, a₁, w₁, hq, harr⟩ := h b (.inLoop c :: k) cs
    cases e with
    | normal =>
      obtain ⟨e₂, a₂, w₂, hq₂, harr₂⟩ := hq b k cs
      exact ⟨e₂, a₂, w₂, hq₂, .of_steps harr harr₂⟩
    | exit id => exact ⟨_, a₁, w₁, hq, .pass (x := .inLoop c) rfl (fun _ _ => .inl (by simp)) harr⟩
    | goto l => exact ⟨_, a₁, w₁, hq, .pass (x := .inLoop c) rfl (fun _ _ => .inl (by simp)) harr⟩
    | ret => exact ⟨_, a₁, w₁, hq, .pass (x := .inLoop c) rfl (fun _ _ => .inl (by simp)) harr⟩
    | panic ch => exact ⟨_, a₁, w₁, hq, .pass (x := .inLoop c) rfl (fun _ _ => .inl (by simp)) harr⟩
    | outgrown => exact ⟨_, a₁, w₁, hq, .pass (x := .inLoop c) rfl (fun _ _ => .inl (by simp)) harr⟩
  refine ⟨fun b k cs => ?_, fun b k cs => ?_⟩
  · obtain ⟨e, a', w', hq, harr⟩ := key b k cs
    exact ⟨e, a', w', hq, .of_steps (.one step_inLoop) harr⟩
  · obtain ⟨e, a', w', hq, harr⟩ := key b k cs
    exact ⟨e, a', w', hq, .of_steps (.one step_loop) harr⟩

/-- the operations of a region that are yet to run -/
def OpsIdx (P : Program) (ops : Array Oper) (ntm : Nat) : List Nat → List AOper → Prop
  | [], [] => True
  | i :: is, o :: l => (∃ x, ops[i]? = some x ∧ compileOper P ops x = some o ∧ ∀ d, x.dst = some d → d < ntm) ∧ OpsIdx P ops ntm is l
  | _, _ => False

/-- what the model's code must still show where the machine has these items to run -/
def KRel (P : Program) (ntm : Nat) (Q : Exit → Act → World → Prop) : List Item → (Exit → Act → World → Prop) → Prop
  | [], K => K = Q
  | .code ca :: k, K => ∃ c K', compile P c = some ca ∧ dstsOK ntm c = true ∧ KRel P ntm Q k K' ∧ K = Exit.then (c.wp P K') K'
  | .inBlock id :: k, K => ∃ K', KRel P ntm Q k K' ∧ K = Exit.inBlock id K'
  | .inLoop ca :: k, K => ∃ c K', compile P c = some ca ∧ dstsOK ntm c = true ∧ KRel P ntm Q k K' ∧ K = Exit.then (LoopIn P c K') K'
  | .ops l :: k, K => ∃ ops idx K', OpsIdx P ops ntm idx l ∧ KRel P ntm Q k K' ∧ K = Exit.then (wpOps P ops K' idx) K'
  | .dops .. :: _, _ => False

theorem krel_exit {P : Program} {ntm : Nat} {Q : Exit → Act → World → Prop} {id : Nat} : ∀ {k k' : List Item} {K}, KRel P ntm Q k K → exitA id k = some k' → ∃ K', KRel P ntm Q k' K' ∧ ∀ a w, K' .normal a w → K (.exit id) a w
  | [], _, _, _, h => by simp [exitA] at h
  | i :: k, k', K, hk, he => by
    cases i with
    | inBlock j =>
      obtain ⟨K1, h1, rfl⟩ := hk
      simp only [exitA] at he
      split at he
      · rename_i hj
        simp only [Option.some.injEq] at he
        subst he
        exact ⟨K1, h1, fun a w h => by simp only [Exit.inBlock, hj, if_true]; exact h⟩
      · rename_i hj
        obtain ⟨K2, h2, h3⟩ := krel_exit h1 he
        refine ⟨K2, h2, fun a w h => ?_⟩
        simp only [Exit.inBlock, if_neg (fun e => hj (Eq.symm e))]
        exact h3 a w h
    | code c =>
      obtain ⟨_, K1, _, _, h1, rfl⟩ := hk
      obtain ⟨K2, h2, h3⟩ := krel_exit (k := k) h1 he
      exact ⟨K2, h2, h3⟩
    | inLoop c =>
      obtain ⟨_, K1, _, _, h1, rfl⟩ := hk
      obtain ⟨K2, h2, h3⟩ := krel_exit (k := k) h1 he
      exact ⟨K2, h2, h3⟩
    | ops l =>
      obtain ⟨_, _, K1, _, h1, rfl⟩ := hk
      obtain ⟨K2, h2, h3⟩ := krel_exit (k := k) h1 he
      exact ⟨K2, h2, h3⟩
    | dops => exact hk.elim

theorem krel_ret {P : Program} {ntm : Nat} {Q : Exit → Act → World → Prop} : ∀ {k : List Item} {K}, KRel P ntm Q k K → (∀ a w, Q .ret a w → K .ret a w) ∧ ∀ l a w, K (.goto l) a w → Q (.goto l) a w
  | [], _, h => by
    have h : _ = Q := h
    subst h
    exact ⟨fun _ _ h => h, fun _ _ _ h => h⟩
  | i :: k, K, hk => by
    cases i with
    | inBlock j => obtain ⟨K1, h1, rfl⟩ := hk; have h2 := krel_ret (k := k) h1; exact ⟨h2.1, h2.2⟩
    | code c => obtain ⟨_, K1, _, _, h1, rfl⟩ := hk; have h2 := krel_ret (k := k) h1; exact ⟨h2.1, h2.2⟩
    | inLoop c => obtain ⟨_, K1, _, _, h1, rfl⟩ := hk; have h2 := krel_ret (k := k) h1; exact ⟨h2.1, h2.2⟩
    | ops l => obtain ⟨_, _, K1, _, h1, rfl⟩ := hk; have h2 := krel_ret (k := k) h1; exact ⟨h2.1, h2.2⟩
    | dops => exact hk.elim

theorem compileOps_at {P : Program} {ops : Array Oper} : ∀ {l : List Oper} {as : List AOper}, compileOps P ops l = some as → as.length = l.length ∧ ∀ (i : Nat) o, l[i]? = some o → ∃ c, as[i]? = some c ∧ compileOper P ops o = some c
  | [], as, h => by
    simp only [compileOps, Option.some.injEq] at h
    subst h
    exact ⟨rfl, fun i o h => by simp at h⟩
  | o :: l, as, h => by
    simp only [compileOps] at h
    split at h <;> try (cases h; done)
    rename_i c as' h1 h2
    simp only [Option.some.injEq] at h
    subst h
    obtain ⟨i1, i2⟩ := compileOps_at h2
    refine ⟨by simp [i1], fun i o' ho => ?_⟩
    cases i with
    | zero => simp at ho; subst ho; exact ⟨c, rfl, h1⟩
    | succ i => simp at ho; simpa using i2 i o' ho

theorem opsIdx_of {P : Program} {ops : Array Oper} {ntm : Nat} (hd : ∀ (i : Nat) o d, ops[i]? = some o → o.dst = some d → d < ntm) : ∀ (l : List Oper) (as : List AOper) (j : Nat), (∀ (i : Nat) o, l[i]? = some o → ops[j + i]? = some o) → compileOps P ops l = some as → OpsIdx P ops ntm (List.range' j l.length) as
  | [], as, j, _, h => by
    simp only [compileOps, Option.some.injEq] at h
    subst h
    exact trivial
  | o :: l, as, j, hj, h => by
    simp only [compileOps] at h
    split at h <;> try (cases h; done)
    rename_i c as' h1 h2
    simp only [Option.some.injEq] at h
    subst h
    simp only [List.length_cons, List.range'_succ]
    have h0 := hj 0 o rfl
    refine ⟨⟨o, h0, h1, fun d hd' => hd _ o d h0 hd'⟩, opsIdx_of hd l as' (j + 1) (fun i o' ho' => ?_) h2⟩
    have := hj (i + 1) o' (by simpa using ho')
    rw [show j + 1 + i = j + (i + 1) by omega]
    exact this

theorem dsts_of {n id : Nat} {ops : Array Oper} {dr : Bool} (h : dstsOK n (.region id ops dr) = true) : ∀ (i : Nat) o d, ops[i]? = some o → o.dst = some d → d < n := by
  intro i o d ho hd
  have hm : o ∈ ops.toList := Array.mem_toList_iff.2 (Array.mem_of_getElem? ho)
  have := List.all_eq_true.1 h o hm
  simp only [hd, decide_eq_true_eq] at this
  exact this

theorem HR.bump {P : Program} {base : Nat} {φ : Phi} {h : H} {w : World} (hr : HR P base φ h w) (n : Nat) : HR P base φ (h.bump n) w :=
  ⟨hr.size, hr.row, hr.apart, fun b hb => hr.fresh b (Nat.le_trans (Nat.le_add_right _ _) hb), hr.nomap⟩

theorem below_drawn {base : Nat} (w : World) (n : Nat) : Below base w { w with drawn := n } := ⟨rfl, rfl, rfl, Nat.le_refl _, fun _ _ => rfl⟩

theorem exec_sound {P : Program} (g : Good P) {T : Tbl} (hT : TblOK P T) {base : Nat} : ∀ (n : Nat) (items : List Item) (r : Env) (h : H) (r' : Env) (h' : H), exec T n items r h = some (r', h') →
    ∀ (Q : Exit → Act → World → Prop) (ntm : Nat) (K : Exit → Act → World → Prop) (φ0 : Phi) (w0 : World) (nx0 : Nat) (φ : Phi) (a : Act) (w : World), KRel P ntm Q items K → HR P base φ h w → EnvR P φ r a → St base φ0 w0 nx0 φ w h.next → a.defers = [] → ntm ≤ a.tmps.size →
      (∀ l a w, ¬ Q (.goto l) a w) →
      (∀ e φ' a' w', e = .normal ∨ e = .ret → HR P base φ' h' w' → EnvR P φ' r' a' → St base φ0 w0 nx0 φ' w' h'.next → a'.defers = [] → Q e a' w') → K .normal a w := by
  intro n
  induction n using Nat.strongRecOn with
  | _ n IH =>
    -- calls
    have callg : ∀ m f F args h r1 h1 vs, m < n → T.fn f = some F → exec T m [.code F.body] (envOf args) h = some (r1, h1) → resOf r1 h1 F.results = some vs → CallGood P base f args h vs h1 := by
      intro m f F args h r1 h1 vs hm hF he hres
      obtain ⟨fn, c, p1, p2, p3, p4, p5, p6⟩ := compileFn_parts (hT.fn f F hF)
      refine ⟨exec_old T m _ _ _ _ _ h.next he (Nat.le_refl _) trivial, ⟨fn, c, p1, p2, p3⟩, fun φ w cargs hr hl hv => ?_⟩
      refine calls_of_wp p1 p2 ?_
      have hsz : fn.ntmps ≤ (cargs.toArray ++ Array.replicate (fn.ntmps - cargs.toArray.size) undef).size := by
        simp only [Array.size_append, Array.size_replicate]
        omega
      refine IH m hm [.code F.body] (envOf args) h r1 h1 he (bodyPost P fn _) fn.ntmps (Exit.then (c.wp P (bodyPost P fn _)) (bodyPost P fn _)) φ w h.next φ ⟨cargs.toArray ++ Array.replicate (fn.ntmps - cargs.toArray.size) undef, []⟩ w ⟨c, bodyPost P fn _, p5, p4, rfl, rfl⟩ hr ?_ (St.refl _ _ _ _) rfl hsz (fun _ _ _ h => h) ?_
      · intro t
        unfold envOf
        rw [Array.getD_eq_getD_getElem?, Array.getElem?_append]
        rcases Nat.lt_or_ge t cargs.length with q | q
        · have q' : t < args.length := hl ▸ q
          rw [if_pos (by simpa using q), List.getElem?_eq_getElem q']
          simp only [List.getElem?_toArray, List.getElem?_eq_getElem q, Option.getD_some]
          exact hv t _ _ (List.getElem?_eq_getElem q') (List.getElem?_eq_getElem q)
        · rw [if_neg (by simp; omega), List.getElem?_eq_none (by omega)]
          have : ((Array.replicate (fn.ntmps - cargs.toArray.size) undef)[t - cargs.toArray.size]?).getD undef = undef := by
            rw [Array.getElem?_replicate]
            split <;> rfl
          rw [this]
          exact undef_VV
      · intro e φ' a' w' he' hr' hE' hs' hd'
        obtain ⟨cv, q1, q2⟩ := results_run g hr' hE' p6 hres
        rcases he' with rfl | rfl
        · exact ⟨hd', cv, q1, cv, φ', rfl, q2, hr', hs'⟩
        · exact ⟨hd', cv, q1, cv, φ', rfl, q2, hr', hs'⟩
    cases n with
    | zero => intro items r h r' h' he; simp [exec] at he
    | succ n =>
      intro items r h r' h' he Q ntm K φ0 w0 nx0 φ a w hk hr hE hS hd hsz hgo hQ
      have ih := fun items r h he K φ a w hk hr hE hS hd hsz => IH n (Nat.lt_succ_self n) items r h r' h' he Q ntm K φ0 w0 nx0 φ a w hk hr hE hS hd hsz hgo hQ
      cases items with
      | nil =>
        have hk : K = Q := hk
        subst hk
        simp only [exec, Option.some.injEq, Prod.mk.injEq] at he
        obtain ⟨rfl, rfl⟩ := he
        exact hQ .normal φ a w (.inl rfl) hr hE hS hd
      | cons i k =>
        cases i with
        | code ca =>
          obtain ⟨c, K', hc, hds, hk', rfl⟩ := hk
          show c.wp P K' a w
          cases c <;> simp only [compile] at hc
          case skip =>
            simp only [Option.some.injEq] at hc
            subst hc
            exact wp_skip (ih k r h he K' φ a w hk' hr hE hS hd hsz)
          case label =>
            simp only [Option.some.injEq] at hc
            subst hc
            exact wp_label (ih k r h he K' φ a w hk' hr hE hS hd hsz)
          case region id ops dr =>
            split at hc <;> try (cases hc; done)
            rename_i lops hlops
            have hdst := dsts_of hds
            cases dr
            · simp only [Bool.false_eq_true, if_false, Option.some.injEq] at hc
              subst hc
              refine wp_region ?_
              have hidx := opsIdx_of hdst ops.toList lops 0 (fun i o ho => by simpa using ho) hlops
              rw [← List.range_eq_range'] at hidx
              exact ih (.ops lops :: k) r h he _ φ a w ⟨ops, _, K', by simpa using hidx, hk', rfl⟩ hr hE hS hd hsz
            · simp only [if_true] at hc
              split at hc <;> try (cases hc; done)
              rename_i bs hbs
              simp only [Option.map_eq_some_iff] at hc
              obtain ⟨l', hdr, rfl⟩ := hc
              simp only [exec] at he
              obtain ⟨rs, hs, vs, m', t1, t2, t3, t4, t5⟩ := trace hT (base := base) (N := n) (fun m f F args h r1 h1 vs hm => callg m f F args h r1 h1 vs (by omega)) l' n 0 [] [] r (h.bump l'.length) (Nat.le_refl _) he
              obtain ⟨d1, d2, d3⟩ := drawOps_spec hdr
              obtain ⟨c1, c2⟩ := compileOps_at hlops
              obtain ⟨b1, b2⟩ := befs_spec hbs rfl
              simp only [Nat.zero_add] at b2 t4
              have hlen : l'.length = ops.size := by rw [d1, c1]; simp
              have fstof : ∀ (j : Nat) c, lops[j]? = some c → ∃ cf, l'[j]? = some (c, cf) := fun j c hc => (d2 j c hc).2.elim fun cf h => ⟨cf, h.1⟩
              have ts : ∀ (j : Nat) o c, l'[j]? = some (o, c) → _ := t5
              have t : Trc P T base ops lops (fun j => match l'[j]? with | some (_, cf) => cf | none => []) (fun i j => (bs.getD j 0).testBit i) h.next rs hs vs := by
                refine ⟨by rw [c1]; simp, fun i o ho => c2 i o (by simpa using ho), fun i j a c hij ha hc => ?_, fun i j a c hij ha hc hB => ?_, fun i j a c hij ha hc hB hcp => ?_, fun j o ho e he hb => (b2 j o (by simpa using ho)).1 e (by simpa using he) hb, fun i j o ho hB => ?_, fun i a ha => (d2 i a ha).1, fun j a ha => ?_, fun i j a c hij ha hc e1 e2 e3 e4 e5 => ?_, fun i j a c hij ha hc e1 e2 e3 e4 e5 => ?_, ?_, fun j hj => ?_⟩
                · obtain ⟨_, cf, _, q⟩ := d2 j c hc
                  exact (q i a hij ha).1
                · obtain ⟨_, cf, _, q⟩ := d2 j c hc
                  exact ((q i a hij ha).2 hB).1
                · obtain ⟨_, cf, q0, q⟩ := d2 j c hc
                  simp only [q0]
                  exact ((q i a hij ha).2 hB).2 hcp
                · obtain ⟨e, q1, q2⟩ := (b2 j o (by simpa using ho)).2 i hB
                  exact ⟨e, by simpa using q1, q2⟩
                · obtain ⟨cf, q⟩ := fstof j a ha
                  have := (t5 j a cf q).1
                  simpa only [Nat.zero_add] using this
                · obtain ⟨cf, q⟩ := fstof j c hc
                  obtain ⟨cf', q'⟩ := fstof i a ha
                  have := ((t5 j c cf q).2.1 e1).2 i a cf' hij q' e2 e3 (by simpa only [Nat.zero_add] using e4) (by simpa only [Nat.zero_add, q] using e5)
                  simpa only [Nat.zero_add] using this
                · obtain ⟨cf, q⟩ := fstof j c hc
                  obtain ⟨cf', q'⟩ := fstof i a ha
                  have := ((t5 j c cf q).2.2 e2 e3 (by simpa only [Nat.zero_add] using e4)).2 i a cf' hij q' e1 (by simpa only [Nat.zero_add, q] using e5)
                  simpa only [Nat.zero_add] using this
                · rw [t3, ← hlen]
                  exact Nat.le_refl _
                · rw [t3]
                  cases hg : h.get (h.next + j) with
                  | none => exact hg
                  | some x => have := hr.lt hg; omega
              refine wp_region_any g.mixed ?_
              obtain ⟨e0, v0⟩ := Inv.start t (φ := φ) (a := a) (w := { w with drawn := w.drawn + 1 }) (by rw [t3]; exact (hr.bump _).of_heap rfl) (by rw [t2]; exact hE) (fun j hj => hr.fresh _ (by omega))
              refine draw_any g hT.te t hdst (φ0 := φ0) (w0 := w0) (nx := nx0) hS.nx (fun φ' a' w' q1 q2 q3 q4 q5 q6 q7 => ?_) ops.size _ φ a _ e0 _ _ v0 ?_ hS.le hS.old (hS.below.trans (below_drawn _ _)) hd hsz
              · rw [← hlen] at q1 q2
                have hnx := (t.nones ops.size (Nat.le_refl _)).1
                refine IH m' (by omega) k _ _ r' h' t4 Q ntm K' φ0 w0 nx0 φ' a' w' hk' q1 q2 ⟨q3, q4, ?_, q5⟩ q6 q7 hgo hQ
                rw [← hlen] at hnx
                have := hS.nx
                omega
              · exact Nat.le_trans (List.length_filter_le _ _) (by simp)
          case seq x y =>
            split at hc <;> try (cases hc; done)
            rename_i x' y' hx hy
            simp only [Option.some.injEq] at hc
            subst hc
            simp only [dstsOK, Bool.and_eq_true] at hds
            exact wp_seq (ih (.code x' :: .code y' :: k) r h he _ φ a w ⟨x, _, hx, hds.1, ⟨y, K', hy, hds.2, hk', rfl⟩, rfl⟩ hr hE hS hd hsz)
          case cond cnd x y =>
            split at hc <;> try (cases hc; done)
            rename_i c' x' y' hcn hx hy
            simp only [Option.some.injEq] at hc
            subst hc
            simp only [dstsOK, Bool.and_eq_true] at hds
            simp only [exec] at he
            have hcv := opnd_VV hE hcn
            split at he <;> try (cases he; done)
            rename_i tt htt
            rw [htt] at hcv
            have hcv := (VV_bool hcv tt).1 rfl
            cases tt
            · simp only [Bool.false_eq_true, if_false] at he
              exact wp_cond hcv (ih (.code y' :: k) r h he _ φ a w ⟨y, K', hy, hds.2, hk', rfl⟩ hr hE hS hd hsz)
            · simp only [if_true] at he
              exact wp_cond hcv (ih (.code x' :: k) r h he _ φ a w ⟨x, K', hx, hds.1, hk', rfl⟩ hr hE hS hd hsz)
          case block id x =>
            simp only [Option.map_eq_some_iff] at hc
            obtain ⟨x', hx, rfl⟩ := hc
            exact wp_block (ih (.code x' :: .inBlock id :: k) r h he _ φ a w ⟨x, _, hx, hds, ⟨K', hk', rfl⟩, rfl⟩ hr hE hS hd hsz)
          case loop x =>
            simp only [Option.map_eq_some_iff] at hc
            obtain ⟨x', hx, rfl⟩ := hc
            exact (loopIn_of (ih (.code x' :: .inLoop x' :: k) r h he _ φ a w ⟨x, _, hx, hds, ⟨x, K', hx, hds, hk', rfl⟩, rfl⟩ hr hE hS hd hsz)).2
          case exit id =>
            simp only [Option.some.injEq] at hc
            subst hc
            simp only [exec] at he
            split at he <;> try (cases he; done)
            rename_i k2 hk2
            obtain ⟨K2, q1, q2⟩ := krel_exit hk' hk2
            exact wp_exit (q2 a w (ih k2 r h he K2 φ a w q1 hr hE hS hd hsz))
          case scope x =>
            simp only [Option.map_eq_some_iff] at hc
            obtain ⟨x', hx, rfl⟩ := hc
            have := ih (.code x' :: k) r h he _ φ a w ⟨x, K', hx, hds, hk', rfl⟩ hr hE hS hd hsz
            refine wp_scope_straight (wp_mono this fun e a w hq => ?_)
            cases e with
            | goto l => exact (hgo l a w ((krel_ret hk').2 l a w hq)).elim
            | _ => exact hq
          case ret =>
            simp only [Option.some.injEq] at hc
            subst hc
            simp only [exec, Option.some.injEq, Prod.mk.injEq] at he
            obtain ⟨rfl, rfl⟩ := he
            exact wp_ret ((krel_ret hk').1 a w (hQ .ret φ a w (.inr rfl) hr hE hS hd))
          all_goals (cases hc)
        | inBlock id =>
          obtain ⟨K', hk', rfl⟩ := hk
          exact ih k r h he K' φ a w hk' hr hE hS hd hsz
        | inLoop ca =>
          obtain ⟨c, K', hc, hds, hk', rfl⟩ := hk
          exact (loopIn_of (ih (.code ca :: .inLoop ca :: k) r h he _ φ a w ⟨c, _, hc, hds, ⟨c, K', hc, hds, hk', rfl⟩, rfl⟩ hr hE hS hd hsz)).1
        | ops l =>
          obtain ⟨ops, idx, K', hidx, hk', rfl⟩ := hk
          show wpOps P ops K' idx a w
          cases l with
          | nil =>
            cases idx with
            | nil => exact ih k r h he K' φ a w hk' hr hE hS hd hsz
            | cons => exact hidx.elim
          | cons o l =>
            cases idx with
            | nil => exact hidx.elim
            | cons j idx =>
              obtain ⟨⟨x, hx, hco, hdx⟩, hidx⟩ := hidx
              rw [wpOps_cons]
              have step : ∀ v h1, StepOK P T base r h h.next o v h1 → exec T n (.ops l :: k) (r.set o.dst v) h1 = some (r', h') → wpOp P ops K' j (wpOps P ops K' idx) a w := by
                intro v h1 hst he
                refine oper_sound g hT.te hr hE hx hco hst (fun _ => ⟨hr.fresh _ (Nat.le_refl _), Nat.le_refl _⟩) fun φ' cv w' q1 q2 q3 q4 => ?_
                have hE' : EnvR P φ' (r.set o.dst v) (a.put x.dst cv) := by
                  rw [← compileOper_dst hco]
                  exact hE.put q1.1 (fun i hi => Nat.lt_of_lt_of_le (hdx i hi) hsz) q2
                exact ih (.ops l :: k) _ h1 he _ φ' _ w' ⟨ops, idx, K', hidx, hk', rfl⟩ q3 hE' ⟨hS.le.trans q1.1, fun b hb => (q1.2 b (Nat.lt_of_lt_of_le hb hS.nx) (by have := hS.nx; omega)).trans (hS.old b hb), Nat.le_trans hS.nx hst.old.1, hS.below.trans q4⟩ (by rw [put_defers]; exact hd) (by rw [put_size]; exact hsz)
              simp only [exec] at he
              split at he <;> try (cases he; done)
              rename_i v h1 hstep
              exact step v h1 (stepOK_of hT (fun f F args h r1 h1 vs => callg n f F args h r1 h1 vs (Nat.lt_succ_self n)) hstep) he
        | dops => exact hk.elim

/-- a run of a function -/
theorem call_good {P : Program} (g : Good P) {T : Tbl} (hT : TblOK P T) {base n : Nat} {f : FuncId} {F : AFunc} {args : List AV} {h h1 : H} {r1 : Env} {vs : List AV} (hF : T.fn f = some F) (he : exec T n [.code F.body] (envOf args) h = some (r1, h1)) (hres : resOf r1 h1 F.results = some vs) : CallGood P base f args h vs h1 := by
  obtain ⟨fn, c, p1, p2, p3, p4, p5, p6⟩ := compileFn_parts (hT.fn f F hF)
  refine ⟨exec_old T n _ _ _ _ _ h.next he (Nat.le_refl _) trivial, ⟨fn, c, p1, p2, p3⟩, fun φ w cargs hr hl hv => ?_⟩
  refine calls_of_wp p1 p2 ?_
  have hsz : fn.ntmps ≤ (cargs.toArray ++ Array.replicate (fn.ntmps - cargs.toArray.size) undef).size := by
    simp only [Array.size_append, Array.size_replicate]
    omega
  refine exec_sound g hT n [.code F.body] (envOf args) h r1 h1 he (bodyPost P fn _) fn.ntmps (Exit.then (c.wp P (bodyPost P fn _)) (bodyPost P fn _)) φ w h.next φ ⟨cargs.toArray ++ Array.replicate (fn.ntmps - cargs.toArray.size) undef, []⟩ w ⟨c, bodyPost P fn _, p5, p4, rfl, rfl⟩ hr ?_ (St.refl _ _ _ _) rfl hsz (fun _ _ _ h => h) ?_
  · intro t
    unfold envOf
    rw [Array.getD_eq_getD_getElem?, Array.getElem?_append]
    rcases Nat.lt_or_ge t cargs.length with q | q
    · have q' : t < args.length := hl ▸ q
      rw [if_pos (by simpa using q), List.getElem?_eq_getElem q']
      simp only [List.getElem?_toArray, List.getElem?_eq_getElem q, Option.getD_some]
      exact hv t _ _ (List.getElem?_eq_getElem q') (List.getElem?_eq_getElem q)
    · rw [if_neg (by simp; omega), List.getElem?_eq_none (by omega)]
      have : ((Array.replicate (fn.ntmps - cargs.toArray.size) undef)[t - cargs.toArray.size]?).getD undef = undef := by
        rw [Array.getElem?_replicate]
        split <;> rfl
      rw [this]
      exact undef_VV
  · intro e φ' a' w' he' hr' hE' hs' hd'
    obtain ⟨cv, q1, q2⟩ := results_run g hr' hE' p6 hres
    rcases he' with rfl | rfl
    · exact ⟨hd', cv, q1, cv, φ', rfl, q2, hr', hs'⟩
    · exact ⟨hd', cv, q1, cv, φ', rfl, q2, hr', hs'⟩

end Go.Dam
