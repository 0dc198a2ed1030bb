/- The machine's operations are the model's, part E: slices, strings, numbers. -/
import Derived.Laws.BytesString
import Derived.Laws.Slices
import Derived.Laws.StructEq
import Derived.Laws.Append
import Derived.Test.YtoipeoafcjjaeaaDamA
namespace Go.Dam
open Go.RowKit (Below)

theorem room_bytes {P : Program} {e : TypeId} {i : TypeInfo} (hi : P.info? e = some i) {n : Nat} (h : n ≤ roomOf P e) : i.bytes * n ≤ 2 ^ 44 ∧ n ≤ 2 ^ 44 := by
  simp only [roomOf, hi] at h
  have h1 : n * (i.bytes + 1) ≤ 2 ^ 44 := (Nat.le_div_iff_mul_le (by omega)).1 h
  constructor
  · rw [Nat.mul_add, Nat.mul_one] at h1
    rw [Nat.mul_comm]
    omega
  · have : n ≤ n * (i.bytes + 1) := Nat.le_mul_of_pos_right _ (by omega)
    omega

theorem bounds_run {P : Program} {w : World} {φ : Phi} {r : Env} {a : Act} (he : EnvR P φ r a) {isS : Bool} {len cap : Nat} {lo hi : Option Operand} {lo' hi' : Option Opnd} (hlo : optOpnd lo = some lo') (hhi : optOpnd hi = some hi') {l u : Nat}
    (h1 : bound r lo' 0 = some l) (h2 : bound r hi' len = some u) (hl : l ≤ u) (hu : u ≤ cap) : (Instr.sliceBounds isS len cap (lo.map a.eval) (hi.map a.eval) none).run P w = .ok (l, u, cap) w := by
  have ev : ∀ {x : Operand} {y : Opnd} {n : Nat} {d : Nat}, opnd x = some y → bound r (some y) d = some n → ∃ k m, a.eval x = .int k m ∧ 0 ≤ m ∧ n = m.toNat := by
    intro x y n d hx hb
    simp only [bound] at hb
    split at hb <;> try (cases hb; done)
    rename_i k m hm
    split at hb <;> try (cases hb; done)
    rename_i h0
    simp only [Option.some.injEq] at hb
    have := opnd_VV he hx
    rw [hm] at this
    exact ⟨k, m, this, h0, hb.symm⟩
  cases hi with
  | none =>
    simp only [optOpnd, Option.some.injEq] at hhi
    subst hhi
    simp only [bound, Option.some.injEq] at h2
    subst h2
    cases lo with
    | none =>
      simp only [optOpnd, Option.some.injEq] at hlo
      subst hlo
      simp only [bound, Option.some.injEq] at h1
      subst h1
      simp [Instr.sliceBounds]
    | some x =>
      simp only [optOpnd, Option.map_eq_some_iff] at hlo
      obtain ⟨y, hy, rfl⟩ := hlo
      obtain ⟨k, m, e1, e2, rfl⟩ := ev hy h1
      simp [Instr.sliceBounds, e1, run_sliceBound w k m len .sliceB e2 (by omega)]
  | some z =>
    simp only [optOpnd, Option.map_eq_some_iff] at hhi
    obtain ⟨z', hz, rfl⟩ := hhi
    obtain ⟨kz, mz, ez1, ez2, rfl⟩ := ev hz h2
    have hrz : ∀ code, (Instr.sliceBound (.int kz mz) cap code).run P w = .ok mz.toNat w := fun code => run_sliceBound w kz mz cap code ez2 (by omega)
    cases lo with
    | none =>
      simp only [optOpnd, Option.some.injEq] at hlo
      subst hlo
      simp only [bound, Option.some.injEq] at h1
      subst h1
      simp [Instr.sliceBounds, ez1, hrz]
    | some x =>
      simp only [optOpnd, Option.map_eq_some_iff] at hlo
      obtain ⟨y, hy, rfl⟩ := hlo
      obtain ⟨k, m, e1, e2, rfl⟩ := ev hy h1
      simp [Instr.sliceBounds, e1, ez1, hrz, run_sliceBound w k m mz.toNat .sliceB e2 (by omega)]

section ops
variable {P : Program} (g : Good P) {base : Nat} {φ : Phi} {h h' : H} {w : World} (hr : HR P base φ h w) {nid : Nat} {r : Env} {a : Act} (he : EnvR P φ r a) {o : Oper} {v : AV}
include g hr he

theorem s_mkSlice (hnid : φ nid = none) (hnl : nid ≤ h.next) {t e : TypeId} {l c : Operand} {l' c' : Opnd} (ho : o.op = .makeSlice t l c) (hu : P.underlying t = some (.slice e)) (ht : heldT P e = true) (hz : zeroOK P e = true) (hl : opnd l = some l') (hc : opnd c = some c')
    (hv : evOp (teOf P) r h nid (.mkSlice (canon P e) (roomOf P e) l' c') = some (v, h')) : Out P base φ h.next nid o a w v h' := by
  simp only [evOp] at hv
  split at hv <;> try (cases hv; done)
  rename_i kl nl kc nc hl' hc'
  split at hv <;> try (cases hv; done)
  rename_i hb
  simp only [Option.some.injEq, Prod.mk.injEq] at hv
  obtain ⟨rfl, rfl⟩ := hv
  obtain ⟨h0, hlc, hlim⟩ := hb
  obtain ⟨i, z, hi, hz1, hfit, hcv⟩ := zero_VV hz
  have hlt := heldT_lt ht
  have hlen := CV_len g hlt hfit (hcv φ)
  have hpos := heldT_pos ht
  have hce := cellsOf_info hi
  have hzs : z.cells.size = i.size := by rw [← hce]; simpa using hlen
  obtain ⟨m, rfl⟩ : ∃ m : Nat, nc = m := ⟨nc.toNat, by omega⟩
  have hrm := room_bytes hi (n := m) (by omega)
  have e1 : a.eval l = .int kl nl := by have := opnd_VV he hl; rw [hl'] at this; exact this
  have e2 : a.eval c = .int kc m := by have := opnd_VV he hc; rw [hc'] at this; exact this
  have hmk := run_make w t e i z hu hi hz1 kl kc nl m h0 hlc (by have := hrm.1; have h48 : ((i.bytes * m : Nat) : Int) ≤ 2 ^ 44 := by exact_mod_cast this
                                                                 rw [Int.natCast_mul] at h48; omega) (by omega)
  have hrow := madeRow (z := z.cells) m (by omega)
  rw [hzs] at hrow
  obtain ⟨φ', h1, h2, h3, h4⟩ := hr.alloc g hnid hnl ht (xs := List.replicate m (zeroOf (teOf P) zeroFuel (canon P e))) (CVs_replicate (hcv φ) m) (fun x hx => by rw [List.eq_of_mem_replicate hx]; exact hfit) (madeCells z.cells (m * i.size)) e m .fixed (by simp) (by simp) (by simp)
    (fun j v hj => by rw [← hrow] at hj; rw [← Array.getElem?_toList, madeCells, hzs]; exact hj) (by simp [size_madeCells, hce])
  refine ⟨φ', .slice (some ⟨w.heap.size, 0, none⟩) nl.toNat m, _, .inl ?_, h1.nx _, ?_, h3, h4⟩
  · simp only [execOp, ho, e1, e2, Sem.run_bind, hmk, Result.andThen_ok, Sem.run_pure, Int.toNat_natCast]
  · have := slice_new (P := P) (len := nl.toNat) g hlt h2 (by omega)
    simpa using this

theorem s_sliceA {t e : TypeId} {n : Nat} {x : Operand} {x' : Opnd} {lo hi : Option Operand} {lo' hi' : Option Opnd} (ho : o.op = .slice t x lo hi none) (hu : P.underlying t = some (.array n e)) (ht : heldT P t = true) (hte : heldT P e = true) (hx : opnd x = some x') (hlo : optOpnd lo = some lo') (hhi : optOpnd hi = some hi')
    (hv : evOp (teOf P) r h nid (.sliceA n (canon P t) (canon P e) x' lo' hi') = some (v, h')) : Out P base φ h.next nid o a w v h' := by
  simp only [evOp] at hv
  split at hv <;> try (cases hv; done)
  rename_i b p t' l u hy hl hu'
  split at hv <;> try (cases hv; done)
  rename_i hc
  obtain ⟨htt, hlu, hun⟩ := hc
  simp only [Option.some.injEq, Prod.mk.injEq] at hv
  obtain ⟨rfl, rfl⟩ := hv
  have hp := opnd_VV he hx
  rw [hy] at hp
  obtain ⟨i, off, t2, hi2, hpl, hcan, hlt2, hval⟩ := hp
  have hu2 : P.underlying t2 = some (.array n e) := by rw [← g.und_canon hlt2, hcan, htt, g.und_canon (heldT_lt ht)]; exact hu
  have hb := bounds_run (P := P) (w := w) he (isS := false) (cap := n) hlo hhi hl hu' hlu hun
  refine Out.pure hr (cv := .slice (some (if n = l then ⟨i.c, i.o + off, none⟩ else ⟨i.c, i.o + off + l * P.cellsOf e, none⟩)) (u - l) (n - l)) ?_ ?_
  · simp only [execOp, ho, Instr.sliceAt, Sem.run_bind, run_und w hu, Result.andThen_ok, hval, Instr.sureAddr, Sem.run_pure, Option.map_none, hb, run_size w hte, addr_add]
  · refine ⟨i, off, n, e, _, hi2, ?_, rfl, heldT_lt hte, by omega, ?_, rfl⟩
    · cases p with
      | nil => simp [place] at hpl
      | cons j q => simp [rowPlace, hpl, hu2]
    · by_cases hnl : n = l
      · exact .inr ⟨hnl, by simp [hnl]⟩
      · exact .inl (by simp [hnl])

theorem s_sliceS {t e : TypeId} {x : Operand} {x' : Opnd} {lo hi : Option Operand} {lo' hi' : Option Opnd} (ho : o.op = .slice t x lo hi none) (hu : P.underlying t = some (.slice e)) (hte : heldT P e = true) (hx : opnd x = some x') (hlo : optOpnd lo = some lo') (hhi : optOpnd hi = some hi')
    (hv : evOp (teOf P) r h nid (.sliceS (canon P e) x' lo' hi') = some (v, h')) : Out P base φ h.next nid o a w v h' := by
  have hp := opnd_VV he hx
  simp only [evOp] at hv
  split at hv <;> try (cases hv; done)
  · rename_i hy
    split at hv <;> try (cases hv; done)
    rename_i hl hu'
    simp only [Option.some.injEq, Prod.mk.injEq] at hv
    obtain ⟨rfl, rfl⟩ := hv
    rw [hy] at hp
    have hval : a.eval x = .slice none 0 0 := hp
    have hb := bounds_run (P := P) (w := w) he (isS := true) (cap := 0) hlo hhi hl hu' (Nat.le_refl _) (Nat.le_refl _)
    refine Out.pure hr (cv := .slice none 0 0) ?_ rfl
    simp [execOp, ho, Instr.sliceAt, run_und w hu, hval, Instr.slice, hb, run_size w hte]
  · rename_i b p off len t' hy
    split at hv <;> try (cases hv; done)
    rename_i l u hl hu'
    split at hv <;> try (cases hv; done)
    rename_i hc
    obtain ⟨htt, hlu, hun⟩ := hc
    simp only [Option.some.injEq, Prod.mk.injEq] at hv
    obtain ⟨rfl, rfl⟩ := hv
    rw [hy] at hp
    obtain ⟨i, off0, N, e', ad, hi2, hpl, hcan, hlt2, hle, had, hval⟩ := hp
    have hce : P.cellsOf e' = P.cellsOf e := by rw [← g.cells_canon hlt2, hcan, htt, g.cells_canon (heldT_lt hte)]
    have hb := bounds_run (P := P) (w := w) he (isS := true) (cap := N - off) hlo hhi hl hu' hlu (by omega)
    refine Out.pure hr (cv := .slice (some (if N - off = l then ad else ad.add (l * P.cellsOf e))) (u - l) (N - off - l)) ?_ ?_
    · simp only [execOp, ho, Instr.sliceAt, Sem.run_bind, run_und w hu, hval, Instr.slice, Result.andThen_ok, Option.map_none, hb, run_size w hte, Sem.run_pure]
      split <;> rfl
    · refine ⟨i, off0, N, e', _, hi2, hpl, by rw [hcan, htt], hlt2, by omega, ?_, by rw [show N - off - l = N - (off + l) by omega]⟩
      by_cases hnl : N - off = l
      · refine .inr ⟨by omega, ?_⟩
        rw [if_pos hnl]
        rcases had with rfl | ⟨_, h2⟩
        · rfl
        · exact h2
      · left
        rw [if_neg hnl]
        rcases had with rfl | ⟨h1, _⟩
        · rw [addr_add, hce, Nat.add_mul]
          congr 1
          omega
        · omega

theorem s_sliceZ (hnid : φ nid = none) (hnl : nid ≤ h.next) {t e : TypeId} {x : Operand} {x' : Opnd} {k k' : IntKind} (ho : o.op = .slice t x none (some (.const (.int k 0))) (some (.const (.int k' 0)))) (hu : P.underlying t = some (.slice e)) (hte : heldT P e = true) (hx : opnd x = some x')
    (hv : evOp (teOf P) r h nid (.sliceZ (canon P e) x') = some (v, h')) : Out P base φ h.next nid o a w v h' := by
  have hp := opnd_VV he hx
  simp only [evOp] at hv
  have ec : ∀ k, a.eval (.const (.int k 0)) = .int k 0 := fun _ => rfl
  have hsb : ∀ (y : Nat) (k : IntKind) (code : BoundsCode), (Instr.sliceBound (.int k 0) y code).run P w = .ok 0 w := fun y k code => run_sliceBound w k 0 y code (by omega) (by omega)
  split at hv <;> try (cases hv; done)
  · rename_i hy
    simp only [Option.some.injEq, Prod.mk.injEq] at hv
    obtain ⟨rfl, rfl⟩ := hv
    rw [hy] at hp
    have hval : a.eval x = .slice none 0 0 := hp
    refine Out.pure hr (cv := .slice none 0 0) ?_ rfl
    simp [execOp, ho, Instr.sliceAt, run_und w hu, hval, Instr.slice, Instr.sliceBounds, ec, hsb, run_size w hte]
  · rename_i b p off len t' hy
    simp only [Option.some.injEq, Prod.mk.injEq] at hv
    obtain ⟨rfl, rfl⟩ := hv
    rw [hy] at hp
    obtain ⟨i, off0, N, e', ad, hi2, hpl, hcan, hlt2, hle, had, hval⟩ := hp
    obtain ⟨φ', h1, h2, h3⟩ := hr.new hnid hnl (k := .fixed) (e := canon P e) (xs := []) (i := ⟨ad.block, ad.off, 0, canon P e⟩) (w' := w) (Below.refl _ _) (fun φ' _ => ⟨rfl, heldT_canon g hte, g.canon_canon (heldT_lt hte), by simp, by simp, by simp, fun _ h => (h rfl).elim, fun _ h => (h rfl).elim, fun h => (h rfl).elim, fun _ h => (h rfl).elim⟩) (fun h => (h rfl).elim)
    refine ⟨φ', .slice (some ad) 0 0, w, .inl ?_, h1.nx _, ?_, h3, Below.refl _ _⟩
    · simp [execOp, ho, Instr.sliceAt, run_und w hu, hval, Instr.slice, Instr.sliceBounds, ec, hsb, run_size w hte]
    · exact ⟨_, 0, 0, canon P e, ad, h2, by simp [rowPlace], g.canon_canon (heldT_lt hte), g.canon_lt (heldT_lt hte), by omega, .inr ⟨rfl, rfl⟩, by simp⟩

omit g in
theorem s_sliceT {t : TypeId} {x : Operand} {x' : Opnd} {lo hi : Option Operand} {lo' hi' : Option Opnd} (ho : o.op = .slice t x lo hi none) (hu : P.underlying t = some .string) (hx : opnd x = some x') (hlo : optOpnd lo = some lo') (hhi : optOpnd hi = some hi')
    (hv : evOp (teOf P) r h nid (.sliceT x' lo' hi') = some (v, h')) : Out P base φ h.next nid o a w v h' := by
  have hp := opnd_VV he hx
  simp only [evOp] at hv
  split at hv <;> try (cases hv; done)
  rename_i s hy
  split at hv <;> try (cases hv; done)
  rename_i l u hl hu'
  split at hv <;> try (cases hv; done)
  rename_i hc
  simp only [Option.some.injEq, Prod.mk.injEq] at hv
  obtain ⟨rfl, rfl⟩ := hv
  rw [hy] at hp
  have hval : a.eval x = .string s := hp
  have hb := bounds_run (P := P) (w := w) he (isS := false) (cap := s.size) hlo hhi hl hu' hc.1 hc.2
  refine Out.pure hr (cv := .string (s.extract l u)) ?_ rfl
  simp [execOp, ho, Instr.sliceAt, run_und w hu, hval, Instr.slice, hb]
end ops

end Go.Dam

namespace Go.Dam
open Go.RowKit (Below)

theorem call_args {c : Call} {args : List Opnd} (h : opnds c.args.toList = some args) : ∀ x', args = [x'] → ∃ x, c.args = #[x] ∧ opnd x = some x' := by
  intro x' hx
  subst hx
  cases hl : c.args.toList with
  | nil => rw [hl] at h; simp [opnds] at h
  | cons x l =>
    rw [hl] at h
    simp only [opnds] at h
    split at h <;> try (cases h; done)
    rename_i y ys h1 h2
    simp only [Option.some.injEq, List.cons.injEq] at h
    obtain ⟨rfl, rfl⟩ := h
    cases l with
    | nil => exact ⟨x, by rw [← Array.toList_inj, hl], h1⟩
    | cons z l =>
      simp only [opnds] at h2
      split at h2 <;> cases h2
theorem call_args2 {c : Call} {args : List Opnd} (h : opnds c.args.toList = some args) : ∀ x' y', args = [x', y'] → ∃ x y, c.args = #[x, y] ∧ opnd x = some x' ∧ opnd y = some y' := by
  intro x' y' hx
  subst hx
  cases hl : c.args.toList with
  | nil => rw [hl] at h; simp [opnds] at h
  | cons x l =>
    rw [hl] at h
    simp only [opnds] at h
    split at h <;> try (cases h; done)
    rename_i y ys h1 h2
    simp only [Option.some.injEq, List.cons.injEq] at h
    obtain ⟨rfl, rfl⟩ := h
    cases l with
    | nil => simp [opnds] at h2
    | cons z l =>
      simp only [opnds] at h2
      split at h2 <;> try (cases h2; done)
      rename_i y2 ys2 k1 k2
      simp only [Option.some.injEq, List.cons.injEq] at h2
      obtain ⟨rfl, rfl⟩ := h2
      cases l with
      | nil => exact ⟨x, z, by rw [← Array.toList_inj, hl], h1, k1⟩
      | cons _ _ =>
        simp only [opnds] at k2
        split at k2 <;> cases k2


/-- bytes in cells -/
theorem bytes_cells {P : Program} {φ : Phi} {xs : List AV} {cs : List Value} {bs : List UInt8} (h : CVs P φ xs cs) (hb : bytesOf xs = some bs) : ∃ ns : List Int, cs = ns.map (Value.int .u8) ∧ ns.foldl (fun r n => r.push (UInt8.ofNat n.toNat)) ByteArray.empty = ⟨bs.toArray⟩ ∧ ns.length = xs.length := by
  have key : ∀ (xs : List AV) (cs : List Value) (bs : List UInt8) (acc : List UInt8), CVs P φ xs cs → bytesOf xs = some bs → ∃ ns : List Int, cs = ns.map (Value.int .u8) ∧ ns.foldl (fun (r : ByteArray) n => r.push (UInt8.ofNat n.toNat)) ⟨acc.toArray⟩ = ⟨(acc ++ bs).toArray⟩ ∧ ns.length = xs.length := by
    intro xs
    induction xs with
    | nil =>
      intro cs bs acc h hb
      simp only [CVs] at h
      simp only [bytesOf, Option.some.injEq] at hb
      subst h; subst hb
      exact ⟨[], by simp⟩
    | cons x xs ih =>
      intro cs bs acc h hb
      simp only [CVs] at h
      obtain ⟨a, b, h1, h2, rfl⟩ := h
      unfold bytesOf at hb
      split at hb <;> try (cases hb; done)
      · rename_i heq; cases heq
      · rename_i n l heq
        simp only [List.cons.injEq] at heq
        obtain ⟨rfl, rfl⟩ := heq
        split at hb <;> try (cases hb; done)
        rename_i r hr
        simp only [Option.some.injEq] at hb
        subst hb
        simp only [CV] at h1
        obtain ⟨v, hv, rfl⟩ := h1
        have hv : v = .int .u8 n := hv
        subst hv
        obtain ⟨ns, q1, q2, q3⟩ := ih b r (acc ++ [UInt8.ofNat n.toNat]) h2 hr
        refine ⟨n :: ns, by simp [q1], ?_, by simp [q3]⟩
        simp only [List.foldl_cons]
        rw [show (ByteArray.push ⟨acc.toArray⟩ (UInt8.ofNat n.toNat) : ByteArray) = ⟨(acc ++ [UInt8.ofNat n.toNat]).toArray⟩ by simp [ByteArray.push], q2]
        simp
  obtain ⟨ns, q1, q2, q3⟩ := key xs cs bs [] h hb
  exact ⟨ns, q1, q2, q3⟩

theorem run_part {P : Program} (g : Good P) {φ : Phi} {w : World} {t : TypeId} {x : AV} {pre mid post : List Value} (ht : heldT P t = true) (hf : Fit P t x) (hc : CV P φ x mid) :
    ∃ cv, (part t (pre ++ (mid ++ post)).toArray pre.length).run P w = .ok cv w ∧ VV P φ x cv := by
  obtain ⟨d, i, hu, hi, hag⟩ := held_und ht
  have hlen := CV_len g (heldT_lt ht) hf hc
  rcases value_of g (heldT_lt ht) hf hc with ⟨ha, hv⟩ | ⟨ha, v, rfl, hv, _⟩
  · rw [hag] at ha
    refine ⟨_, ?_, hv⟩
    unfold part
    have he : (pre ++ (mid ++ post)).toArray.extract pre.length (pre.length + P.cellsOf t) = mid.toArray := by
      rw [← hlen]
      simp
    simp only [Sem.run_bind, run_isAgg w hu, ha, Result.andThen_ok, if_true, run_size w ht, he, Sem.run_pure]
  · rw [hag] at ha
    refine ⟨v, ?_, hv⟩
    unfold part
    have : (pre ++ ([v] ++ post)).toArray[pre.length]? = some v := by simp
    simp only [Sem.run_bind, run_isAgg w hu, ha, Result.andThen_ok, Bool.false_eq_true, if_false, this, Sem.run_pure]

theorem VV1_VV {P : Program} {φ : Phi} {x : AV} {v : Value} (h : VV1 P φ x v) : VV P φ x v := by
  cases x <;> first | exact h | exact h.elim
theorem VV1s_get {P : Program} {φ : Phi} : ∀ {xs : List AV} {vs : List Value}, VV1s P φ xs vs → ∀ {i : Nat} {x : AV}, xs[i]? = some x → ∃ v, vs[i]? = some v ∧ VV1 P φ x v
  | [], _, _, i, x, h => by simp at h
  | y :: xs, _, hh, i, x, h => by
    obtain ⟨v, r, h1, h2, rfl⟩ := hh
    cases i with
    | zero => simp at h; subst h; exact ⟨v, by simp, h1⟩
    | succ i =>
      simp at h
      obtain ⟨u, q1, q2⟩ := VV1s_get h2 h
      exact ⟨u, by simpa using q1, q2⟩

section ops
variable {P : Program} (g : Good P) {base : Nat} {φ : Phi} {h h' : H} {w : World} (hr : HR P base φ h w) {nid : Nat} {r : Env} {a : Act} (he : EnvR P φ r a) {o : Oper} {v : AV}
include hr he

include g in
theorem s_field {s : TypeId} {f : Nat} {x : Operand} {y : Opnd} {fs : Array Field} {fd : Field} (ho : o.op = .field s x f) (hu : P.underlying s = some (.struct fs)) (hfd : fs[f]? = some fd) (hs : heldT P s = true) (hft : heldT P fd.type = true) (hx : opnd x = some y)
    (hv : evOp (teOf P) r h nid (.field (canon P s) f y) = some (v, h')) : Out P base φ h.next nid o a w v h' := by
  simp only [evOp] at hv
  split at hv <;> try (cases hv; done)
  rename_i s' xs hy
  split at hv <;> try (cases hv; done)
  rename_i hss
  simp only [Option.map_eq_some_iff, Prod.mk.injEq] at hv
  obtain ⟨v', hxf, rfl, rfl⟩ := hv
  have hp := opnd_VV he hx
  rw [hy] at hp
  obtain ⟨⟨_, hlt, hfit⟩, cs, hcs, hval⟩ := hp
  have hus : P.underlying s' = some (.struct fs) := by rw [hss, g.und_canon (heldT_lt hs)]; exact hu
  rcases fit_agg hfit with ⟨_, ⟨fs', hu', hfs⟩ | ⟨n, e, hu', _⟩⟩
  · rw [hus] at hu'
    simp only [Option.some.injEq, TypeDesc.struct.injEq] at hu'
    subst hu'
    have hst := g.struct hlt hus
    have hfl : fs.toList[f]? = some fd := by simpa using hfd
    have hoff := (layFields_sum _ _ _ hst.1).2 f fd hfl
    obtain ⟨tf, q1, q2, _⟩ := fitsB_get hfs hxf
    have : tf = fd.type := by
      rw [List.getElem?_map, hfl] at q1
      simpa using q1.symm
    subst this
    obtain ⟨pre, mid, post, h1, h2, h3, _⟩ := CVs_split hcs hxf
    have hpre : pre.length = fd.offset := by
      rw [CVs_len g (fun t ht' => by
        have := List.mem_of_mem_take ht'
        simp only [List.mem_map] at this
        obtain ⟨f', hf', rfl⟩ := this
        exact hst.2 f' hf') (fitsB_take hfs f) h2, hoff]
      omega
    obtain ⟨cv, k1, k2⟩ := run_part (w := w) (pre := pre) (post := post) g hft q2 h3
    refine Out.pure hr (cv := cv) ?_ k2
    rw [hpre] at k1
    simp only [execOp, ho, Instr.field, Sem.run_bind, run_und w hu, Result.andThen_ok, hfd, hval, asAgg, Sem.run_pure, h1, k1]
  · rw [hus] at hu'; cases hu'

include g in
theorem s_idxV {t e : TypeId} {n : Nat} {x z : Operand} {x' z' : Opnd} (ho : o.op = .index t x z) (hu : P.underlying t = some (.array n e)) (hs : heldT P t = true) (hft : heldT P e = true) (hx : opnd x = some x') (hz : opnd z = some z')
    (hv : evOp (teOf P) r h nid (.idxV n (canon P t) x' z') = some (v, h')) : Out P base φ h.next nid o a w v h' := by
  simp only [evOp] at hv
  split at hv <;> try (cases hv; done)
  rename_i s' xs k j hy hj
  split at hv <;> try (cases hv; done)
  rename_i hc
  obtain ⟨hss, hj0, hjn⟩ := hc
  simp only [Option.map_eq_some_iff, Prod.mk.injEq] at hv
  obtain ⟨v', hxf, rfl, rfl⟩ := hv
  have hp := opnd_VV he hx
  rw [hy] at hp
  obtain ⟨⟨_, hlt, hfit⟩, cs, hcs, hval⟩ := hp
  have hzv : a.eval z = .int k j := by have := opnd_VV he hz; rw [hj] at this; exact this
  have hus : P.underlying s' = some (.array n e) := by rw [hss, g.und_canon (heldT_lt hs)]; exact hu
  rcases fit_agg hfit with ⟨_, ⟨fs', hu', _⟩ | ⟨n', e', hu', hn, hall⟩⟩
  · rw [hus] at hu'; cases hu'
  · rw [hus] at hu'
    simp only [Option.some.injEq, TypeDesc.array.injEq] at hu'
    obtain ⟨rfl, rfl⟩ := hu'
    obtain ⟨pre, mid, post, h1, h2, h3, _⟩ := CVs_split hcs hxf
    have hlt2 := (List.getElem?_eq_some_iff.1 hxf).1
    have hpre : pre.length = j.toNat * P.cellsOf e := by
      rw [CVs_len_all g (heldT_lt hft) (fun x hx' => hall x (List.mem_of_mem_take hx')) h2, List.length_take, Nat.min_eq_left (Nat.le_of_lt hlt2)]
    obtain ⟨cv, k1, k2⟩ := run_part (w := w) (pre := pre) (post := post) g hft (hall _ (List.mem_of_getElem? hxf)) h3
    refine Out.pure hr (cv := cv) ?_ k2
    rw [hpre] at k1
    simp only [execOp, ho, Instr.index, Sem.run_bind, run_und w hu, Result.andThen_ok, hval, hzv, asIntOf, Sem.run_pure, hj0, hjn, and_self, if_true, run_size w hft, h1, k1]

theorem s_idxT {t : TypeId} {x z : Operand} {x' z' : Opnd} (ho : o.op = .index t x z) (hu : P.underlying t = some .string) (hx : opnd x = some x') (hz : opnd z = some z')
    (hv : evOp (teOf P) r h nid (.idxT x' z') = some (v, h')) : Out P base φ h.next nid o a w v h' := by
  simp only [evOp] at hv
  split at hv <;> try (cases hv; done)
  rename_i s k j hy hj
  split at hv <;> try (cases hv; done)
  rename_i hj0
  simp only [Option.map_eq_some_iff, Prod.mk.injEq] at hv
  obtain ⟨b, hb, rfl, rfl⟩ := hv
  have hp : a.eval x = .string s := by have := opnd_VV he hx; rw [hy] at this; exact this
  have hzv : a.eval z = .int k j := by have := opnd_VV he hz; rw [hj] at this; exact this
  refine Out.pure hr (cv := .int .u8 b.toNat) ?_ rfl
  simp [execOp, ho, Instr.index, run_und w hu, hp, hzv, asIntOf, hj0, hb]

theorem s_extract {x : Operand} {n : Nat} {y : Opnd} (ho : o.op = .extract x n) (hx : opnd x = some y) (hv : evOp (teOf P) r h nid (.extract n y) = some (v, h')) : Out P base φ h.next nid o a w v h' := by
  simp only [evOp] at hv
  split at hv <;> try (cases hv; done)
  rename_i xs hy
  simp only [Option.map_eq_some_iff, Prod.mk.injEq] at hv
  obtain ⟨v', hn, rfl, rfl⟩ := hv
  have hp := opnd_VV he hx
  rw [hy] at hp
  obtain ⟨vs, h1, h2⟩ := hp
  obtain ⟨u, q1, q2⟩ := VV1s_get h1 hn
  refine Out.pure hr (cv := u) ?_ (VV1_VV q2)
  have : vs.toArray[n]? = some u := by simpa using q1
  simp [execOp, ho, h2, Instr.extract, q1]

theorem s_nilCheck {x : Operand} {y : Opnd} (ho : o.op = .nilCheck x) (hx : opnd x = some y) (hv : evOp (teOf P) r h nid (.nilCheck y) = some (v, h')) : Out P base φ h.next nid o a w v h' := by
  have hp := opnd_VV he hx
  simp only [evOp] at hv
  split at hv <;> try (cases hv; done)
  · rename_i b p t hy
    simp only [Option.some.injEq, Prod.mk.injEq] at hv
    obtain ⟨rfl, rfl⟩ := hv
    rw [hy] at hp
    have hp2 := hp
    obtain ⟨i, off, t', _, _, _, _, hval⟩ := hp
    refine Out.pure hr (cv := a.eval x) ?_ hp2
    simp [execOp, ho, hval]
  · rename_i f a1 c1 hy
    simp only [Option.some.injEq, Prod.mk.injEq] at hv
    obtain ⟨rfl, rfl⟩ := hv
    rw [hy] at hp
    have hp2 := hp
    obtain ⟨a2, c2, _, _, hval⟩ := hp
    refine Out.pure hr (cv := a.eval x) ?_ hp2
    simp [execOp, ho, hval]

theorem s_un {op : UnOp} {t : TypeId} {x : Operand} {y : Opnd} (ho : o.op = .unOp op t x) (hx : opnd x = some y) (hv : evOp (teOf P) r h nid (.un op y) = some (v, h')) : Out P base φ h.next nid o a w v h' := by
  have hp := opnd_VV he hx
  simp only [evOp, Option.map_eq_some_iff, Prod.mk.injEq] at hv
  obtain ⟨v', hv', rfl, rfl⟩ := hv
  unfold unV at hv'
  split at hv' <;> try (cases hv'; done)
  · rename_i k n hy
    simp only [Option.some.injEq] at hv'
    subst hv'
    rw [hy] at hp
    have hval : a.eval x = .int k n := hp
    refine Out.pure hr ?_ rfl
    simp [execOp, ho, hval, Op.unary, Op.intArith]
  · rename_i k n hy
    simp only [Option.some.injEq] at hv'
    subst hv'
    rw [hy] at hp
    have hval : a.eval x = .int k n := hp
    refine Out.pure hr ?_ rfl
    simp [execOp, ho, hval, Op.unary, Op.intBits]
  · rename_i b hy
    simp only [Option.some.injEq] at hv'
    subst hv'
    rw [hy] at hp
    have hval : a.eval x = .bool b := hp
    refine Out.pure hr ?_ rfl
    simp [execOp, ho, hval, Op.unary]

theorem s_mkFn {f : FuncId} {fi ca : Array Operand} {fi' ca' : List Opnd} (ho : o.op = .makeFunc (.func f) fi ca) (h1 : opnds fi.toList = some fi') (h2 : opnds ca.toList = some ca') (hv : evOp (teOf P) r h nid (.mkFn f fi' ca') = some (v, h')) : Out P base φ h.next nid o a w v h' := by
  simp only [evOp] at hv
  split at hv <;> try (cases hv; done)
  rename_i hc
  simp only [Bool.and_eq_true] at hc
  simp only [Option.some.injEq, Prod.mk.injEq] at hv
  obtain ⟨rfl, rfl⟩ := hv
  refine Out.pure hr (cv := .func (.func f) (fi.map a.eval) (ca.map a.eval)) ?_ ?_
  · simp [execOp, ho, Instr.makeFunc]
  · exact ⟨_, _, opnds_SV0 he h1 hc.1, opnds_SV0 he h2 hc.2, by rw [← Array.toList_map, ← Array.toList_map, Array.toArray_toList, Array.toArray_toList]⟩

/-! conversions -/
theorem s_conv {s d : TypeId} {x : Operand} {y : Opnd} {ks k : IntKind} (ho : o.op = .convert s d x) (hus : P.underlying s = some (.int ks)) (hud : P.underlying d = some (.int k)) (hx : opnd x = some y) (hv : evOp (teOf P) r h nid (.conv k y) = some (v, h')) : Out P base φ h.next nid o a w v h' := by
  have hp := opnd_VV he hx
  simp only [evOp] at hv
  split at hv <;> try (cases hv; done)
  rename_i k' n hy
  simp only [Option.some.injEq, Prod.mk.injEq] at hv
  obtain ⟨rfl, rfl⟩ := hv
  rw [hy] at hp
  have hval : a.eval x = .int k' n := hp
  refine Out.pure hr ?_ rfl
  simp [execOp, ho, hval, convert, run_und w hus, run_und w hud, Conv.intToInt]

theorem s_sameS {s d : TypeId} {x : Operand} {y : Opnd} (ho : o.op = .convert s d x) (hus : P.underlying s = some .string) (hud : P.underlying d = some .string) (hx : opnd x = some y) (hv : evOp (teOf P) r h nid (.sameS y) = some (v, h')) : Out P base φ h.next nid o a w v h' := by
  have hp := opnd_VV he hx
  simp only [evOp] at hv
  split at hv <;> try (cases hv; done)
  rename_i t hy
  simp only [Option.some.injEq, Prod.mk.injEq] at hv
  obtain ⟨rfl, rfl⟩ := hv
  rw [hy] at hp
  have hval : a.eval x = .string t := hp
  refine Out.pure hr ?_ rfl
  simp [execOp, ho, hval, convert, run_und w hus, run_und w hud]

/-! lengths, the lesser and the greater -/
theorem s_lenS {c : Call} {t e : TypeId} {x' : Opnd} (ho : o.op = .call c) (hb : c.callee = .builtin .len) (ht : c.argTypes.toList = [t]) (hu : P.underlying t = some (.slice e)) (hx : opnds c.args.toList = some [x'])
    (hv : evOp (teOf P) r h nid (.lenS x') = some (v, h')) : Out P base φ h.next nid o a w v h' := by
  obtain ⟨x, hx1, hx2⟩ := call_args hx x' rfl
  have hp := opnd_VV he hx2
  have ht : c.argTypes = #[t] := by rw [← Array.toList_inj, ht]
  simp only [evOp] at hv
  split at hv <;> try (cases hv; done)
  · rename_i hy
    simp only [Option.some.injEq, Prod.mk.injEq] at hv
    obtain ⟨rfl, rfl⟩ := hv
    rw [hy] at hp
    have hval : a.eval x = .slice none 0 0 := hp
    refine Out.pure hr (cv := .int .i64 0) ?_ rfl
    simp [execOp, ho, resolve, hb, ht, hx1, invoke, builtin, hval, Builtin.len_, run_und w hu, goInt]
  · rename_i b p off l e' hy
    simp only [Option.some.injEq, Prod.mk.injEq] at hv
    obtain ⟨rfl, rfl⟩ := hv
    rw [hy] at hp
    obtain ⟨i, off0, N, e', ad, _, _, _, _, _, _, hval⟩ := hp
    refine Out.pure hr (cv := .int .i64 l) ?_ rfl
    simp [execOp, ho, resolve, hb, ht, hx1, invoke, builtin, hval, Builtin.len_, run_und w hu, goInt]

theorem s_lenT {c : Call} {t : TypeId} {x' : Opnd} (ho : o.op = .call c) (hb : c.callee = .builtin .len) (ht : c.argTypes.toList = [t]) (hu : P.underlying t = some .string) (hx : opnds c.args.toList = some [x'])
    (hv : evOp (teOf P) r h nid (.lenT x') = some (v, h')) : Out P base φ h.next nid o a w v h' := by
  obtain ⟨x, hx1, hx2⟩ := call_args hx x' rfl
  have hp := opnd_VV he hx2
  have ht : c.argTypes = #[t] := by rw [← Array.toList_inj, ht]
  simp only [evOp] at hv
  split at hv <;> try (cases hv; done)
  rename_i s hy
  simp only [Option.some.injEq, Prod.mk.injEq] at hv
  obtain ⟨rfl, rfl⟩ := hv
  rw [hy] at hp
  have hval : a.eval x = .string s := hp
  refine Out.pure hr (cv := .int .i64 s.size) ?_ rfl
  simp [execOp, ho, resolve, hb, ht, hx1, invoke, builtin, hval, Builtin.len_, run_und w hu, goInt]

omit he in
theorem s_lenA {c : Call} {t : TypeId} {n : Nat} {x' : Opnd} (ho : o.op = .call c) (hb : c.callee = .builtin .len) (ht : c.argTypes.toList = [t]) (hu : (∃ e, P.underlying t = some (.array n e)) ∨ ∃ u e, P.underlying t = some (.pointer u) ∧ P.underlying u = some (.array n e)) (hx : opnds c.args.toList = some [x'])
    (hv : evOp (teOf P) r h nid (.lenA n) = some (v, h')) : Out P base φ h.next nid o a w v h' := by
  obtain ⟨x, hx1, hx2⟩ := call_args hx x' rfl
  have ht : c.argTypes = #[t] := by rw [← Array.toList_inj, ht]
  simp only [evOp, Option.some.injEq, Prod.mk.injEq] at hv
  obtain ⟨rfl, rfl⟩ := hv
  refine Out.pure hr (cv := .int .i64 n) ?_ rfl
  rcases hu with ⟨e, hu⟩ | ⟨u, e, hu, hu2⟩
  · simp [execOp, ho, resolve, hb, ht, hx1, invoke, builtin, Builtin.len_, run_und w hu, goInt]
  · simp [execOp, ho, resolve, hb, ht, hx1, invoke, builtin, Builtin.len_, run_und w hu, run_und w hu2, goInt]

theorem s_minmax {c : Call} {mx : Bool} {x' y' : Opnd} (ho : o.op = .call c) (hb : c.callee = .builtin (if mx then .max else .min)) (hx : opnds c.args.toList = some [x', y'])
    (hv : evOp (teOf P) r h nid (.minmax mx x' y') = some (v, h')) : Out P base φ h.next nid o a w v h' := by
  obtain ⟨x, y, hx1, hx2, hy2⟩ := call_args2 hx x' y' rfl
  have hp := opnd_VV he hx2
  have hq := opnd_VV he hy2
  simp only [evOp] at hv
  split at hv <;> try (cases hv; done)
  rename_i k m k' n hxx hyy
  split at hv <;> try (cases hv; done)
  rename_i hk
  subst hk
  simp only [Option.some.injEq, Prod.mk.injEq] at hv
  obtain ⟨rfl, rfl⟩ := hv
  rw [hxx] at hp
  rw [hyy] at hq
  have e1 : a.eval x = .int k m := hp
  have e2 : a.eval y = .int k n := hq
  cases mx
  · refine Out.pure hr (cv := .int k (if n < m then n else m)) ?_ rfl
    simp [execOp, ho, resolve, hb, hx1, invoke, builtin, e1, e2, Builtin.min_, Builtin.min2]
  · refine Out.pure hr (cv := .int k (if n > m then n else m)) ?_ rfl
    simp [execOp, ho, resolve, hb, hx1, invoke, builtin, e1, e2, Builtin.max_, Builtin.max2]

include g in
theorem s_toStr {s d e : TypeId} {x : Operand} {y : Opnd} (ho : o.op = .convert s d x) (hus : P.underlying s = some (.slice e)) (hud : P.underlying d = some .string) (hue : P.underlying e = some (.int .u8)) (hx : opnd x = some y) (hv : evOp (teOf P) r h nid (.toStr y) = some (v, h')) : Out P base φ h.next nid o a w v h' := by
  have hp := opnd_VV he hx
  simp only [evOp] at hv
  split at hv <;> try (cases hv; done)
  · rename_i hy
    simp only [Option.some.injEq, Prod.mk.injEq] at hv
    obtain ⟨rfl, rfl⟩ := hv
    rw [hy] at hp
    have hval : a.eval x = .slice none 0 0 := hp
    refine Out.pure hr (cv := .string .empty) ?_ rfl
    simp [execOp, ho, hval, convert, run_und w hus, run_und w hud, run_und w hue, Conv.bytesToString]
  · rename_i b p off l e' hy
    split at hv <;> try (cases hv; done)
    rename_i xs hel
    simp only [Option.map_eq_some_iff, Prod.mk.injEq] at hv
    obtain ⟨bs, hbs, rfl, rfl⟩ := hv
    rw [hy] at hp
    obtain ⟨i, off0, N, e2, ad, hi, hpl, hcan, hlt2, hle, had, hval⟩ := hp
    obtain ⟨h1, h2, cs, h3, h4, h5⟩ := hr.elems g hel hi hpl
    obtain ⟨ns, hn1, hn2, hn3⟩ := bytes_cells h3 hbs
    have hcs : (loadCells ad l).run P w = .ok (ns.map (Value.int .u8)).toArray w := by
      by_cases hl : l = 0
      · subst hl
        have : xs = [] := List.length_eq_zero_iff.1 h1
        subst this
        simp only [CVs] at h3
        subst h3
        have : ns = [] := by
          cases ns with
          | nil => rfl
          | cons a b => simp at hn1
        subst this
        rfl
      · have had : ad = ⟨i.c, i.o + off0 + off * P.cellsOf e2, none⟩ := by
          rcases had with h1 | ⟨h1, _⟩
          · exact h1
          · omega
        have := run_loadCells_list (P := P) w ad cs (fun j u hj => by rw [had, addr_add]; exact h5 j u hj)
        rw [hn1] at this
        have hlen : (ns.map (Value.int .u8)).length = l := by
          rw [List.length_map, hn3, h1]
        rw [hlen] at this
        exact this
    have := run_bytesToString (P := P) w ad l (N - off) ns hcs
    refine Out.pure hr (cv := .string ⟨bs.toArray⟩) ?_ rfl
    simp only [execOp, ho, hval, convert, Sem.run_bind, run_und w hus, run_und w hud, Result.andThen_ok, run_und w hue, this, Sem.run_pure]
    rw [hn2]

include g in
theorem s_toBytes (hnid : φ nid = none) (hnl : nid ≤ h.next) {s d e : TypeId} {x : Operand} {y : Opnd} (ho : o.op = .convert s d x) (hus : P.underlying s = some .string) (hud : P.underlying d = some (.slice e)) (hue : P.underlying e = some (.int .u8)) (ht : heldT P e = true) (hx : opnd x = some y) (hv : evOp (teOf P) r h nid (.toBytes (canon P e) y) = some (v, h')) : Out P base φ h.next nid o a w v h' := by
  have hp := opnd_VV he hx
  simp only [evOp] at hv
  split at hv <;> try (cases hv; done)
  rename_i t hy
  simp only [Option.some.injEq, Prod.mk.injEq] at hv
  obtain ⟨rfl, rfl⟩ := hv
  rw [hy] at hp
  have hval : a.eval x = .string t := hp
  let cap := (Question.appendCap t.size 0 e).cut (w.tape w.drawn (.appendCap t.size 0 e))
  have hcap : t.size ≤ cap := by simp [cap, Question.cut]
  let arr : Array Value := (t.data.map fun b => .int .u8 b.toNat) ++ Array.replicate (cap - t.size) (.int .u8 0)
  have harr : arr.size = cap := by
    have : t.data.size = t.size := rfl
    simp [arr]; omega
  let w1 : World := { w with drawn := w.drawn + 1 }
  let w2 := w1.alloc (.cells arr e)
  let w3 := w2.freeze { block := w.heap.size, off := arr.size } 1
  have h3 : w3.heap[w.heap.size]? = some (.cells arr e (arr.size, arr.size + 1)) := by
    have hb : w2.heap[w.heap.size]? = some (.cells arr e (0, 0)) := heap_alloc_new w1 _
    simp [w3, World.freeze, Array.getElem?_modify, hb]
  have hbel : Below w.heap.size w w3 := by
    have b1 : Below w.heap.size w w1 := ⟨rfl, rfl, rfl, Nat.le_refl _, fun _ _ => rfl⟩
    have b2 : Below w.heap.size w w2 := b1.alloc (Nat.le_refl _) _
    refine ⟨b2.os, b2.tape, b2.output, ?_, fun k hk => ?_⟩
    · have := b2.size
      simpa [w3, World.freeze] using this
    · rw [← b2.block k hk]
      have : ¬ w.heap.size = k := by omega
      simp [w3, World.freeze, Array.getElem?_modify, this]
  have hk : kdOf P e = some (.int .u8) := by simp [kdOf, hue]
  have hcells : P.cellsOf e = 1 := by
    simp only [heldT, hk, Kd.isAgg, Bool.and_eq_true, Bool.false_or, beq_iff_eq] at ht
    exact ht.2
  have hfit : ∀ x ∈ ofBytes t, Fit P e x := by
    intro x hx
    simp only [ofBytes, List.mem_map] at hx
    obtain ⟨b, _, rfl⟩ := hx
    simp [Fit, fitB, primOK, hk, Kd.isAgg, Kd.ok, hcells]
  have hcv : ∀ φ' : Phi, CVs P φ' (ofBytes t) (t.data.toList.map fun b => .int .u8 b.toNat) := by
    intro φ'
    unfold ofBytes
    induction t.data.toList with
    | nil => simp [CVs]
    | cons b l ih => simp only [List.map_cons, CVs, CV]; exact ⟨[.int .u8 b.toNat], _, ⟨_, rfl, rfl⟩, ih, rfl⟩
  have hlen : (ofBytes t).length = t.size := by rw [ofBytes, List.length_map]; rfl
  have hlt := heldT_lt ht
  obtain ⟨φ', q1, q2, q3⟩ := hr.new hnid hnl (k := .grow) (e := canon P e) (xs := ofBytes t) (i := ⟨w.heap.size, 0, cap, canon P e⟩) hbel (fun φ' _ => by
    refine ⟨rfl, heldT_canon g ht, g.canon_canon hlt, fun x hx => (fit_canon g hlt x).2 (hfit x hx), by simp [hlen, hcap], by simp, fun _ _ => hr.size, by simp, fun _ => ⟨_, hcv φ', fun j v hj => ?_⟩, fun _ _ => ⟨arr, e, _, h3, ?_, .inr (Nat.le_refl _)⟩⟩
    · simp only [World.cell?, h3, Nat.zero_add]
      have hj2 : j < t.data.toList.length := by
        have := (List.getElem?_eq_some_iff.1 hj).1
        simpa using this
      have : arr[j]? = some v := by
        simp only [arr]
        rw [Array.getElem?_append_left (by simpa using hj2)]
        simpa using hj
      simpa using this
    · rw [harr]; simp [g.cells_canon hlt, hcells]) (fun _ => Nat.le_refl _)
  refine ⟨φ', .slice (some ⟨w.heap.size, 0, none⟩) t.size cap, w3, .inl ?_, q1.nx _, slice_new g hlt q2 hcap, q3, hbel.mono hr.size⟩
  have hsh : ({ w1 with heap := w1.heap.push (.cells arr e) } : World).shape? w.heap.size = some (e, arr.size) := by
    have hb : w2.heap[w.heap.size]? = some (.cells arr e (0, 0)) := heap_alloc_new w1 _
    have hb2 : ({ w1 with heap := w1.heap.push (.cells arr e) } : World).heap[w.heap.size]? = some (.cells arr e (0, 0)) := hb
    simp [World.shape?, hb2]
  have hrun : (Conv.stringToBytes e t).run P w = .ok (.slice (some ⟨w.heap.size, 0, none⟩) t.size cap) w3 := by
    simp only [Conv.stringToBytes, Sem.run_bind, run_choose, Question.forced, Bool.false_eq_true, if_false, Result.andThen_ok, newRow, run_newObj, Sem.run_pure, markStringish, run_shape]
    have : w1.heap.size = w.heap.size := rfl
    show ((match ({ w1 with heap := w1.heap.push (.cells arr e) } : World).shape? w.heap.size with
      | some (fst, n) => freeze { block := w.heap.size, off := n } 1
      | x => pure ()).run P _).andThen _ = _
    rw [hsh]
    rfl
  simp only [execOp, ho, hval, convert, Sem.run_bind, run_und w hus, run_und w hud, Result.andThen_ok, run_und w hue, hrun, Sem.run_pure]
end ops
end Go.Dam

namespace Go.Dam
open Go.RowKit (Below)

/-! ### the world with another count of draws -/
theorem RowR.of_heap {P : Program} {base : Nat} {φ : Phi} {w w' : World} {k : BK} {e : TypeId} {xs : List AV} {i : BI} (r : RowR P base φ w k e xs i) (hw : w'.heap = w.heap) : RowR P base φ w' k e xs i := by
  refine ⟨r.ie, r.held, r.canon, r.fit, r.len, r.fixed, r.own, r.ro, fun hn => ?_, fun hk hn => ?_⟩
  · obtain ⟨cs, h1, h2⟩ := r.mem hn
    exact ⟨cs, h1, fun j v hj => by rw [World.cell?_of_block (w := w) (by rw [hw])]; exact h2 j v hj⟩
  · obtain ⟨arr, T, fz, h1, h2⟩ := r.room hk hn
    exact ⟨arr, T, fz, by rw [hw]; exact h1, h2⟩
theorem HR.of_heap {P : Program} {base : Nat} {φ : Phi} {h : H} {w w' : World} (hr : HR P base φ h w) (hw : w'.heap = w.heap) : HR P base φ h w' :=
  ⟨by rw [hw]; exact hr.size, fun b k e xs hb => let ⟨i, hi, r⟩ := hr.row b k e xs hb; ⟨i, hi, r.of_heap hw⟩, hr.apart, hr.fresh, hr.nomap⟩

section ops
variable {P : Program} (g : Good P) {base : Nat} {φ : Phi} {h h' : H} {w : World} (hr : HR P base φ h w) {nid : Nat} {r : Env} {a : Act} (he : EnvR P φ r a) {o : Oper} {v : AV}

theorem binV_run {op : BinOp} {t : TypeId} {x y : Operand} {u1 u2 u : AV} {c1 c2 : Value} (h1 : VV P φ u1 c1) (h2 : VV P φ u2 c2) (hv : binV op u1 u2 = some u) : ∃ cv, ((do eqGuard op t x y c1 c2; binOp op t c1 c2 : Sem Value)).run P w = .ok cv w ∧ VV P φ u cv := by
  unfold binV at hv
  split at hv <;> try (cases hv; done)
  · rename_i k m k' n
    have e1 : c1 = .int k m := h1
    have e2 : c2 = .int k' n := h2
    subst e1; subst e2
    have hs : ∀ op', (op' = .shl ∨ op' = .shr) → op = op' → shI op k m n = some u → ∃ cv, ((do eqGuard op t x y (.int k m) (.int k' n); binOp op t (.int k m) (.int k' n) : Sem Value)).run P w = .ok cv w ∧ VV P φ u cv := by
      intro op' ho heq hsv
      subst heq
      unfold shI at hsv
      split at hsv <;> try (cases hsv; done)
      rename_i h0
      rcases ho with rfl | rfl
      · simp only [Option.some.injEq] at hsv
        subst hsv
        exact ⟨_, by simp [eqGuard, binOp, Op.shift, h0], rfl⟩
      · simp only [Option.some.injEq] at hsv
        subst hsv
        exact ⟨_, by simp [eqGuard, binOp, Op.shift, h0], rfl⟩
    have key : op ≠ .shl → op ≠ .shr → k = k' ∧ binI op k m n = some u := by
      intro n1 n2
      revert hv
      cases op <;> simp only [ne_eq, not_true_eq_false, reduceCtorEq, not_false_eq_true] at n1 n2 ⊢ <;> (intro hv; split at hv <;> first | (cases hv; done) | (rename_i hk; exact ⟨hk, hv⟩))
    by_cases e1 : op = .shl
    · subst e1; exact hs .shl (.inl rfl) rfl hv
    by_cases e2 : op = .shr
    · subst e2; exact hs .shr (.inr rfl) rfl hv
    obtain ⟨rfl, hb⟩ := key e1 e2
    clear hv hs key
    cases op <;> simp only [binI] at hb <;> first
      | (cases hb; done)
      | (simp only [Option.some.injEq] at hb; subst hb; exact ⟨_, by simp [eqGuard_at_int, binOp, Op.intArith, Op.intBits, Op.intCmp], rfl⟩)
      | (split at hb <;> first
          | (cases hb; done)
          | (rename_i h0; simp only [Option.some.injEq] at hb; subst hb; exact ⟨_, by simp [eqGuard_at_int, binOp, Op.intDiv, h0], rfl⟩))
  · rename_i s1 s2
    have e1 : c1 = .string s1 := h1
    have e2 : c2 = .string s2 := h2
    subst e1; subst e2
    cases op
    case add =>
      simp only [binS] at hv
      split at hv <;> try (cases hv; done)
      rename_i hl
      simp only [Option.some.injEq] at hv
      subst hv
      have : ¬ ((s1.size + s2.size : Nat) : Int) > IntKind.i64.max := by
        rw [IntKind.max_i64]
        simp only [strLim] at hl
        omega
      exact ⟨.string (s1 ++ s2), by simp only [eqGuard_at_string, binOp, Op.stringOp, this, if_false, Sem.run_bind, Sem.run_pure, Result.andThen_ok], rfl⟩
    all_goals
      simp only [binS] at hv
      first
        | (cases hv; done)
        | (simp only [Option.some.injEq] at hv
           subst hv
           exact ⟨_, by simp [eqGuard_at_string, binOp, Op.stringOp], rfl⟩)

include hr he
theorem s_bin {op : BinOp} {t t' : TypeId} {x y : Operand} {x' y' : Opnd} (ho : o.op = .binOp op t x y t') (hx : opnd x = some x') (hy : opnd y = some y') (hv : evOp (teOf P) r h nid (.bin op x' y') = some (v, h')) : Out P base φ h.next nid o a w v h' := by
  simp only [evOp, Option.map_eq_some_iff, Prod.mk.injEq] at hv
  obtain ⟨u, hu, rfl, rfl⟩ := hv
  obtain ⟨cv, h1, h2⟩ := binV_run (w := w) (t := t) (x := x) (y := y) (opnd_VV he hx) (opnd_VV he hy) hu
  refine Out.pure hr (cv := cv) ?_ h2
  simp only [execOp, ho]
  rw [Sem.run_bind, h1]
  rfl
end ops

/-! ### comparisons of structs and arrays -/
mutual
theorem beq_refl : ∀ x : AV, AV.beq x x = true
  | .bool _ | .int .. | .str _ | .ptr .. | .nilp | .slice .. | .nils | .map _ | .nilm | .nilf => by simp [AV.beq]
  | .fn f x c => by simp [AV.beq, beqs_refl x, beqs_refl c]
  | .agg t xs => by simp [AV.beq, beqs_refl xs]
  | .tup xs => by simp [AV.beq, beqs_refl xs]
theorem beqs_refl : ∀ xs : List AV, AV.beqs xs xs = true
  | [] => by simp [AV.beqs]
  | x :: xs => by simp [AV.beqs, beq_refl x, beqs_refl xs]
end

/-- a part of a list of cells -/
theorem run_partAt {P : Program} (g : Good P) {φ : Phi} {w : World} {t : TypeId} {x : AV} {cs pre mid post : List Value} (he : cs = pre ++ (mid ++ post)) {off : Nat} (ho : pre.length = off) (ht : heldT P t = true) (hf : Fit P t x) (hc : CV P φ x mid) :
    ∃ cv, (part t cs.toArray off).run P w = .ok cv w ∧ VV P φ x cv := by
  subst he; subst ho
  exact run_part g ht hf hc

theorem fieldsOf_eq {P : Program} {t : TypeId} {fs : Array Field} (h : P.underlying t = some (.struct fs)) : P.fieldsOf t = fs := by simp [Program.fieldsOf, h]

theorem eq_sound {P : Program} (g : Good P) {φ : Phi} {w : World} : ∀ (n d : Nat) {t : TypeId} {x y : AV} {vx vy : Value}, plainEq P n t = true → Fit P t x → Fit P t y → VV P φ x vx → VV P φ y vy → (Op.equalIn (n + d) t vx vy).run P w = .ok (AV.beq x y) w
  | 0, _, _, _, _, _, _, h, _, _, _, _ => by simp [plainEq] at h
  | n + 1, d, t, x, y, vx, vy, h, fx, fy, hx, hy => by
    simp only [plainEq, Bool.and_eq_true] at h
    obtain ⟨hheld, h⟩ := h
    have ht := heldT_lt hheld
    have hnd : n + 1 + d = (n + d) + 1 := by omega
    rw [hnd]
    have prim : ∀ {k : Kd} {z : AV}, kdOf P t = some k → k.isAgg = false → Fit P t z → k.ok z = true := by
      intro k z hk hag hz
      have hne : isAggT P t = false := by rw [kd_agg hk, hag]
      by_cases htup : z.isTup = false
      · by_cases ha : z.isAgg = false
        · have := (fit_sv ha htup).1 hz
          simp only [primOK, hk, Bool.and_eq_true] at this
          exact this.1.2
        · obtain ⟨t1, xs, rfl⟩ := agg_of ha
          rcases fit_agg hz with ⟨_, ⟨fs, hu, _⟩ | ⟨m, e, hu, _⟩⟩ <;> simp [isAggT, hu, aggD] at hne
      · obtain ⟨xs, rfl⟩ := tup_of htup
        simp [Fit, fitB] at hz
    split at h
    · rename_i hu
      have hk : kdOf P t = some .bool := by simp [kdOf, hu]
      have p1 := prim hk rfl fx
      have p2 := prim hk rfl fy
      cases x <;> simp only [Kd.ok] at p1 <;> try (cases p1; done)
      cases y <;> simp only [Kd.ok] at p2 <;> try (cases p2; done)
      rename_i b1 b2
      have e1 : vx = .bool b1 := hx
      have e2 : vy = .bool b2 := hy
      subst e1; subst e2
      rw [run_equalIn_bool' w _ _ _ _ hu]
      simp [AV.beq]
    · rename_i k hu
      have hk : kdOf P t = some (.int k) := by simp [kdOf, hu]
      have p1 := prim hk rfl fx
      have p2 := prim hk rfl fy
      cases x <;> simp only [Kd.ok] at p1 <;> try (cases p1; done)
      cases y <;> simp only [Kd.ok] at p2 <;> try (cases p2; done)
      rename_i k1 m1 k2 m2
      simp only [beq_iff_eq] at p1 p2
      subst p1; subst p2
      have e1 : vx = .int k m1 := hx
      have e2 : vy = .int k m2 := hy
      subst e1; subst e2
      rw [run_equalIn_int w _ _ _ _ _ _ hu]
      simp [AV.beq]
    · rename_i hu
      have hk : kdOf P t = some .str := by simp [kdOf, hu]
      have p1 := prim hk rfl fx
      have p2 := prim hk rfl fy
      cases x <;> simp only [Kd.ok] at p1 <;> try (cases p1; done)
      cases y <;> simp only [Kd.ok] at p2 <;> try (cases p2; done)
      rename_i s1 s2
      have e1 : vx = .string s1 := hx
      have e2 : vy = .string s2 := hy
      subst e1; subst e2
      rw [run_equalIn_string w _ _ _ _ hu, ← beq_toListBytes]
      congr 1
    · rename_i fs hu
      simp only [Bool.and_eq_true, Bool.not_eq_true', List.all_eq_true, bne_iff_ne] at h
      obtain ⟨hsi, hall⟩ := h
      have agg : ∀ {z : AV}, Fit P t z → ∃ zs, z = .agg (canon P t) zs ∧ fitsB P (fs.toList.map (·.type)) zs = true := by
        intro z hz
        by_cases ha : z.isAgg = false
        · exfalso
          by_cases htup : z.isTup = false
          · have := prim_not_agg ((fit_sv ha htup).1 hz)
            simp [isAggT, hu, aggD] at this
          · obtain ⟨xs, rfl⟩ := tup_of htup
            simp [Fit, fitB] at hz
        · obtain ⟨t1, xs, rfl⟩ := agg_of ha
          rcases fit_agg hz with ⟨rfl, ⟨fs', hu', hf'⟩ | ⟨m, e, hu', _⟩⟩
          · rw [hu] at hu'
            simp only [Option.some.injEq, TypeDesc.struct.injEq] at hu'
            subst hu'
            exact ⟨xs, rfl, hf'⟩
          · rw [hu] at hu'; cases hu'
      obtain ⟨xs, rfl, hfx⟩ := agg fx
      obtain ⟨ys, rfl, hfy⟩ := agg fy
      obtain ⟨_, cx, hcx, rfl⟩ := hx
      obtain ⟨_, cy, hcy, rfl⟩ := hy
      rw [run_equalIn_struct w _ _ _ _ (by rw [fieldsOf_eq hu]; exact hu) hsi, fieldsOf_eq hu]
      have hst := g.struct ht hu
      have key : ∀ (fs : List Field) (o tot : Nat) (xs ys : List AV) (prex restx prey resty : List Value), layFields P o fs = some tot → (∀ f ∈ fs, f.type < P.types.size) → (∀ f ∈ fs, f.name ≠ "_" ∧ plainEq P n f.type = true) → fitsB P (fs.map (·.type)) xs = true → fitsB P (fs.map (·.type)) ys = true →
          CVs P φ xs restx → CVs P φ ys resty → prex.length = o → prey.length = o → (Op.eqFields (n + d) (prex ++ restx).toArray (prey ++ resty).toArray fs).run P w = .ok (AV.beqs xs ys) w := by
        intro fs
        induction fs with
        | nil =>
          intro o tot xs ys prex restx prey resty _ _ _ h1 h2 _ _ _ _
          have := fitsB_len h1
          have := fitsB_len h2
          cases xs <;> cases ys <;> simp_all [Op.eqFields, AV.beqs]
        | cons f fs ih =>
          intro o tot xs ys prex restx prey resty hl hlt hp h1 h2 c1 c2 l1 l2
          simp only [layFields] at hl
          split at hl <;> try (cases hl; done)
          rename_i ho
          simp only [beq_iff_eq] at ho
          cases xs with
          | nil => simp [fitsB] at h1
          | cons x xs =>
            cases ys with
            | nil => simp [fitsB] at h2
            | cons y ys =>
              simp only [List.map_cons, fitsB, Bool.and_eq_true] at h1 h2
              simp only [CVs] at c1 c2
              obtain ⟨a1, b1, p1, q1, rfl⟩ := c1
              obtain ⟨a2, b2, p2, q2, rfl⟩ := c2
              obtain ⟨hn, hpe⟩ := hp f (by simp)
              have hlf := hlt f (by simp)
              have hheldf : heldT P f.type = true := by
                cases n with
                | zero => simp [plainEq] at hpe
                | succ n => simp only [plainEq, Bool.and_eq_true] at hpe; exact hpe.1
              obtain ⟨v1, r1, s1⟩ := run_partAt (w := w) (cs := prex ++ (a1 ++ b1)) g rfl (l1.trans ho.symm) hheldf h1.1 p1
              obtain ⟨v2, r2, s2⟩ := run_partAt (w := w) (cs := prey ++ (a2 ++ b2)) g rfl (l2.trans ho.symm) hheldf h2.1 p2
              have r3 := eq_sound g (w := w) n d hpe h1.1 h2.1 s1 s2
              have len1 := CV_len g hlf h1.1 p1
              have len2 := CV_len g hlf h2.1 p2
              have := ih (o + P.cellsOf f.type) tot xs ys (prex ++ a1) b1 (prey ++ a2) b2 hl (fun f' hf' => hlt f' (by simp [hf'])) (fun f' hf' => hp f' (by simp [hf'])) h1.2 h2.2 q1 q2 (by simp [l1, len1]) (by simp [l2, len2])
              simp only [List.append_assoc] at this
              simp only [Op.eqFields, hn, ne_eq, not_false_eq_true, if_true, Sem.run_bind, r1, r2, r3, Result.andThen_ok, AV.beqs]
              cases AV.beq x y
              · simp
              · simpa using this
      have := key fs.toList 0 _ xs ys [] cx [] cy hst.1 hst.2 hall hfx hfy hcx hcy rfl rfl
      simpa [AV.beq] using this
    · rename_i m e hu
      have hheldE : heldT P e = true := by
        cases n with
        | zero => simp [plainEq] at h
        | succ n => simp only [plainEq, Bool.and_eq_true] at h; exact h.1
      have agg : ∀ {z : AV}, Fit P t z → ∃ zs, z = .agg (canon P t) zs ∧ m = zs.length ∧ ∀ x ∈ zs, Fit P e x := by
        intro z hz
        by_cases ha : z.isAgg = false
        · exfalso
          by_cases htup : z.isTup = false
          · have := prim_not_agg ((fit_sv ha htup).1 hz)
            simp [isAggT, hu, aggD] at this
          · obtain ⟨xs, rfl⟩ := tup_of htup
            simp [Fit, fitB] at hz
        · obtain ⟨t1, xs, rfl⟩ := agg_of ha
          rcases fit_agg hz with ⟨rfl, ⟨fs', hu', _⟩ | ⟨m', e', hu', hm', hf'⟩⟩
          · rw [hu] at hu'; cases hu'
          · rw [hu] at hu'
            simp only [Option.some.injEq, TypeDesc.array.injEq] at hu'
            obtain ⟨rfl, rfl⟩ := hu'
            exact ⟨xs, rfl, hm', hf'⟩
      obtain ⟨xs, rfl, hmx, hfx⟩ := agg fx
      obtain ⟨ys, rfl, hmy, hfy⟩ := agg fy
      obtain ⟨_, cx, hcx, rfl⟩ := hx
      obtain ⟨_, cy, hcy, rfl⟩ := hy
      obtain ⟨ie, hie⟩ := info_lt' (g.array ht hu).2
      rw [run_equalIn_array w _ _ _ hu hie, List.range_eq_range']
      have key : ∀ (k s : Nat) (xs ys : List AV) (prex restx prey resty : List Value), xs.length = k → ys.length = k → (∀ x ∈ xs, Fit P e x) → (∀ x ∈ ys, Fit P e x) →
          CVs P φ xs restx → CVs P φ ys resty → prex.length = s * P.cellsOf e → prey.length = s * P.cellsOf e → (Op.eqItems (n + d) e (P.cellsOf e) (prex ++ restx).toArray (prey ++ resty).toArray (List.range' s k)).run P w = .ok (AV.beqs xs ys) w := by
        intro k
        induction k with
        | zero =>
          intro s xs ys prex restx prey resty h1 h2 _ _ _ _ _ _
          rw [List.length_eq_zero_iff.1 h1, List.length_eq_zero_iff.1 h2]
          simp [Op.eqItems, AV.beqs]
        | succ k ih =>
          intro s xs ys prex restx prey resty h1 h2 f1 f2 c1 c2 l1 l2
          cases xs with
          | nil => simp at h1
          | cons x xs =>
            cases ys with
            | nil => simp at h2
            | cons y ys =>
              simp only [CVs] at c1 c2
              obtain ⟨a1, b1, p1, q1, rfl⟩ := c1
              obtain ⟨a2, b2, p2, q2, rfl⟩ := c2
              have g1 := f1 x (by simp)
              have g2 := f2 y (by simp)
              obtain ⟨v1, r1, s1⟩ := run_partAt (w := w) (cs := prex ++ (a1 ++ b1)) g rfl l1 hheldE g1 p1
              obtain ⟨v2, r2, s2⟩ := run_partAt (w := w) (cs := prey ++ (a2 ++ b2)) g rfl l2 hheldE g2 p2
              have r3 := eq_sound g (w := w) n d h g1 g2 s1 s2
              have len1 := CV_len g (heldT_lt hheldE) g1 p1
              have len2 := CV_len g (heldT_lt hheldE) g2 p2
              have := ih (s + 1) xs ys (prex ++ a1) b1 (prey ++ a2) b2 (by simpa using h1) (by simpa using h2) (fun z hz => f1 z (by simp [hz])) (fun z hz => f2 z (by simp [hz])) q1 q2 (by simp [l1, len1, Nat.add_mul]) (by simp [l2, len2, Nat.add_mul])
              simp only [List.append_assoc] at this
              simp only [List.range'_succ, Op.eqItems, Sem.run_bind, r1, r2, r3, Result.andThen_ok, AV.beqs]
              cases AV.beq x y
              · simp
              · simpa using this
      have := key m 0 xs ys [] cx [] cy hmx.symm hmy.symm hfx hfy hcx hcy (by simp) (by simp)
      simpa [AV.beq] using this
    · cases h

end Go.Dam

namespace Go.Dam
open Go.RowKit (Below)

theorem eqGuard_aggs {P : Program} {w : World} {op : BinOp} {t : TypeId} {x y : Operand} {xs ys : Array Value} (h : P.eqGuardType P.depth t = false) : (eqGuard op t x y (.agg xs) (.agg ys)).run P w = .ok () w := run_eqGuard_agg w op t x y xs ys h

theorem kd_bool {P : Program} {t : TypeId} (h : kdOf P t = some .bool) : P.underlying t = some .bool := by
  unfold kdOf at h
  split at h <;> simp only [Option.some.injEq, reduceCtorEq] at h
  assumption
theorem kd_ptr {P : Program} {t : TypeId} (h : kdOf P t = some .ptr) : ∃ e, P.underlying t = some (.pointer e) := by
  unfold kdOf at h
  split at h <;> simp only [Option.some.injEq, reduceCtorEq] at h
  exact ⟨_, by assumption⟩
theorem kd_slice {P : Program} {t : TypeId} (h : kdOf P t = some .slice) : ∃ e, P.underlying t = some (.slice e) := by
  unfold kdOf at h
  split at h <;> simp only [Option.some.injEq, reduceCtorEq] at h
  exact ⟨_, by assumption⟩
theorem kd_fn {P : Program} {t : TypeId} (h : kdOf P t = some .fn) : ∃ p q s, P.underlying t = some (.func p q s) := by
  unfold kdOf at h
  split at h <;> simp only [Option.some.injEq, reduceCtorEq] at h
  exact ⟨_, _, _, by assumption⟩

/-- what the model makes of an equality -/
theorem eq_out {P : Program} {base : Nat} {φ : Phi} {h : H} {w : World} (hr : HR P base φ h w) {nid : Nat} {a : Act} {o : Oper} {op : BinOp} {t t' : TypeId} {x y : Operand} {b : Bool} {c1 c2 : Value} (ho : o.op = .binOp op t x y t') (hop : op = .eql ∨ op = .neq)
    (e1 : a.eval x = c1) (e2 : a.eval y = c2) (hg : (eqGuard op t x y c1 c2).run P w = .ok () w)
    (hb : binOp .eql t c1 c2 = (do pure (.bool (← Op.equal t c1 c2))) ∧ binOp .neq t c1 c2 = (do pure (.bool (!(← Op.equal t c1 c2)))))
    (he : (Op.equal t c1 c2).run P w = .ok b w) : Out P base φ h.next nid o a w (.bool (if isNeq op then !b else b)) h := by
  subst e1; subst e2
  rcases hop with rfl | rfl
  · refine Out.pure hr (cv := .bool b) ?_ rfl
    simp only [execOp, ho]
    rw [Sem.run_bind, Sem.run_bind, hg, Result.andThen_ok, hb.1, Sem.run_bind, he]
    rfl
  · refine Out.pure hr (cv := .bool (!b)) ?_ rfl
    simp only [execOp, ho]
    rw [Sem.run_bind, Sem.run_bind, hg, Result.andThen_ok, hb.2, Sem.run_bind, he]
    rfl

section eqs
variable {P : Program} (w : World) (d : Nat) {t e : TypeId} {p q : Array TypeId} {s : Bool}
theorem eqIn_p0 (hu : P.underlying t = some (.pointer e)) (b : Option Addr) : (Op.equalIn (d + 1) t (.pointer none) (.pointer b)).run P w = .ok b.isNone w := by simp [Op.equalIn, run_und w hu]
theorem eqIn_p1 (hu : P.underlying t = some (.pointer e)) (a : Addr) : (Op.equalIn (d + 1) t (.pointer (some a)) (.pointer none)).run P w = .ok false w := by simp [Op.equalIn, run_und w hu]
theorem eqIn_s0 (hu : P.underlying t = some (.slice e)) (b : Option Addr) (m n m' n' : Nat) : (Op.equalIn (d + 1) t (.slice none m n) (.slice b m' n')).run P w = .ok b.isNone w := by simp [Op.equalIn, run_und w hu]
theorem eqIn_s1 (hu : P.underlying t = some (.slice e)) (a : Addr) (m n m' n' : Nat) : (Op.equalIn (d + 1) t (.slice (some a) m n) (.slice none m' n')).run P w = .ok false w := by simp [Op.equalIn, run_und w hu]
theorem eqIn_f0 (hu : P.underlying t = some (.func p q s)) : (Op.equalIn (d + 1) t .nilFunc .nilFunc).run P w = .ok true w := by simp [Op.equalIn, run_und w hu]
theorem eqIn_f1 (hu : P.underlying t = some (.func p q s)) (f : Fn) (x y : Array Value) : (Op.equalIn (d + 1) t .nilFunc (.func f x y)).run P w = .ok false w := by simp [Op.equalIn, run_und w hu]
theorem eqIn_f2 (hu : P.underlying t = some (.func p q s)) (f : Fn) (x y : Array Value) : (Op.equalIn (d + 1) t (.func f x y) .nilFunc).run P w = .ok false w := by simp [Op.equalIn, run_und w hu]
end eqs

section ops
variable {P : Program} (g : Good P) {base : Nat} {φ : Phi} {h h' : H} {w : World} (hr : HR P base φ h w) {nid : Nat} {r : Env} {a : Act} (he : EnvR P φ r a) {o : Oper} {v : AV}
include g hr he

theorem s_eqv {op : BinOp} {t t' : TypeId} {x y : Operand} {x' y' : Opnd} {k : Kd} (ho : o.op = .binOp op t x y t') (hop : op = .eql ∨ op = .neq) (hk : kdOf P t = some k) (hx : opnd x = some x') (hy : opnd y = some y')
    (hag : k.isAgg = true → plainEq P 10 t = true ∧ P.eqGuardType P.depth t = false ∧ heldT P t = true) (hv : evOp (teOf P) r h nid (.eqv (isNeq op) k x' y') = some (v, h')) : Out P base φ h.next nid o a w v h' := by
  simp only [evOp, Option.map_eq_some_iff, Prod.mk.injEq] at hv
  obtain ⟨b, hb, rfl, rfl⟩ := hv
  have hp := opnd_VV he hx
  have hq := opnd_VV he hy
  unfold eqV at hb
  split at hb <;> try (cases hb; done)
  · rename_i b1 b2 h1 h2
    simp only [Option.some.injEq] at hb
    subst hb
    rw [h1] at hp; rw [h2] at hq
    exact eq_out hr ho hop (c1 := .bool b1) (c2 := .bool b2) hp hq (by rw [eqGuard_at_bool]; rfl) ⟨rfl, rfl⟩ (run_equalIn_bool' w _ _ _ _ (kd_bool hk))
  · rename_i h1 h2
    simp only [Option.some.injEq] at hb
    subst hb
    rw [h1] at hp; rw [h2] at hq
    obtain ⟨e, hu⟩ := kd_ptr hk
    exact eq_out hr ho hop (c1 := .pointer none) (c2 := .pointer none) hp hq (by rw [eqGuard_at_pointer]; rfl) ⟨rfl, rfl⟩ (eqIn_p0 w 9999 hu none)
  · rename_i h1 h2
    simp only [Option.some.injEq] at hb
    subst hb
    rw [h1] at hp; rw [h2] at hq
    obtain ⟨e, hu⟩ := kd_slice hk
    exact eq_out hr ho hop (c1 := .slice none 0 0) (c2 := .slice none 0 0) hp hq (by rw [eqGuard_at_slice]; rfl) ⟨rfl, rfl⟩ (eqIn_s0 w 9999 hu none _ _ _ _)
  · rename_i h1 h2
    simp only [Option.some.injEq] at hb
    subst hb
    rw [h1] at hp; rw [h2] at hq
    obtain ⟨_, _, _, hu⟩ := kd_fn hk
    exact eq_out hr ho hop (c1 := .nilFunc) (c2 := .nilFunc) hp hq (by rw [eqGuard_at_nilFunc]; rfl) ⟨rfl, rfl⟩ (eqIn_f0 w 9999 hu)
  · rename_i h1 h2
    simp only [Option.some.injEq] at hb
    subst hb
    rw [h1] at hp; rw [h2] at hq
    obtain ⟨i, off, t2, _, _, _, _, hval⟩ := hq
    obtain ⟨e, hu⟩ := kd_ptr hk
    exact eq_out hr ho hop (c1 := .pointer none) hp hval (by rw [eqGuard_at_pointer]; rfl) ⟨rfl, rfl⟩ (eqIn_p0 w 9999 hu _)
  · rename_i h1 h2
    simp only [Option.some.injEq] at hb
    subst hb
    rw [h1] at hp; rw [h2] at hq
    obtain ⟨i, off, t2, _, _, _, _, hval⟩ := hp
    obtain ⟨e, hu⟩ := kd_ptr hk
    exact eq_out hr ho hop (c2 := .pointer none) hval hq (by rw [eqGuard_at_pointer]; rfl) ⟨rfl, rfl⟩ (eqIn_p1 w 9999 hu _)
  · rename_i h1 h2
    simp only [Option.some.injEq] at hb
    subst hb
    rw [h1] at hp; rw [h2] at hq
    obtain ⟨i, off0, N, e', ad, _, _, _, _, _, _, hval⟩ := hq
    obtain ⟨e, hu⟩ := kd_slice hk
    exact eq_out hr ho hop (c1 := .slice none 0 0) hp hval (by rw [eqGuard_at_slice]; rfl) ⟨rfl, rfl⟩ (eqIn_s0 w 9999 hu _ _ _ _ _)
  · rename_i h1 h2
    simp only [Option.some.injEq] at hb
    subst hb
    rw [h1] at hp; rw [h2] at hq
    obtain ⟨i, off0, N, e', ad, _, _, _, _, _, _, hval⟩ := hp
    obtain ⟨e, hu⟩ := kd_slice hk
    exact eq_out hr ho hop (c2 := .slice none 0 0) hval hq (by rw [eqGuard_at_slice]; rfl) ⟨rfl, rfl⟩ (eqIn_s1 w 9999 hu _ _ _ _ _)
  · rename_i h1 h2
    simp only [Option.some.injEq] at hb
    subst hb
    rw [h1] at hp; rw [h2] at hq
    obtain ⟨a2, c2, _, _, hval⟩ := hq
    obtain ⟨_, _, _, hu⟩ := kd_fn hk
    exact eq_out hr ho hop (c1 := .nilFunc) hp hval (by rw [eqGuard_at_nilFunc]; rfl) ⟨rfl, rfl⟩ (eqIn_f1 w 9999 hu _ _ _)
  · rename_i h1 h2
    simp only [Option.some.injEq] at hb
    subst hb
    rw [h1] at hp; rw [h2] at hq
    obtain ⟨a2, c2, _, _, hval⟩ := hp
    obtain ⟨_, _, _, hu⟩ := kd_fn hk
    exact eq_out hr ho hop (c2 := .nilFunc) hval hq (by rw [eqGuard_at_func]; rfl) ⟨rfl, rfl⟩ (eqIn_f2 w 9999 hu _ _ _)
  · rename_i t0 t1 xs t2 ys h1 h2
    split at hb <;> try (cases hb; done)
    rename_i hc
    obtain ⟨rfl, rfl⟩ := hc
    simp only [Option.some.injEq] at hb
    subst hb
    obtain ⟨hpl, hgt, hheld⟩ := hag rfl
    have hlt := heldT_lt hheld
    rw [h1] at hp; rw [h2] at hq
    have hct : t2 = canon P t := by
      unfold kdOf at hk
      split at hk <;> simp only [Option.some.injEq, Kd.agg.injEq, reduceCtorEq] at hk
      · exact hk.symm
      · exact hk.symm
    have f1 : Fit P t (.agg t2 xs) := by have := hp.1.2.2; rw [hct] at this ⊢; exact (fit_canon g hlt _).1 this
    have f2 : Fit P t (.agg t2 ys) := by have := hq.1.2.2; rw [hct] at this ⊢; exact (fit_canon g hlt _).1 this
    have heq := eq_sound g (w := w) 10 9990 hpl f1 f2 hp hq
    have hp2 := hp
    have hq2 := hq
    obtain ⟨_, cx, _, ex⟩ := hp2
    obtain ⟨_, cy, _, ey⟩ := hq2
    rw [ex, ey] at heq
    have := eq_out hr (nid := nid) ho hop ex ey (eqGuard_aggs hgt) ⟨rfl, rfl⟩ heq
    simpa [AV.beq] using this
end ops
end Go.Dam

namespace Go.Dam
open Go.RowKit (Below)

/-- a block forgotten -/
theorem HR.del {P : Program} {base : Nat} {φ : Phi} {h : H} {w : World} (hr : HR P base φ h w) (b : Nat) : HR P base φ (h.del b) w := by
  refine ⟨hr.size, fun b2 k e xs hb => ?_, fun b1 b2 k1 k2 e1 e2 x1 x2 i1 i2 hne g1 g2 => ?_, hr.fresh, fun b2 es hb => ?_⟩
  · rw [H.get_del] at hb
    split at hb
    · cases hb
    · exact hr.row b2 k e xs hb
  · rw [H.get_del] at g1 g2
    split at g1 <;> try (cases g1; done)
    split at g2 <;> try (cases g2; done)
    exact hr.apart b1 b2 k1 k2 e1 e2 x1 x2 i1 i2 hne g1 g2
  · rw [H.get_del] at hb
    split at hb
    · cases hb
    · exact hr.nomap b2 es hb

/-- a row goes on under a new name, in the same block of the model -/
theorem HR.over {P : Program} {base : Nat} {φ : Phi} {h : H} {w w' : World} (hr : HR P base φ h w) {b : Nat} {k0 : BK} {e0 : TypeId} {xs0 : List AV} (hb : h.get b = some (.row k0 e0 xs0)) (hk0 : k0 ≠ .ro) {i0 : BI} (hi0 : φ b = some i0) (hn0 : i0.n ≠ 0)
    (hother : ∀ c, c ≠ i0.c → w'.heap[c]? = w.heap[c]?) (hsize : base ≤ w'.heap.size) (k : BK) (e : TypeId) (xs : List AV) (i : BI) (hc : i.c = i0.c) (hi : ∀ φ', PhiLe φ φ' → RowR P base φ' w' k e xs i) :
    ∃ φ', PhiTo φ φ' h.next ∧ φ' h.next = some i ∧ HR P base φ' ((h.del b).new (.row k e xs)) w' := by
  let φ' : Phi := fun b => if b = h.next then some i else φ b
  have hle : PhiLe φ φ' := fun b j hj => by
    have : b ≠ h.next := fun e => by rw [e, hr.fresh _ (Nat.le_refl _)] at hj; cases hj
    simp [φ', this, hj]
  have hne : ∀ b2 k2 e2 x2 i2, b2 ≠ b → h.get b2 = some (.row k2 e2 x2) → φ b2 = some i2 → RowR P base φ w k2 e2 x2 i2 → i2.n ≠ 0 → i2.c ≠ i0.c := by
    intro b2 k2 e2 x2 i2 hne hg hp hrow hn hcc
    by_cases hk2 : k2 = .ro
    · have h1 := hrow.ro hk2 hn
      obtain ⟨j, hj, hrow0⟩ := hr.row b k0 e0 xs0 hb
      rw [hi0] at hj
      cases hj
      have h2 := hrow0.own hk0 hn0
      omega
    · exact hr.apart b2 b k2 k0 e2 e0 x2 xs0 i2 i0 hne hg hb hk2 hk0 hp hi0 hn hn0 hcc
  have hget : ∀ b2, ((h.del b).new (.row k e xs)).get b2 = if b2 = h.next then some (.row k e xs) else if b2 = b then none else h.get b2 := by
    intro b2
    rw [H.get_new, H.get_del]
    rfl
  refine ⟨φ', ⟨hle, fun b hb => by simp [φ', hb]⟩, by simp [φ'], hsize, ?_, ?_, ?_, ?_⟩
  · intro b2 k2 e2 x2 hg
    rw [hget] at hg
    by_cases h1 : b2 = h.next
    · simp only [h1, if_true, Option.some.injEq, Blk.row.injEq] at hg
      obtain ⟨rfl, rfl, rfl⟩ := hg
      exact ⟨i, by simp [φ', h1], hi φ' hle⟩
    · simp only [h1, if_false] at hg
      split at hg <;> try (cases hg; done)
      rename_i h2
      obtain ⟨j, hj, hrow⟩ := hr.row b2 k2 e2 x2 hg
      refine ⟨j, hle _ _ hj, hrow.ie, hrow.held, hrow.canon, hrow.fit, hrow.len, hrow.fixed, hrow.own, hrow.ro, fun hn => ?_, fun hk2 hn => ?_⟩
      · obtain ⟨cs, q1, q2⟩ := hrow.mem hn
        refine ⟨cs, CVs.mono hle q1, fun m v hv => ?_⟩
        rw [World.cell?_of_block (w := w) (hother _ (hne b2 k2 e2 x2 j h2 hg hj hrow hn))]
        exact q2 m v hv
      · obtain ⟨arr, T, fz, q1, q2⟩ := hrow.room hk2 hn
        exact ⟨arr, T, fz, by rw [hother _ (hne b2 k2 e2 x2 j h2 hg hj hrow hn)]; exact q1, q2⟩
  · intro b1 b2 k1 k2 e1 e2 x1 x2 i1 i2 hbb g1 g2 n1 n2 p1 p2 z1 z2
    rw [hget] at g1 g2
    by_cases h1 : b1 = h.next
    · have h2 : b2 ≠ h.next := fun e => hbb (h1.trans e.symm)
      simp only [h2, if_false] at g2
      split at g2 <;> try (cases g2; done)
      rename_i h3
      have hp1 : i1 = i := by simpa [φ', h1] using p1.symm
      have hp2 : φ b2 = some i2 := by simpa [φ', h2] using p2
      obtain ⟨j, hj, hrow⟩ := hr.row b2 k2 e2 x2 g2
      rw [hp2] at hj
      cases hj
      subst hp1
      rw [hc]
      exact fun e => hne b2 k2 e2 x2 i2 h3 g2 hp2 hrow z2 e.symm
    · simp only [h1, if_false] at g1
      split at g1 <;> try (cases g1; done)
      rename_i h3
      have hp1 : φ b1 = some i1 := by simpa [φ', h1] using p1
      obtain ⟨j, hj, hrow⟩ := hr.row b1 k1 e1 x1 g1
      rw [hp1] at hj
      cases hj
      by_cases h2 : b2 = h.next
      · have hp2 : i2 = i := by simpa [φ', h2] using p2.symm
        subst hp2
        rw [hc]
        exact hne b1 k1 e1 x1 i1 h3 g1 hp1 hrow z1
      · simp only [h2, if_false] at g2
        split at g2 <;> try (cases g2; done)
        have hp2 : φ b2 = some i2 := by simpa [φ', h2] using p2
        exact hr.apart b1 b2 k1 k2 e1 e2 x1 x2 i1 i2 hbb g1 g2 n1 n2 hp1 hp2 z1 z2
  · intro b2 hb2
    have hb3 : h.next + 1 ≤ b2 := by
      have h9 : ((h.del b).new (.row k e xs)).next = h.next + 1 := by simp [H.new, H.newAt, H.del]
      rw [h9] at hb2
      exact hb2
    have h1 : b2 ≠ h.next := by omega
    simp [φ', h1, hr.fresh b2 (by omega)]
  · intro b2 es hg
    rw [hget] at hg
    split at hg
    · cases hg
    · split at hg
      · cases hg
      · exact hr.nomap b2 es hg

/-- the values behind 'append' and 'copy' -/
theorem src_run {P : Program} (g : Good P) {base : Nat} {φ : Phi} {h : H} {w : World} (hr : HR P base φ h w) {e0 : TypeId} (hte : heldT P e0 = true) {s : Bool} (hs : s = true → P.underlying e0 = some (.int .u8)) {xv : AV} {cx : Value} (hv : VV P φ xv cx) {new : List AV} (hsrc : srcElems (canon P e0) s h xv = some new) :
    (∀ w' : World, (Builtin.lenOf cx).run P w' = .ok new.length w') ∧ (∀ x ∈ new, Fit P e0 x) ∧
      ∀ m, m ≤ new.length → ∃ cs, CVs P φ (new.take m) cs ∧ cs.length = m * P.cellsOf e0 ∧ ∀ w' : World, w'.heap = w.heap → (Builtin.firstCells (P.cellsOf e0) m cx).run P w' = .ok cs.toArray w' := by
  have hlt := heldT_lt hte
  unfold srcElems at hsrc
  split at hsrc
  · split at hsrc <;> try (cases hsrc; done)
    simp only [Option.some.injEq] at hsrc
    subst hsrc
    have hv : cx = .slice none 0 0 := hv
    subst hv
    refine ⟨fun w' => by simp [Builtin.lenOf], by simp, fun m hm => ?_⟩
    have : m = 0 := by simpa using hm
    subst this
    exact ⟨[], by simp [CVs], by simp, fun w' _ => by simp [Builtin.firstCells]⟩
  · rename_i b p off len e'
    split at hsrc <;> try (cases hsrc; done)
    split at hsrc <;> try (cases hsrc; done)
    rename_i hee
    obtain ⟨i, off0, N, e2, ad, hi, hpl, hcan, hlt2, hle, had, hval⟩ := hv
    subst hval
    obtain ⟨h1, h2, cs, h3, h4, h5⟩ := hr.elems g hsrc hi hpl
    have hce : P.cellsOf e2 = P.cellsOf e0 := by rw [← g.cells_canon hlt2, hcan, hee, g.cells_canon hlt]
    have hfit : ∀ x ∈ new, Fit P e0 x := fun x hx => by
      rw [← fit_canon g hlt, ← hee, ← hcan, fit_canon g hlt2]; exact h2 x hx
    refine ⟨fun w' => by simp [Builtin.lenOf, h1], hfit, fun m hm => ?_⟩
    obtain ⟨pre, mid, post, q1, q2, q3, q4, _⟩ := CVs_part g hlt hfit h3 (off := 0) (len := m) (by omega)
    simp only [Nat.zero_mul, List.length_eq_zero_iff] at q2
    subst q2
    simp only [List.drop_zero] at q4
    refine ⟨mid, q4, q3, fun w' hw => ?_⟩
    by_cases hm0 : m = 0
    · subst hm0
      have : mid = [] := List.length_eq_zero_iff.1 (by omega)
      subst this
      simp [Builtin.firstCells, loadCells, loadCellsFrom]
    · have had : ad = ⟨i.c, i.o + off0 + off * P.cellsOf e2, none⟩ := by
        rcases had with h | ⟨h, _⟩
        · exact h
        · omega
      refine run_firstCells_some w' _ m ad len _ mid q3 (fun j u hj => ?_)
      rw [had, addr_add, World.cell?_of_block (w := w) (by rw [hw])]
      refine h5 j u ?_
      rw [q1, List.nil_append, List.getElem?_append_left (List.getElem?_eq_some_iff.1 hj).1]
      exact hj
  · rename_i t
    split at hsrc <;> try (cases hsrc; done)
    rename_i hst
    simp only [Option.some.injEq] at hsrc
    subst hsrc
    have hv : cx = .string t := hv
    subst hv
    have hue := hs hst
    have hk : kdOf P e0 = some (.int .u8) := by simp [kdOf, hue]
    have hcells : P.cellsOf e0 = 1 := by
      simp only [heldT, hk, Kd.isAgg, Bool.and_eq_true, Bool.false_or, beq_iff_eq] at hte
      exact hte.2
    have hlen : (ofBytes t).length = t.size := by rw [ofBytes, List.length_map]; rfl
    refine ⟨fun w' => by rw [hlen]; simp [Builtin.lenOf], fun x hx => ?_, fun m hm => ?_⟩
    · simp only [ofBytes, List.mem_map] at hx
      obtain ⟨b, _, rfl⟩ := hx
      simp [Fit, fitB, primOK, hk, Kd.isAgg, Kd.ok, hcells]
    · have hcv : ∀ l : List UInt8, CVs P φ (l.map fun b => AV.int .u8 b.toNat) (l.map fun b => Value.int .u8 b.toNat) := by
        intro l
        induction l with
        | nil => simp [CVs]
        | cons b l ih => simp only [List.map_cons, CVs, CV]; exact ⟨[.int .u8 b.toNat], _, ⟨_, rfl, rfl⟩, ih, rfl⟩
      refine ⟨(t.data.toList.take m).map fun b => Value.int .u8 b.toNat, ?_, ?_, fun w' _ => ?_⟩
      · rw [ofBytes, ← List.map_take]
        exact hcv _
      · rw [hlen] at hm
        simp [hcells, Nat.min_eq_left hm]
      · simp only [Builtin.firstCells, Sem.run_pure]
        congr 1
        apply Array.ext'
        simp [List.take_eq_take_min]
  · cases hsrc

/-! ### append -/
section runs
variable {P : Program} {w : World} {t u e : TypeId} {d : TypeDesc} {ty : TypeId}

theorem run_append_in (hu : P.underlying t = some (.slice e)) (hd : P.underlying u = some d) (hnd : ∀ k, d ≠ .int k) (hh : heldT P e = true) {base : Option Addr} {sLen sCap n : Nat} {cx : Value} {cs : List Value} {w2 : World}
    (hl : (Builtin.lenOf cx).run P w = .ok n w) (hf : (Builtin.firstCells (P.cellsOf e) n cx).run P w = .ok cs.toArray w) (hroom : sLen + n ≤ sCap)
    (hst : (match base with | some ad => storeCells (ad.add (sLen * P.cellsOf e)) cs | none => pure () : Sem Unit).run P w = .ok () w2) :
    (Builtin.append_ #[t, u] ty #[.slice base sLen sCap, cx]).run P w = .ok (.slice base (sLen + n) sCap) w2 := by
  cases base with
  | none => 
    simp only [Sem.run_pure, Result.ok.injEq, true_and] at hst
    subst hst
    simp [Builtin.append_, run_und w hu, run_size w hh, run_und w hd, hl, hroom, hf]
  | some ad =>
    simp only at hst
    simp [Builtin.append_, run_und w hu, run_size w hh, run_und w hd, hl, hroom, hf, hst]

theorem run_append_out (hu : P.underlying t = some (.slice e)) (hd : P.underlying u = some d) (hnd : ∀ k, d ≠ .int k) (hh : heldT P e = true) {i : TypeInfo} {z : Value} (hi : P.info? e = some i) (hz0 : i.zero = some z) {base : Option Addr} {sLen sCap n : Nat} {cx : Value} {old cs : List Value}
    (hl : (Builtin.lenOf cx).run P w = .ok n w) (hroom : ¬ sLen + n ≤ sCap) (hsmall : sLen + n ≤ 2 ^ 44) (hbytes : (sLen + n) * i.bytes ≤ 2 ^ 44)
    (hold : ∀ w' : World, w'.heap = w.heap → (Builtin.firstCells (P.cellsOf e) sLen (.slice base sLen sCap)).run P w' = .ok old.toArray w') (hf : ∀ w' : World, w'.heap = w.heap → (Builtin.firstCells (P.cellsOf e) n cx).run P w' = .ok cs.toArray w') :
    ∃ cap, sLen + n ≤ cap ∧ (Builtin.append_ #[t, u] ty #[.slice base sLen sCap, cx]).run P w = .ok (.slice (some ⟨w.heap.size, 0, none⟩) (sLen + n) cap) (w.drew.alloc (.cells (old.toArray ++ cs.toArray ++ Builtin.zeroCells z.cells (cap - (sLen + n))) e)) := by
  refine ⟨(Question.appendCap (sLen + n) sCap e).cut (w.tape w.drawn (.appendCap (sLen + n) sCap e)), by simp [Question.cut], ?_⟩
  have hi63 : ¬ ((sLen + n : Nat) : Int) > IntKind.i64.max := by rw [IntKind.max_i64]; omega
  have hgr : ¬ Builtin.nextslicecap (sLen + n) sCap * i.bytes > 2 ^ 48 := by
    have := growslice_fits (need := sLen + n) (old := sCap) (bytes := i.bytes) (by omega) (by omega)
    omega
  have h1 := hold w.drew rfl
  have h2 := hf w.drew rfl
  have hti : ∀ w', (typeInfo e).run P w' = .ok i w' := fun w' => run_typeInfo w' hi
  have hzv : ∀ w', (zeroValue e).run P w' = .ok z w' := fun w' => run_zero hi hz0 w'
  unfold Builtin.append_
  simp only [List.getElem?_toArray, List.getElem?_cons_zero, List.getElem?_cons_succ, Sem.run_bind, run_und w hu, Result.andThen_ok, run_size w hh, run_und w hd, Sem.run_pure, Bool.false_eq_true, if_false, hl, hroom, hti, Sem.run_ite, hi63, false_and, hgr, run_choose, Question.forced, run_askRoom]
  change ((Sem.run P (Builtin.firstCells (P.cellsOf e) sLen (.slice base sLen sCap)) w.drew).andThen _) = _
  rw [h1]
  simp only [Result.andThen_ok, Sem.run_bind, h2, hzv, newRow, run_newObj, Sem.run_pure]
  rfl
end runs

end Go.Dam

namespace Go.Dam
open Go.RowKit (Below)

theorem call2_exec {P : Program} {w w2 : World} {a : Act} {o : Oper} {c : Call} {b : Builtin} {t u : TypeId} {x y : Operand} {v : Value} (ho : o.op = .call c) (hb : c.callee = .builtin b) (hc : c.args = #[x, y]) (ht : c.argTypes = #[t, u])
    (hbb : b = .append ∨ b = .copy) (hr : ((if b = .append then Builtin.append_ #[t, u] o.type #[a.eval x, a.eval y] else Builtin.copy_ #[t, u] o.type #[a.eval x, a.eval y]) : Sem Value).run P w = .ok v w2) : (execOp a.eval o).run P w = .ok (.value v) w2 := by
  rcases hbb with rfl | rfl
  · simp only [if_true] at hr
    simp only [execOp, ho, resolve, hb, hc, ht, Sem.run_bind, Sem.run_pure, Result.andThen_ok, invoke, builtin]
    simp [hr]
  · simp only [reduceCtorEq, if_false] at hr
    simp only [execOp, ho, resolve, hb, hc, ht, Sem.run_bind, Sem.run_pure, Result.andThen_ok, invoke, builtin]
    simp [hr]

theorem room_both {P : Program} {e : TypeId} {i : TypeInfo} (hi : P.info? e = some i) {n : Nat} (h : n ≤ roomOf P e) : n * i.bytes ≤ 2 ^ 44 ∧ n ≤ 2 ^ 44 := by
  have := room_bytes hi h
  rw [Nat.mul_comm]
  exact this

section ops
variable {P : Program} (g : Good P) {base : Nat} {φ : Phi} {h h' : H} {w : World} (hr : HR P base φ h w) {nid : Nat} {r : Env} {a : Act} (he : EnvR P φ r a) {o : Oper} {v : AV}
include g

/-- what is behind an append that makes a new row -/
theorem grown_out {e : TypeId} (hte : heldT P e = true) (hz : zeroOK P e = true) {i : TypeInfo} {z : Value} (hi : P.info? e = some i) (hz1 : i.zero = some z) {h0 : H} (hr0 : HR P base φ h0 w) (hnx : h0.next = h.next) {xs : List AV} {cs : List Value} (hf : ∀ x ∈ xs, Fit P e x) (hc : CVs P φ xs cs) {cap : Nat} (hcap : xs.length ≤ cap) {old new : List Value} (hcs : cs = old ++ new)
    (hrun : (execOp a.eval o).run P w = .ok (.value (.slice (some ⟨w.heap.size, 0, none⟩) xs.length cap)) (w.drew.alloc (.cells (old.toArray ++ new.toArray ++ Builtin.zeroCells z.cells (cap - xs.length)) e))) :
    Out P base φ h.next nid o a w (.slice h0.next [] 0 xs.length (canon P e)) (h0.new (.row .grow (canon P e) xs)) := by
  have hlt := heldT_lt hte
  obtain ⟨i', z', hi', hz1', hfit, hcv⟩ := zero_VV hz
  rw [hi] at hi'
  cases hi'
  rw [hz1] at hz1'
  cases hz1'
  have hzs : z.cells.size = P.cellsOf e := by simpa using CV_len g hlt hfit (hcv φ)
  have hcl := CVs_len_all g hlt hf hc
  obtain ⟨φ', q1, q2, q3, q4⟩ := (hr0.of_heap (w' := w.drew) rfl).alloc g (nid := h0.next) (hr0.fresh _ (Nat.le_refl _)) (Nat.le_refl _) hte hc hf (old.toArray ++ new.toArray ++ Builtin.zeroCells z.cells (cap - xs.length)) e cap .grow (by simp) (by simp) hcap
    (fun j v hj => by
      have hj2 := (List.getElem?_eq_some_iff.1 hj).1
      rw [hcs] at hj hj2
      rw [Array.getElem?_append_left (by simpa using hj2)]
      simpa using hj) (by
      have : (old.toArray ++ new.toArray).size = xs.length * P.cellsOf e := by rw [← hcl, hcs]; simp
      rw [Array.size_append, this, Builtin.zeroCells]
      simp only [Array.size_map, Array.size_range, hzs, ← Nat.add_mul]
      exact Nat.mul_le_mul_right _ (by omega))
  exact ⟨φ', _, _, .inl hrun, hnx ▸ q1.atNext nid, slice_new g hlt q2 hcap, q3, ⟨q4.os, q4.tape, q4.output, q4.size, q4.block⟩⟩

include hr he
theorem s_append {c : Call} {t u e : TypeId} {d : TypeDesc} {s : Bool} {x' y' : Opnd} (ho : o.op = .call c) (hb : c.callee = .builtin .append) (ht : c.argTypes.toList = [t, u]) (hu : P.underlying t = some (.slice e)) (hd : P.underlying u = some d) (hnd : ∀ k, d ≠ .int k)
    (hs : s = true → P.underlying e = some (.int .u8)) (hte : heldT P e = true) (hz : zeroOK P e = true) (hx : opnds c.args.toList = some [x', y'])
    (hv : evOp (teOf P) r h nid (.append (canon P e) s (roomOf P e) x' y') = some (v, h')) : Out P base φ h.next nid o a w v h' := by
  obtain ⟨x, y, hxy, hx2, hy2⟩ := call_args2 hx x' y' rfl
  have ht : c.argTypes = #[t, u] := by rw [← Array.toList_inj, ht]
  have hp := opnd_VV he hx2
  have hq := opnd_VV he hy2
  have hlt := heldT_lt hte
  obtain ⟨i, z, hi, hz1, hfit0, hcv0⟩ := zero_VV hz
  simp only [evOp, appendV] at hv
  split at hv <;> try (cases hv; done)
  rename_i new hsrc
  obtain ⟨hlen, hfitn, hcells⟩ := src_run g hr hte hs hq hsrc
  obtain ⟨ncs, hn1, hn2, hn3⟩ := hcells new.length (Nat.le_refl _)
  rw [List.take_length] at hn1
  have exec : ∀ {v : Value} {w2 : World}, (Builtin.append_ #[t, u] o.type #[a.eval x, a.eval y]).run P w = .ok v w2 → (execOp a.eval o).run P w = .ok (.value v) w2 := fun hrun => call2_exec ho hb hxy ht (.inl rfl) (by simpa using hrun)
  split at hv
  · -- onto nil
    rename_i hxn
    rw [hxn] at hp
    have hval : a.eval x = .slice none 0 0 := hp
    split at hv
    · rename_i h0
      simp only [Option.some.injEq, Prod.mk.injEq] at hv
      obtain ⟨rfl, rfl⟩ := hv
      refine Out.pure hr (cv := .slice none 0 0) (exec ?_) rfl
      rw [hval]
      have := run_append_in (ty := o.type) (w2 := w) hu hd hnd hte (base := none) (sLen := 0) (sCap := 0) (hlen w) (hn3 w rfl) (by omega) rfl
      rw [h0] at this
      exact this
    · rename_i h0
      split at hv <;> try (cases hv; done)
      rename_i hlim
      simp only [Option.some.injEq, Prod.mk.injEq] at hv
      obtain ⟨rfl, rfl⟩ := hv
      have hrm := room_both hi hlim
      obtain ⟨cap, hc1, hc2⟩ := run_append_out (ty := o.type) (w := w) hu hd hnd hte hi hz1 (base := none) (sLen := 0) (sCap := 0) (old := []) (hlen w) (by omega) (by omega) (by simpa using hrm.1) (fun w' _ => by simp [Builtin.firstCells]) hn3
      rw [Nat.zero_add] at hc1 hc2
      exact grown_out g hte hz hi hz1 hr rfl hfitn hn1 hc1 (old := []) (new := ncs) rfl (exec (by rw [hval]; exact hc2))
  · -- onto a slice
    rename_i b p off len e' hxs
    rw [hxs] at hp
    split at hv <;> try (cases hv; done)
    rename_i hee
    simp only [ne_eq, Decidable.not_not] at hee
    have hp2 := hp
    obtain ⟨ib, off0, N, e2, ad, hib, hpl, hcan, hlt2, hle, had, hval⟩ := hp
    have hce : P.cellsOf e2 = P.cellsOf e := by rw [← g.cells_canon hlt2, hcan, hee, g.cells_canon hlt]
    split at hv
    · rename_i h0
      simp only [Option.some.injEq, Prod.mk.injEq] at hv
      obtain ⟨rfl, rfl⟩ := hv
      refine Out.pure hr (cv := a.eval x) (exec ?_) (by rw [hxs]; exact hp2)
      have hn0 : ncs = [] := List.length_eq_zero_iff.1 (by rw [hn2, h0, Nat.zero_mul])
      rw [hval]
      have := run_append_in (ty := o.type) (w2 := w) hu hd hnd hte (base := some ad) (sLen := len) (sCap := N - off) (hlen w) (hn3 w rfl) (by omega) (by rw [hn0]; rfl)
      rw [h0] at this
      exact this
    · rename_i h0
      split at hv <;> try (cases hv; done)
      rename_i hlim
      split at hv <;> try (cases hv; done)
      rename_i kb eb xb tt ys old hgb hread hold
      have hrm := room_both hi hlim
      obtain ⟨o1, o2, ocs, o3, o4, o5⟩ := hr.elems g hold hib hpl
      have hfito : ∀ x ∈ old, Fit P e x := fun x hx => by
        rw [← fit_canon g hlt, ← hee, ← hcan, fit_canon g hlt2]; exact o2 x hx
      -- the old elements, read
      have holdrun : ∀ w' : World, w'.heap = w.heap → (Builtin.firstCells (P.cellsOf e) len (.slice (some ad) len (N - off))).run P w' = .ok ocs.toArray w' := by
        intro w' hw
        by_cases hl0 : len = 0
        · subst hl0
          have : ocs = [] := List.length_eq_zero_iff.1 (by rw [o4, Nat.zero_mul])
          subst this
          simp [Builtin.firstCells, loadCells, loadCellsFrom]
        · have had : ad = ⟨ib.c, ib.o + off0 + off * P.cellsOf e2, none⟩ := by
            rcases had with h | ⟨h, _⟩
            · exact h
            · omega
          refine run_firstCells_some w' _ len ad len _ ocs (by rw [o4, hce]) (fun j q hj => ?_)
          rw [had, addr_add, World.cell?_of_block (w := w) (by rw [hw])]
          exact o5 j q hj
      have hall : ∀ x ∈ old ++ new, Fit P e x := fun x hx => by
        rcases List.mem_append.1 hx with hx | hx
        · exact hfito x hx
        · exact hfitn x hx
      have hcat : CVs P φ (old ++ new) (ocs ++ ncs) := CVs_append.2 ⟨_, _, o3, hn1, rfl⟩
      have hlcat : (old ++ new).length = len + new.length := by simp [o1]
      -- the model makes a new row
      have fresh : ∀ {h0 : H}, HR P base φ h0 w → h0.next = h.next → ¬ len + new.length ≤ N - off → Out P base φ h.next nid o a w (.slice h0.next [] 0 (len + new.length) (canon P e)) (h0.new (.row .grow (canon P e) (old ++ new))) := by
        intro h0 hr0 hnx hroom
        obtain ⟨cap, hc1, hc2⟩ := run_append_out (ty := o.type) (w := w) hu hd hnd hte hi hz1 (base := some ad) (sLen := len) (sCap := N - off) (old := ocs) (hlen w) hroom hrm.2 hrm.1 holdrun hn3
        have := grown_out (nid := nid) g hte hz hi hz1 hr0 hnx (xs := old ++ new) (cs := ocs ++ ncs) (cap := cap) hall hcat (by rw [hlcat]; exact hc1) rfl (exec (by rw [hval, hlcat]; exact hc2))
        rwa [hlcat] at this
      split at hv
      · rename_i hpk
        split at hv
        · -- there is room
          rename_i hroom
          split at hv <;> try (cases hv; done)
          rename_i h2 hput
          simp only [Option.some.injEq, Prod.mk.injEq] at hv
          obtain ⟨rfl, rfl⟩ := hv
          obtain ⟨k3, x3, hg3, hat3, hrow3⟩ := hr.at hread hib
          have hys : ys.length ≤ N := by
            by_cases hz0 : ib.n = 0
            · have hx3 : x3 = [] := List.length_eq_zero_iff.1 (by have := hrow3.len; omega)
              subst hx3
              cases p with
              | nil =>
                simp only [at?, Option.some.injEq, AV.agg.injEq] at hat3
                obtain ⟨_, rfl⟩ := hat3
                simp
              | cons p1 p2 => rw [at?_empty] at hat3; cases hat3
            · obtain ⟨cs3, q1, _⟩ := hrow3.mem hz0
              exact (row_sub g (heldT_lt hrow3.held) hrow3.fit q1 hrow3.len hat3 hpl).2.1
          have hfit2 : ∀ x ∈ new, Fit P e2 x := fun x hx => by
            rw [← fit_canon g hlt2, hcan, hee, fit_canon g hlt]; exact hfitn x hx
          have hnn : new ≠ [] := fun e => h0 (by rw [e]; rfl)
          obtain ⟨r1, r2, r3, r4⟩ := hr.putElems g hput hnn hib hpl hfit2 hn1
          have hst := run_storeCells_cells (P := P) ib.c (ib.o + off0 + (off + len) * P.cellsOf e2) ncs 0 w (by simpa using r3) (by simpa using r4) (CVs_one hn1)
          have had : ad = ⟨ib.c, ib.o + off0 + off * P.cellsOf e2, none⟩ := by
            rcases had with h | ⟨h, _⟩
            · exact h
            · omega
          refine ⟨φ, .slice (some ad) (len + new.length) (N - off), _, .inl (exec ?_), PhiNx.refl _ _ _, ?_, r1, r2⟩
          · rw [hval]
            refine run_append_in hu hd hnd hte (hlen w) (hn3 w rfl) (by omega) ?_
            have e1 : ad.add (len * P.cellsOf e) = ⟨ib.c, ib.o + off0 + (off + len) * P.cellsOf e2, none⟩ := by
              rw [had, addr_add, hce, Nat.add_mul]; congr 1; omega
            simp only [e1]
            simpa using hst
          · exact ⟨ib, off0, N, e2, ad, hib, hpl, by rw [hcan, hee], hlt2, by omega, .inl had, rfl⟩
        · -- there is none, and it is known
          rename_i hroom
          simp only [Option.some.injEq, Prod.mk.injEq] at hv
          obtain ⟨rfl, rfl⟩ := hv
          refine fresh hr rfl ?_
          obtain ⟨k3, x3, hg3, hat3, hrow3⟩ := hr.at hread hib
          rw [hgb] at hg3
          simp only [Option.some.injEq, Blk.row.injEq] at hg3
          obtain ⟨rfl, rfl, rfl⟩ := hg3
          have hys : ys.length = N := by
            by_cases hz0 : ib.n = 0
            · have hx3 : xb = [] := List.length_eq_zero_iff.1 (by have := hrow3.len; omega)
              subst hx3
              cases p with
              | nil =>
                simp only [at?, Option.some.injEq, AV.agg.injEq] at hat3
                simp only [rowPlace, Option.some.injEq, Prod.mk.injEq] at hpl
                rw [← hat3.2, ← hpl.2.1, hz0]; rfl
              | cons p1 p2 => rw [at?_empty] at hat3; cases hat3
            · obtain ⟨cs3, q1, _⟩ := hrow3.mem hz0
              obtain ⟨_, s1, s2, _⟩ := row_sub g (heldT_lt hrow3.held) hrow3.fit q1 hrow3.len hat3 hpl
              rcases hpk with hpk | hpk
              · exact s2 hpk
              · cases p with
                | nil =>
                  simp only [at?, Option.some.injEq, AV.agg.injEq] at hat3
                  simp only [rowPlace, Option.some.injEq, Prod.mk.injEq] at hpl
                  rw [← hat3.2, ← hpl.2.1]
                  exact hrow3.fixed hpk
                | cons p1 p2 => exact s2 (by simp)
          omega
      · rename_i hpk
        simp only [ne_eq, not_or, Decidable.not_not] at hpk
        obtain ⟨rfl, _⟩ := hpk
        split at hv <;> try (cases hv; done)
        rename_i hgrow
        subst hgrow
        simp only [Option.some.injEq, Prod.mk.injEq] at hv
        obtain ⟨rfl, rfl⟩ := hv
        by_cases hroom : len + new.length ≤ N - off
        · -- in place
          obtain ⟨k3, x3, hg3, hat3, hrow3⟩ := hr.at hread hib
          rw [hgb] at hg3
          simp only [Option.some.injEq, Blk.row.injEq] at hg3
          obtain ⟨rfl, rfl, rfl⟩ := hg3
          simp only [rowPlace, Option.some.injEq, Prod.mk.injEq] at hpl
          obtain ⟨rfl, rfl, rfl⟩ := hpl
          have hne : canon P ib.e = ib.e := hrow3.canon
          have hie : ib.e = canon P e := by rw [← hne, hcan, hee]
          have hn0 : ib.n ≠ 0 := by omega
          have had : ad = ⟨ib.c, ib.o + 0 + off * P.cellsOf ib.e, none⟩ := by
            rcases had with h | ⟨h, _⟩
            · exact h
            · omega
          obtain ⟨arr, T, fz, r1, r2, r3⟩ := hrow3.room (by simp) hn0
          have hbnd : (off + len) * P.cellsOf ib.e + ncs.length ≤ ib.n * P.cellsOf ib.e := by
            rw [hn2, hce, ← Nat.add_mul]
            exact Nat.mul_le_mul_right _ (by omega)
          have ex1 : ∀ j, j < ncs.length → (w.cell? ⟨ib.c, ib.o + (off + len) * P.cellsOf ib.e + j, none⟩).isSome = true := fun j hj => cell_some r1 (by omega)
          have ex2 : ∀ j, j < ncs.length → w.frozen? ⟨ib.c, ib.o + (off + len) * P.cellsOf ib.e + j, none⟩ = false := fun j hj => frozen_false r1 r3 (by omega)
          have hst := run_storeCells_cells (P := P) ib.c (ib.o + (off + len) * P.cellsOf ib.e) ncs 0 w (by simpa using ex1) (by simpa using ex2) (CVs_one hn1)
          have hbase : base ≤ ib.c := hrow3.own (by simp) hn0
          have hbel := below_setCells (w := w) hbase (ib.o + (off + len) * P.cellsOf ib.e) ncs
          have hol : ocs.length = len * P.cellsOf ib.e := o4
          obtain ⟨φ', q1, q2, q3⟩ := hr.over hgb (by simp) hib hn0 (w' := w.setCells ib.c (ib.o + (off + len) * P.cellsOf ib.e) ncs) (fun c hc => setCells_other ib.c c hc ncs _ w) (Nat.le_trans hr.size hbel.size) .grow (canon P e) (old ++ new) ⟨ib.c, ib.o + off * P.cellsOf ib.e, ib.n - off, canon P e⟩ rfl (fun φ' hle => by
            refine ⟨rfl, heldT_canon g hte, g.canon_canon hlt, fun x hx => (fit_canon g hlt x).2 (hall x hx), by rw [hlcat]; exact hroom, by simp, fun _ _ => hbase, by simp, fun _ => ⟨ocs ++ ncs, CVs.mono hle hcat, fun j q hj => ?_⟩, fun _ _ => ?_⟩
            · rcases Nat.lt_or_ge j ocs.length with h1 | h1
              · rw [List.getElem?_append_left h1] at hj
                rw [World.cell?_setCells_out ib.c ncs _ w _ (fun _ _ => .inl (by simp only; rw [hol] at h1; rw [Nat.add_mul]; omega))]
                exact o5 j q hj
              · rw [List.getElem?_append_right h1] at hj
                have hj2 := (List.getElem?_eq_some_iff.1 hj).1
                have e1 : ib.o + off * P.cellsOf ib.e + j = ib.o + (off + len) * P.cellsOf ib.e + (j - ocs.length) := by rw [Nat.add_mul, ← hol]; omega
                rw [e1, World.cell?_setCells_in ib.c ncs _ w ex1 (j - ocs.length) hj2]
                rw [← hj, List.getElem?_eq_getElem hj2]
            · obtain ⟨arr', s1, s2⟩ := setCells_at ib.c ncs (ib.o + (off + len) * P.cellsOf ib.e) w arr T fz r1
              refine ⟨arr', T, fz, s1, ?_, by rw [s2]; exact r3⟩
              rw [s2, ← hie]
              have : off * P.cellsOf ib.e + (ib.n - off) * P.cellsOf ib.e = ib.n * P.cellsOf ib.e := by rw [← Nat.add_mul]; congr 1; omega
              simp only
              omega)
          refine ⟨φ', .slice (some ad) (len + new.length) (ib.n - off), _, .inl (exec ?_), q1.atNext nid, ?_, q3, hbel⟩
          · rw [hval]
            refine run_append_in hu hd hnd hte (hlen w) (hn3 w rfl) (by omega) ?_
            have e1 : ad.add (len * P.cellsOf e) = ⟨ib.c, ib.o + (off + len) * P.cellsOf ib.e, none⟩ := by
              rw [had, addr_add, ← hce, Nat.add_mul]; congr 1; omega
            simp only [e1]
            simpa using hst
          · refine ⟨_, 0, ib.n - off, canon P e, ad, q2, by simp [rowPlace], g.canon_canon hlt, g.canon_lt hlt, by omega, .inl ?_, by simp⟩
            rw [had]
            simp
        · exact fresh (h0 := h.del b) (hr.del b) rfl hroom
  · cases hv

theorem s_copy {c : Call} {t u e : TypeId} {s : Bool} {x' y' : Opnd} (ho : o.op = .call c) (hb : c.callee = .builtin .copy) (ht : c.argTypes.toList = [t, u]) (hu : P.underlying t = some (.slice e))
    (hs : s = true → P.underlying e = some (.int .u8)) (hte : heldT P e = true) (hx : opnds c.args.toList = some [x', y'])
    (hv : evOp (teOf P) r h nid (.copy (canon P e) s x' y') = some (v, h')) : Out P base φ h.next nid o a w v h' := by
  obtain ⟨x, y, hxy, hx2, hy2⟩ := call_args2 hx x' y' rfl
  have ht : c.argTypes = #[t, u] := by rw [← Array.toList_inj, ht]
  have hp := opnd_VV he hx2
  have hq := opnd_VV he hy2
  have hlt := heldT_lt hte
  have exec : ∀ {v : Value} {w2 : World}, (Builtin.copy_ #[t, u] o.type #[a.eval x, a.eval y]).run P w = .ok v w2 → (execOp a.eval o).run P w = .ok (.value v) w2 := fun hrun => call2_exec ho hb hxy ht (.inr rfl) (by simpa using hrun)
  simp only [evOp, copyV] at hv
  split at hv <;> try (cases hv; done)
  · rename_i xs hsrc hxn
    simp only [Option.some.injEq, Prod.mk.injEq] at hv
    obtain ⟨rfl, rfl⟩ := hv
    rw [hxn] at hp
    have hval : a.eval x = .slice none 0 0 := hp
    obtain ⟨hlen, _, hcells⟩ := src_run g hr hte hs hq hsrc
    obtain ⟨cs, h1, h2, h3⟩ := hcells 0 (Nat.zero_le _)
    refine Out.pure hr (cv := .int .i64 0) (exec ?_) rfl
    rw [hval]
    simp [Builtin.copy_, run_und w hu, hlen w, run_size w hte, h3 w rfl, goInt]
  · rename_i xs b p off len e' hsrc hxs
    split at hv <;> try (cases hv; done)
    rename_i hee
    simp only [ne_eq, Decidable.not_not] at hee
    rw [hxs] at hp
    obtain ⟨ib, off0, N, e2, ad, hib, hpl, hcan, hlt2, hle, had, hval⟩ := hp
    have hce : P.cellsOf e2 = P.cellsOf e := by rw [← g.cells_canon hlt2, hcan, hee, g.cells_canon hlt]
    obtain ⟨hlen, hfit, hcells⟩ := src_run g hr hte hs hq hsrc
    obtain ⟨cs, h1, h2, h3⟩ := hcells (min xs.length len) (Nat.min_le_left _ _)
    split at hv
    · rename_i h0
      simp only [Option.some.injEq, Prod.mk.injEq] at hv
      obtain ⟨rfl, rfl⟩ := hv
      have hc0 : cs = [] := List.length_eq_zero_iff.1 (by rw [h2, h0, Nat.zero_mul])
      refine Out.pure hr (cv := .int .i64 0) (exec ?_) rfl
      rw [hval]
      have hm : Nat.min xs.length len = 0 := h0
      have h3' := h3 w rfl
      rw [h0, hc0] at h3'
      simp [Builtin.copy_, run_und w hu, hlen w, run_size w hte, hm, h3', goInt, storeCells]
    · rename_i h0
      split at hv <;> try (cases hv; done)
      rename_i h4 hput
      simp only [Option.some.injEq, Prod.mk.injEq] at hv
      obtain ⟨rfl, rfl⟩ := hv
      have had : ad = ⟨ib.c, ib.o + off0 + off * P.cellsOf e2, none⟩ := by
        rcases had with h | ⟨h, _⟩
        · exact h
        · omega
      have hfit2 : ∀ x ∈ xs.take (min xs.length len), Fit P e2 x := fun x hx => by
        rw [← fit_canon g hlt2, hcan, hee, fit_canon g hlt]; exact hfit x (List.mem_of_mem_take hx)
      have hnn : xs.take (min xs.length len) ≠ [] := fun e => by
        have h5 : (xs.take (min xs.length len)).length = 0 := by rw [e]; rfl
        rw [List.length_take] at h5
        omega
      obtain ⟨r1, r2, r3, r4⟩ := hr.putElems g hput hnn hib hpl hfit2 h1
      have hst := run_storeCells_cells (P := P) ib.c (ib.o + off0 + off * P.cellsOf e2) cs 0 w (by simpa using r3) (by simpa using r4) (CVs_one h1)
      refine ⟨φ, .int .i64 (min xs.length len : Nat), _, .inl (exec ?_), PhiNx.refl _ _ _, rfl, r1, r2⟩
      rw [hval]
      have hm : Nat.min xs.length len = min xs.length len := rfl
      simp only [Builtin.copy_, List.getElem?_toArray, List.getElem?_cons_zero, List.getElem?_cons_succ, Sem.run_bind, run_und w hu, hlen w, run_size w hte, Result.andThen_ok, hm, h3 w rfl, had]
      rw [show (storeCells (⟨ib.c, ib.o + off0 + off * P.cellsOf e2, none⟩ : Addr) cs).run P w = _ from hst]
      simp [goInt]

omit g in
theorem s_sameB {t e : TypeId} {x : Operand} {y : Opnd} (ho : o.op = .convert t t x) (hu : P.underlying t = some (.slice e)) (hue : P.underlying e = some (.int .u8)) (hx : opnd x = some y) (hv : evOp (teOf P) r h nid (.sameB y) = some (v, h')) : Out P base φ h.next nid o a w v h' := by
  have hp := opnd_VV he hx
  simp only [evOp] at hv
  split at hv <;> try (cases hv; done)
  rename_i b off len e' hy
  split at hv <;> try (cases hv; done)
  rename_i k eb xs hgb
  split at hv <;> try (cases hv; done)
  rename_i hk
  simp only [not_or] at hk
  simp only [Option.some.injEq, Prod.mk.injEq] at hv
  obtain ⟨rfl, rfl⟩ := hv
  rw [hy] at hp
  have hp2 := hp
  obtain ⟨ib, off0, N, e2, ad, hib, hpl, hcan, hlt2, hle, had, hval⟩ := hp
  obtain ⟨j, hj, hrow⟩ := hr.row b k eb xs hgb
  rw [hib] at hj
  cases hj
  have hn0 : ib.n ≠ 0 := by have := hrow.len; omega
  obtain ⟨arr, T, fz, r1, r2, r3⟩ := hrow.room hk.1 hn0
  have hblk : ad.block = ib.c := by
    rcases had with rfl | ⟨_, h⟩
    · rfl
    · exact h
  let w2 := w.freeze { block := ib.c, off := arr.size } 1
  have hw2 : ∀ c, w2.heap[c]? = if c = ib.c then some (.cells arr T (if fz.1 == fz.2 then (arr.size, arr.size + 1) else (min fz.1 arr.size, max fz.2 (arr.size + 1)))) else w.heap[c]? := by
    intro c
    simp only [w2, World.freeze, Nat.one_ne_zero, if_false, Array.getElem?_modify]
    by_cases hc : c = ib.c
    · subst hc
      obtain ⟨lo, hi⟩ := fz
      simp [r1]
    · have : ¬ ib.c = c := fun e => hc e.symm
      simp [hc, this]
  have hcell : ∀ ad : Addr, w2.cell? ad = w.cell? ad := by
    intro ad
    simp only [World.cell?, hw2]
    by_cases hc : ad.block = ib.c
    · simp [hc, r1]
    · simp [hc]
  have hrow' : ∀ {k e xs i}, RowR P base φ w k e xs i → RowR P base φ w2 k e xs i := by
    intro k e xs i rr
    refine ⟨rr.ie, rr.held, rr.canon, rr.fit, rr.len, rr.fixed, rr.own, rr.ro, fun hn => ?_, fun hk hn => ?_⟩
    · obtain ⟨cs, q1, q2⟩ := rr.mem hn
      exact ⟨cs, q1, fun j v hj => by rw [hcell]; exact q2 j v hj⟩
    · obtain ⟨arr2, T2, fz2, q1, q2, q3⟩ := rr.room hk hn
      by_cases hc : i.c = ib.c
      · rw [hc, r1] at q1
        simp only [Option.some.injEq, Obj.cells.injEq] at q1
        obtain ⟨rfl, rfl, rfl⟩ := q1
        refine ⟨arr, T, _, by rw [hw2, if_pos hc], q2, ?_⟩
        split
        · exact .inr (Nat.le_refl _)
        · rename_i hne
          simp only [beq_iff_eq] at hne
          right
          simp only
          omega
      · exact ⟨arr2, T2, fz2, by rw [hw2, if_neg hc]; exact q1, q2, q3⟩
  have hsz : w2.heap.size = w.heap.size := by simp [w2, World.freeze]
  have hr2 : HR P base φ h w2 := ⟨by rw [hsz]; exact hr.size, fun b k e xs hb => let ⟨i, hi, rr⟩ := hr.row b k e xs hb; ⟨i, hi, hrow' rr⟩, hr.apart, hr.fresh, hr.nomap⟩
  have hbel : Below base w w2 := by
    have hb := hrow.own hk.1 hn0
    refine ⟨?_, ?_, ?_, Nat.le_of_eq hsz.symm, fun c hc => by rw [hw2, if_neg (by omega)]⟩ <;> simp [w2, World.freeze]
  refine ⟨φ, a.eval x, w2, .inl ?_, PhiNx.refl _ _ _, hp2, hr2, hbel⟩
  have hsh : w.shape? ib.c = some (T, arr.size) := by simp [World.shape?, r1]
  rw [hval]
  simp only [execOp, ho, hval, convert, Sem.run_bind, run_und w hu, Result.andThen_ok, run_und w hue, beq_self_eq_true, markStringish, run_shape, hblk, hsh, run_freeze, Sem.run_pure]
  rfl
end ops

end Go.Dam

namespace Go.Dam

theorem und_u8 {P : Program} {e : TypeId} (h : isU8 P e = true) : P.underlying e = some (.int .u8) := by
  unfold isU8 at h
  split at h
  · assumption
  · cases h

theorem op_sound {P : Program} (g : Good P) {base : Nat} {φ : Phi} {h h' : H} {w : World} (hr : HR P base φ h w) {nid : Nat} {r : Env} {a : Act} (he : EnvR P φ r a) {o : Oper} {ao : AOp} {v : AV} (hc : compileOp P o.op = some ao) (hnc : ao.isCall = false) (hn : ao.allocs = true → φ nid = none ∧ nid ≤ h.next)
    (hv : evOp (teOf P) r h nid ao = some (v, h')) : Out P base φ h.next nid o a w v h' := by
  cases ho : o.op with
  | move x =>
    simp only [ho, compileOp, Option.map_eq_some_iff] at hc
    obtain ⟨y, hy, rfl⟩ := hc
    exact s_move hr he (.inl ho) hy hv
  | assign x =>
    simp only [ho, compileOp, Option.map_eq_some_iff] at hc
    obtain ⟨y, hy, rfl⟩ := hc
    exact s_move hr he (.inr ho) hy hv
  | pick c x y =>
    simp only [ho, compileOp] at hc
    split at hc <;> try (cases hc; done)
    simp only [Option.some.injEq] at hc
    subst hc
    exact s_pick hr he ho (by assumption) (by assumption) (by assumption) hv
  | alloc e =>
    simp only [ho, compileOp] at hc
    split at hc <;> try (cases hc; done)
    rename_i hh
    simp only [Bool.and_eq_true] at hh
    simp only [Option.some.injEq] at hc
    subst hc
    exact s_alloc g hr (hn rfl).1 (hn rfl).2 ho hh.1 hh.2 hv
  | box e x =>
    simp only [ho, compileOp] at hc
    split at hc <;> try (cases hc; done)
    split at hc <;> try (cases hc; done)
    simp only [Option.map_eq_some_iff] at hc
    obtain ⟨y, hy, rfl⟩ := hc
    exact s_box g hr he (hn rfl).1 (hn rfl).2 ho (by assumption) (by assumption) hy hv
  | build t ps =>
    simp only [ho, compileOp] at hc
    split at hc <;> try (cases hc; done)
    rename_i hh
    simp only [Bool.and_eq_true] at hh
    simp only [Option.map_eq_some_iff] at hc
    obtain ⟨y, hy, rfl⟩ := hc
    exact s_build g hr he ho hh.1.1 hh.2 hy hv
  | buildSlice t n ps =>
    simp only [ho, compileOp] at hc
    split at hc <;> try (cases hc; done)
    rename_i e hu
    split at hc <;> try (cases hc; done)
    rename_i hh
    simp only [Bool.and_eq_true, decide_eq_true_eq] at hh
    simp only [Option.map_eq_some_iff] at hc
    obtain ⟨y, hy, rfl⟩ := hc
    exact s_buildSlice g hr he (hn rfl).1 (hn rfl).2 ho hu hh.1.1 hh.1.2 hh.2 hy hv
  | load t x =>
    simp only [ho, compileOp] at hc
    split at hc <;> try (cases hc; done)
    simp only [Option.map_eq_some_iff] at hc
    obtain ⟨y, hy, rfl⟩ := hc
    exact s_load g hr he ho (by assumption) hy hv
  | store t x y =>
    simp only [ho, compileOp] at hc
    split at hc <;> try (cases hc; done)
    split at hc <;> try (cases hc; done)
    simp only [Option.some.injEq] at hc
    subst hc
    exact s_store g hr he ho (by assumption) (by assumption) (by assumption) (by assumption) hv
  | nilCheck x =>
    simp only [ho, compileOp, Option.map_eq_some_iff] at hc
    obtain ⟨y, hy, rfl⟩ := hc
    exact s_nilCheck hr he ho hy hv
  | binOp op xt x y yt =>
    simp only [ho, compileOp] at hc
    split at hc <;> try (cases hc; done)
    rename_i x' y' hx hy
    have bin : AOp.bin op x' y' = ao → Out P base φ h.next nid o a w v h' := fun e => by
      subst e
      exact s_bin hr he ho hx hy hv
    have eqs : (op = .eql ∨ op = .neq) → (match P.underlying xt with
        | some (.int _) | some .string => some (AOp.bin op x' y')
        | some .bool => some (.eqv (isNeq op) .bool x' y')
        | some (.pointer _) => some (.eqv (isNeq op) .ptr x' y')
        | some (.slice _) => some (.eqv (isNeq op) .slice x' y')
        | some (.func ..) => some (.eqv (isNeq op) .fn x' y')
        | some (.struct _) | some (.array ..) => if heldT P xt && plainEq P 10 xt && !P.eqGuardType P.depth xt then some (.eqv (isNeq op) (.agg (canon P xt)) x' y') else none
        | _ => none) = some ao → Out P base φ h.next nid o a w v h' := by
      intro hop hc
      have agg : kdOf P xt = some (.agg (canon P xt)) → (if heldT P xt && plainEq P 10 xt && !P.eqGuardType P.depth xt then some (AOp.eqv (isNeq op) (.agg (canon P xt)) x' y') else none) = some ao → Out P base φ h.next nid o a w v h' := by
        intro hk hc
        split at hc <;> try (cases hc; done)
        rename_i hh
        simp only [Bool.and_eq_true, Bool.not_eq_true'] at hh
        simp only [Option.some.injEq] at hc
        subst hc
        exact s_eqv g hr he ho hop hk hx hy (fun _ => ⟨hh.1.2, hh.2, hh.1.1⟩) hv
      split at hc <;> try (cases hc; done)
      · simp only [Option.some.injEq] at hc; exact bin hc
      · simp only [Option.some.injEq] at hc; exact bin hc
      · rename_i hu; simp only [Option.some.injEq] at hc; subst hc; exact s_eqv g hr he ho hop (by simp [kdOf, hu]) hx hy (fun h => by cases h) hv
      · rename_i hu; simp only [Option.some.injEq] at hc; subst hc; exact s_eqv g hr he ho hop (by simp [kdOf, hu]) hx hy (fun h => by cases h) hv
      · rename_i hu; simp only [Option.some.injEq] at hc; subst hc; exact s_eqv g hr he ho hop (by simp [kdOf, hu]) hx hy (fun h => by cases h) hv
      · rename_i hu; simp only [Option.some.injEq] at hc; subst hc; exact s_eqv g hr he ho hop (by simp [kdOf, hu]) hx hy (fun h => by cases h) hv
      · rename_i hu; exact agg (by simp [kdOf, hu]) hc
      · rename_i hu; exact agg (by simp [kdOf, hu]) hc
    by_cases h1 : op = .eql
    · subst h1; exact eqs (.inl rfl) hc
    by_cases h2 : op = .neq
    · subst h2; exact eqs (.inr rfl) hc
    have hb : AOp.bin op x' y' = ao := by
      revert hc
      cases op <;> intro hc <;> first | exact (h1 rfl).elim | exact (h2 rfl).elim | (simpa using hc)
    exact bin hb
  | unOp op t x =>
    simp only [ho, compileOp, Option.map_eq_some_iff] at hc
    obtain ⟨y, hy, rfl⟩ := hc
    exact s_un hr he ho hy hv
  | convert s d x =>
    simp only [ho, compileOp] at hc
    split at hc <;> try (cases hc; done)
    rename_i y hy
    split at hc <;> try (cases hc; done)
    · simp only [Option.some.injEq] at hc; subst hc
      exact s_conv hr he ho (by assumption) (by assumption) hy hv
    · simp only [Option.some.injEq] at hc; subst hc
      exact s_sameS hr he ho (by assumption) (by assumption) hy hv
    · split at hc <;> try (cases hc; done)
      rename_i h8
      simp only [Option.some.injEq] at hc; subst hc
      exact s_toStr g hr he ho (by assumption) (by assumption) (und_u8 h8) hy hv
    · split at hc <;> try (cases hc; done)
      rename_i h8
      simp only [Bool.and_eq_true] at h8
      simp only [Option.some.injEq] at hc; subst hc
      exact s_toBytes g hr he (hn rfl).1 (hn rfl).2 ho (by assumption) (by assumption) (und_u8 h8.1) h8.2 hy hv
    · split at hc <;> try (cases hc; done)
      rename_i h8
      simp only [Bool.and_eq_true, beq_iff_eq] at h8
      obtain ⟨rfl, h8⟩ := h8
      simp only [Option.some.injEq] at hc; subst hc
      exact s_sameB hr he ho (by assumption) (und_u8 h8) hy hv
  | makeFunc f fi ca =>
    cases f with
    | func f =>
      simp only [ho, compileOp] at hc
      split at hc <;> try (cases hc; done)
      simp only [Option.some.injEq] at hc; subst hc
      exact s_mkFn hr he ho (by assumption) (by assumption) hv
    | _ => simp [ho, compileOp] at hc
  | makeSlice t l c =>
    simp only [ho, compileOp] at hc
    split at hc <;> try (cases hc; done)
    split at hc <;> try (cases hc; done)
    rename_i hh
    simp only [Bool.and_eq_true] at hh
    split at hc <;> try (cases hc; done)
    simp only [Option.some.injEq] at hc; subst hc
    exact s_mkSlice g hr he (hn rfl).1 (hn rfl).2 ho (by assumption) hh.1 hh.2 (by assumption) (by assumption) hv
  | slice t x lo hi mx =>
    simp only [ho, compileOp] at hc
    split at hc <;> try (cases hc; done)
    rename_i x' lo' hi' hx hlo hhi
    split at hc <;> try (cases hc; done)
    · split at hc <;> try (cases hc; done)
      rename_i hh
      simp only [Bool.and_eq_true] at hh
      simp only [Option.some.injEq] at hc; subst hc
      exact s_sliceA g hr he ho (by assumption) hh.2 hh.1 hx hlo hhi hv
    · split at hc <;> try (cases hc; done)
      simp only [Option.some.injEq] at hc; subst hc
      exact s_sliceS g hr he ho (by assumption) (by assumption) hx hlo hhi hv
    · split at hc <;> try (cases hc; done)
      split at hc <;> try (cases hc; done)
      simp only [Option.some.injEq] at hc; subst hc
      exact s_sliceZ g hr he (hn rfl).1 (hn rfl).2 ho (by assumption) (by assumption) hx hv
    · simp only [Option.some.injEq] at hc; subst hc
      exact s_sliceT hr he ho (by assumption) hx hlo hhi hv
  | fieldAddr s x f =>
    simp only [ho, compileOp] at hc
    split at hc <;> try (cases hc; done)
    split at hc <;> try (cases hc; done)
    split at hc <;> try (cases hc; done)
    rename_i hh
    simp only [Bool.and_eq_true] at hh
    simp only [Option.map_eq_some_iff] at hc
    obtain ⟨y, hy, rfl⟩ := hc
    exact s_fieldAddr g hr he ho (by assumption) (by assumption) hh.1 hh.2 hy hv
  | field s x f =>
    simp only [ho, compileOp] at hc
    split at hc <;> try (cases hc; done)
    split at hc <;> try (cases hc; done)
    split at hc <;> try (cases hc; done)
    rename_i hh
    simp only [Bool.and_eq_true] at hh
    simp only [Option.map_eq_some_iff] at hc
    obtain ⟨y, hy, rfl⟩ := hc
    exact s_field g hr he ho (by assumption) (by assumption) hh.1 hh.2 hy hv
  | indexAddr t x z =>
    simp only [ho, compileOp] at hc
    split at hc <;> try (cases hc; done)
    split at hc <;> try (cases hc; done)
    · split at hc <;> try (cases hc; done)
      rename_i hh
      simp only [Bool.and_eq_true] at hh
      simp only [Option.some.injEq] at hc; subst hc
      exact s_idxA g hr he ho (by assumption) hh.2 hh.1 (by assumption) (by assumption) hv
    · split at hc <;> try (cases hc; done)
      simp only [Option.some.injEq] at hc; subst hc
      exact s_idxS g hr he ho (by assumption) (by assumption) (by assumption) (by assumption) hv
  | index t x z =>
    simp only [ho, compileOp] at hc
    split at hc <;> try (cases hc; done)
    split at hc <;> try (cases hc; done)
    · split at hc <;> try (cases hc; done)
      rename_i hh
      simp only [Bool.and_eq_true] at hh
      simp only [Option.some.injEq] at hc; subst hc
      exact s_idxV g hr he ho (by assumption) hh.2 hh.1 (by assumption) (by assumption) hv
    · simp only [Option.some.injEq] at hc; subst hc
      exact s_idxT hr he ho (by assumption) (by assumption) (by assumption) hv
  | extract x n =>
    simp only [ho, compileOp, Option.map_eq_some_iff] at hc
    obtain ⟨y, hy, rfl⟩ := hc
    exact s_extract hr he ho hy hv
  | call c =>
    simp only [ho, compileOp] at hc
    split at hc <;> try (cases hc; done)
    rename_i args hargs
    split at hc <;> try (cases hc; done)
    · simp only [Option.some.injEq] at hc; subst hc; simp [AOp.isCall] at hnc
    · simp only [Option.map_eq_some_iff] at hc; obtain ⟨_, _, rfl⟩ := hc; simp [AOp.isCall] at hnc
    · rename_i hb
      split at hc <;> try (cases hc; done)
      rename_i ht
      split at hc <;> try (cases hc; done)
      · simp only [Option.some.injEq] at hc; subst hc
        exact s_lenT hr he ho hb ht (by assumption) hargs hv
      · simp only [Option.some.injEq] at hc; subst hc
        exact s_lenS hr he ho hb ht (by assumption) hargs hv
      · simp only [Option.some.injEq] at hc; subst hc
        exact s_lenA hr ho hb ht (.inl ⟨_, by assumption⟩) hargs hv
      · split at hc <;> try (cases hc; done)
        simp only [Option.some.injEq] at hc; subst hc
        exact s_lenA hr ho hb ht (.inr ⟨_, _, by assumption, by assumption⟩) hargs hv
    · rename_i hb
      split at hc <;> try (cases hc; done)
      simp only [Option.some.injEq] at hc; subst hc
      exact s_minmax hr he ho (mx := false) (by simpa using hb) hargs hv
    · rename_i hb
      split at hc <;> try (cases hc; done)
      simp only [Option.some.injEq] at hc; subst hc
      exact s_minmax hr he ho (mx := true) (by simpa using hb) hargs hv
    · rename_i hb
      split at hc <;> try (cases hc; done)
      rename_i ht
      split at hc <;> try (cases hc; done)
      · split at hc <;> try (cases hc; done)
        rename_i hh
        simp only [Bool.and_eq_true] at hh
        simp only [Option.some.injEq] at hc; subst hc
        exact s_append g hr he ho hb ht (by assumption) (by assumption) (by simp) (by simp) hh.1 hh.2 hargs hv
      · split at hc <;> try (cases hc; done)
        rename_i hh
        simp only [Bool.and_eq_true] at hh
        simp only [Option.some.injEq] at hc; subst hc
        exact s_append g hr he ho hb ht (by assumption) (by assumption) (by simp) (fun _ => und_u8 hh.2) hh.1.1 hh.1.2 hargs hv
    · rename_i hb
      split at hc <;> try (cases hc; done)
      rename_i ht
      split at hc <;> try (cases hc; done)
      · split at hc <;> try (cases hc; done)
        rename_i hh
        simp only [Option.some.injEq] at hc; subst hc
        exact s_copy g hr he ho hb ht (by assumption) (by simp) hh hargs hv
      · split at hc <;> try (cases hc; done)
        rename_i hh
        simp only [Bool.and_eq_true] at hh
        simp only [Option.some.injEq] at hc; subst hc
        exact s_copy g hr he ho hb ht (by assumption) (fun _ => und_u8 hh.2) hh.1 hargs hv
  | _ => simp [ho, compileOp] at hc

end Go.Dam
