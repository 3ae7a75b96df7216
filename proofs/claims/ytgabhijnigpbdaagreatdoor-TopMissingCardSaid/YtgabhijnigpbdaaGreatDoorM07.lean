/- A part of the proof of the statement Rows.TopMissingCardSaid (at every argument the law returns true on every schedule, and its argument reads as before; the listed variables as laid). This text: a stepper over symbolic states of the translated program and its soundness, part 7 of 41. -/
import Derived.Test.YtgabhijnigpbdaaGreatDoorM06
import Derived.Test.YtgabhijnigpbdaaGreatDoorM03
section
/-! Operations, one by one: arithmetic. -/
set_option linter.unusedSimpArgs false
set_option linter.unusedVariables false
set_option linter.unusedSectionVars false
namespace Go.Gb
open Go.Conc
theorem nbeq (m n : Nat) : Nat.beq m n = decide (m = n) := by
  cases hb : Nat.beq m n with
  | true => have := Nat.eq_of_beq_eq_true hb; simp [this]
  | false =>
    have : m ≠ n := fun e => by subst e; simp at hb
    simp [this]
theorem ieq_eq (a b : Int) : ieq a b = decide (a = b) := by
  cases a with
  | ofNat m =>
    cases b with
    | ofNat n => simp only [ieq, nbeq]; simp; omega
    | negSucc n => simp [ieq]
  | negSucc m =>
    cases b with
    | ofNat n => simp [ieq]
    | negSucc n => simp only [ieq, nbeq]; simp
theorem nble (m n : Nat) : Nat.ble m n = decide (m ≤ n) := by
  cases hb : Nat.ble m n with
  | true => have := Nat.le_of_ble_eq_true hb; simp [this]
  | false =>
    have : ¬ m ≤ n := fun e => by rw [Nat.ble_eq_true_of_le e] at hb; cases hb
    simp [this]
theorem ile_eq (a b : Int) : ile a b = decide (a ≤ b) := by
  cases a with
  | ofNat m =>
    cases b with
    | ofNat n =>
      simp only [ile, nble]
      rw [decide_eq_decide]
      show m ≤ n ↔ (m : Int) ≤ (n : Int)
      omega
    | negSucc n =>
      symm
      show decide ((m : Int) ≤ Int.negSucc n) = false
      rw [decide_eq_false_iff_not]; omega
  | negSucc m =>
    cases b with
    | ofNat n =>
      symm
      show decide (Int.negSucc m ≤ (n : Int)) = true
      rw [decide_eq_true_iff]; omega
    | negSucc n =>
      simp only [ile, nble]
      rw [decide_eq_decide]
      omega
def plainOp : BinOp → Bool
  | .add | .sub | .mul | .quo | .rem | .lss | .leq | .gtr | .geq => true
  | _ => false
section
variable {C : Type} {P : Program} {N0 : Nat} {mla : Addr} {ml : Gl} {vt : Vt} {own : Own} {n0 : Nat}
variable {σ : Sg} {h : Heap} {nx : Gb.P} {w : World} {regs : Regs} {a : Act} {k : K C} {r : C} {o : Oper}
theorem arith_rel {op : BinOp} {kd : IntKind} {x y : Int} {k : V → O C} {r : C} {t : TypeId} {Q : Value → World → Prop} (hp : plainOp op = true) (e : arith op kd x y k = some r) (hQ : ∀ v u, VR ml σ v u → k v = some r → Q u w) :
    SW P N0 own n0 (binOp op t (.int kd x) (.int kd y)) w Q := by
  cases op <;> simp only [plainOp, Bool.false_eq_true] at hp <;> simp only [arith] at e <;> simp only [binOp, ne_eq, not_true_eq_false, if_false]
  · rw [wrapI_eq] at e; exact hQ _ _ (by simp [VR]) e
  · rw [wrapI_eq] at e; exact hQ _ _ (by simp [VR]) e
  · rw [wrapI_eq] at e; exact hQ _ _ (by simp [VR]) e
  · rcases boolK_cases e with ⟨_, e⟩ | ⟨h0, e⟩
    · cases e
    · rw [ieq_eq] at h0
      rw [wrapI_eq] at e
      have : ¬ y = 0 := by simpa using h0
      simp only [Op.intDiv, if_neg this]
      exact hQ _ _ (by simp [VR]) e
  · rcases boolK_cases e with ⟨_, e⟩ | ⟨h0, e⟩
    · cases e
    · rw [ieq_eq] at h0
      rw [vInt_eq] at e
      have : ¬ y = 0 := by simpa using h0
      simp only [Op.intDiv, if_neg this]
      exact hQ _ _ (by simp [VR]) e
  · rw [vBool_eq, ile_eq] at e
    refine hQ _ _ ?_ e
    simp only [VR]
    by_cases hxy : x < y
    · simp [hxy]
    · simp [hxy]; omega
  · rw [vBool_eq, ile_eq] at e; exact hQ _ _ (by simp [VR]) e
  · rw [vBool_eq, ile_eq] at e
    refine hQ _ _ ?_ e
    simp only [VR]
    by_cases hxy : x > y
    · simp [hxy]
    · simp [hxy]; omega
  · rw [vBool_eq, ile_eq] at e; exact hQ _ _ (by simp [VR]) e
end
end Go.Gb
end
section
/-! Strings as numbers. -/
set_option linter.unusedSimpArgs false
set_option linter.unusedVariables false
namespace Go.Gb
theorem numL_lt : ∀ l : List UInt8, numL l < 256 ^ l.length
  | [] => by simp [numL]
  | b :: l => by
    have h1 := numL_lt l
    have h2 : b.toNat < 256 := b.toNat_lt
    simp only [numL, List.length_cons, Nat.pow_succ]
    omega
theorem numL_append : ∀ l l' : List UInt8, numL (l ++ l') = numL l + 256 ^ l.length * numL l'
  | [], l' => by simp [numL]
  | b :: l, l' => by
    simp only [List.cons_append, numL, numL_append l l', List.length_cons, Nat.pow_succ]
    have : 256 ^ l.length * 256 * numL l' = 256 * (256 ^ l.length * numL l') := by
      rw [Nat.mul_comm (256 ^ l.length) 256, Nat.mul_assoc]
    rw [this]; omega
theorem numL_take (l : List UInt8) (k : Nat) (h : k ≤ l.length) : numL (l.take k) = numL l % 256 ^ k := by
  have h1 := numL_append (l.take k) (l.drop k)
  rw [List.take_append_drop] at h1
  have h2 := numL_lt (l.take k)
  rw [List.length_take, Nat.min_eq_left h] at h1 h2
  rw [h1, Nat.add_mul_mod_self_left, Nat.mod_eq_of_lt h2]
theorem numL_drop (l : List UInt8) (k : Nat) (h : k ≤ l.length) : numL (l.drop k) = numL l / 256 ^ k := by
  have h1 := numL_append (l.take k) (l.drop k)
  rw [List.take_append_drop] at h1
  have h2 := numL_lt (l.take k)
  rw [List.length_take, Nat.min_eq_left h] at h1 h2
  rw [h1, Nat.add_mul_div_left _ _ (Nat.pow_pos (by omega)), Nat.div_eq_of_lt h2, Nat.zero_add]
theorem numL_inj : ∀ {l l' : List UInt8}, l.length = l'.length → numL l = numL l' → l = l'
  | [], [], _, _ => rfl
  | b :: l, c :: l', hl, h => by
    simp only [numL] at h
    have h1 : b.toNat < 256 := b.toNat_lt
    have h2 : c.toNat < 256 := c.toNat_lt
    have e1 : b.toNat = c.toNat := by omega
    have e2 : numL l = numL l' := by omega
    rw [numL_inj (by simpa using hl) e2, UInt8.toNat_inj.1 e1]
/-- The i-th byte. -/
theorem byte_of {n N : Nat} {s : ByteArray} (h : StrR n N s) {i : Nat} (hi : i < n) : ∃ b, s.data.toList[i]? = some b ∧ byteAt N i = b.toNat := by
  obtain ⟨h1, h2⟩ := h
  have hl : s.data.toList.length = n := by simpa using h1
  have hi' : i < s.data.toList.length := by omega
  refine ⟨s.data.toList[i], List.getElem?_eq_getElem hi', ?_⟩
  have e1 : numL (s.data.toList.drop i) % 256 = s.data.toList[i].toNat := by
    rw [List.drop_eq_getElem_cons hi']
    simp only [numL]
    have : s.data.toList[i].toNat < 256 := UInt8.toNat_lt _
    omega
  rw [numL_drop _ _ (by omega), ← h2] at e1
  unfold byteAt cut
  rw [← e1]
  show N / 256 ^ i % 256 = (N % 256 ^ n) / 256 ^ i % 256
  obtain ⟨m, rfl⟩ : ∃ m, n = i + (m + 1) := ⟨n - i - 1, by omega⟩
  rw [Nat.pow_add, Nat.mod_mul_right_div_self, Nat.pow_succ, Nat.mod_mul_left_mod]
end Go.Gb
end
section
/-! Operations, one by one: strings. -/
set_option linter.unusedSimpArgs false
set_option linter.unusedVariables false
set_option linter.unusedSectionVars false
namespace Go.Gb
open Go.Conc
theorem ba_get (s : ByteArray) (i : Nat) : s[i]? = s.data.toList[i]? := by
  by_cases h : i < s.size
  · have h' : i < s.data.toList.length := by simpa using h
    rw [getElem?_pos s i h, List.getElem?_eq_getElem h']
    simp [ByteArray.getElem_eq_getElem_data]
  · have h' : ¬ i < s.data.toList.length := by simpa using h
    rw [getElem?_neg s i h, List.getElem?_eq_none (by omega)]
theorem strR_extract {n N : Nat} {s : ByteArray} (h : StrR n N s) {l hi : Nat} (h1 : l ≤ hi) (h2 : hi ≤ n) : StrR (hi - l) (low (hi - l) (cut N l)) (s.extract l hi) := by
  obtain ⟨e1, e2⟩ := h
  have hl : s.data.toList.length = n := by simpa using e1
  have hx : (s.extract l hi).data.toList = (s.data.toList.drop l).take (hi - l) := by
    simp [ByteArray.data_extract]
  refine ⟨by simp; omega, ?_⟩
  rw [hx, numL_take _ _ (by simp; omega), numL_drop _ _ (by omega), ← e2]
  unfold low cut
  show N / 256 ^ l % 256 ^ (hi - l) % 256 ^ (hi - l) = (N % 256 ^ n) / 256 ^ l % 256 ^ (hi - l)
  rw [Nat.mod_mod]
  obtain ⟨m, rfl⟩ : ∃ m, n = l + ((hi - l) + m) := ⟨n - hi, by omega⟩
  rw [Nat.pow_add, Nat.mod_mul_right_div_self, Nat.pow_add, Nat.mod_mul_right_mod]
theorem strR_append {n N m M : Nat} {s t : ByteArray} (h : StrR n N s) (h' : StrR m M t) : StrR (n + m) (low n N + 256 ^ n * M) (s ++ t) := by
  obtain ⟨e1, e2⟩ := h
  obtain ⟨f1, f2⟩ := h'
  have hl : s.data.toList.length = n := by simpa using e1
  refine ⟨by simp [e1, f1], ?_⟩
  have hx : (s ++ t).data.toList = s.data.toList ++ t.data.toList := by simp
  rw [hx, numL_append, hl, ← e2, ← f2]
  unfold low
  show (N % 256 ^ n + 256 ^ n * M) % 256 ^ (n + m) = N % 256 ^ n + 256 ^ n * (M % 256 ^ m)
  have hlt : N % 256 ^ n < 256 ^ n := Nat.mod_lt _ (Nat.pow_pos (by omega))
  rw [Nat.pow_add, Nat.mod_mul, Nat.add_mul_mod_self_left, Nat.mod_mod, Nat.add_mul_div_left _ _ (Nat.pow_pos (by omega)), Nat.div_eq_of_lt hlt, Nat.zero_add]
theorem strR_eq {n N m M : Nat} {s t : ByteArray} (h : StrR n N s) (h' : StrR m M t) : seq n N m M = (s.data.toList == t.data.toList) := by
  obtain ⟨e1, e2⟩ := h
  obtain ⟨f1, f2⟩ := h'
  have hl : s.data.toList.length = n := by simpa using e1
  have hm : t.data.toList.length = m := by simpa using f1
  unfold seq
  rw [nbeq, nbeq, e2, f2]
  by_cases hx : s.data.toList = t.data.toList
  · rw [hx]
    have : n = m := by rw [← hl, ← hm, hx]
    simp [this]
  · have : ¬ (n = m ∧ numL s.data.toList = numL t.data.toList) := fun ⟨p, q⟩ => hx (numL_inj (by omega) q)
    by_cases hnm : n = m
    · have : ¬ numL s.data.toList = numL t.data.toList := fun q => this ⟨hnm, q⟩
      simp [this]
      exact fun e => hx (by rw [e])
    · simp [hnm]
      exact fun e => hx (by rw [e])
section
variable {C : Type} {P : Program} {N0 : Nat} {mla : Addr} {ml : Gl} {vt : Vt} {own : Own} {n0 : Nat}
variable {σ : Sg} {h : Heap} {nx : Gb.P} {w : World} {regs : Regs} {a : Act} {k : K C} {r : C} {o : Oper}
theorem strK_inv {v : V} {k : Nat → Nat → O C} {r : C} (e : strK v k = some r) : ∃ n N, v = .str n N ∧ k n N = some r := by
  cases v <;> simp only [strK, reduceCtorEq] at e
  exact ⟨_, _, rfl, e⟩
variable (H : AR N0 mla ml vt σ h nx own n0 w) (hr : RegR ml σ regs a)
 include H hr
theorem snd_idxS {x i : Opd} {x' i' : Operand} (hx : OpdR x x') (hi : OpdR i i') {t : TypeId} (ht : P.underlying t = some .string) (ho : o.op = .index t x' i')
    (e : exec (.idxS x i) regs h nx k = some r) : SW P N0 own n0 (execOp a.eval o) w (Out N0 mla ml vt own n0 σ k r) := by
  replace e : hIdxS x i regs h nx k = some r := e
  obtain ⟨v, hv, e1⟩ := opd_rel hr hx e
  obtain ⟨n, N, rfl, e2⟩ := strK_inv e1
  obtain ⟨kd, j, hj, hlt, e3⟩ := zidxK_rel hr hi e2
  rw [natK_eq] at e3
  obtain ⟨s, hs, hs'⟩ := vr_str hv
  obtain ⟨b, hb, hb'⟩ := byte_of hs' hlt
  unfold execOp
  simp only [ho, hs, hj, Instr.index, asIntOf]
  have h0 : (0 : Int) ≤ Int.ofNat j := by simp
  simp only [SW_bind, SW_pure, SW_underlying ht, if_pos h0]
  have hg : s[(Int.ofNat j).toNat]? = some b := by rw [ba_get]; exact hb
  rw [hg]
  exact out_pure H (by simp only [VR]; exact ⟨trivial, by rw [hb']; rfl⟩) e3
end
end Go.Gb
end
section
/-! Operations, one by one: slices of strings and of slices. -/
set_option linter.unusedSimpArgs false
set_option linter.unusedVariables false
set_option linter.unusedSectionVars false
namespace Go.Gb
open Go.Conc
def OptR : Option Opd → Option Operand → Prop
  | none, none => True
  | some x, some y => OpdR x y
  | _, _ => False
section
variable {C : Type} {P : Program} {N0 : Nat} {mla : Addr} {ml : Gl} {vt : Vt} {own : Own} {n0 : Nat}
variable {σ : Sg} {h : Heap} {nx : Gb.P} {w : World} {regs : Regs} {a : Act} {k : K C} {r : C} {o : Oper}
/-- A bound: where it is left out, and where it stands. -/
theorem boundK_rel {x : Option Opd} {x' : Option Operand} {dflt hi : Nat} {k : Nat → O C} {r : C} (hr : RegR ml σ regs a) (hx : OptR x x') (e : boundK x dflt hi regs k = some r) :
    ∃ n, ((x' = none ∧ n = dflt) ∨ ∃ y kd, x' = some y ∧ a.eval y = .int kd (.ofNat n) ∧ n ≤ hi) ∧ k n = some r := by
  cases x with
  | none =>
    cases x' with
    | none => exact ⟨dflt, .inl ⟨rfl, rfl⟩, e⟩
    | some y => exact hx.elim
  | some x =>
    cases x' with
    | none => exact hx.elim
    | some y =>
      obtain ⟨v, hv, e1⟩ := opd_rel hr hx e
      obtain ⟨kd, n, rfl, e2⟩ := nat0K_inv e1
      obtain ⟨h1, e3⟩ := boolK_inv e2
      exact ⟨n, .inr ⟨y, kd, rfl, vr_int hv, Nat.le_of_ble_eq_true h1⟩, e3⟩
theorem SW_bound {kd : IntKind} {n y : Nat} {code : BoundsCode} {Q : Nat → World → Prop} (h : n ≤ y) (hq : Q n w) : SW P N0 own n0 (Instr.sliceBound (.int kd (.ofNat n)) y code) w Q := by
  unfold Instr.sliceBound
  simp only [asIntOf]
  have : (0 : Int) ≤ Int.ofNat n ∧ Int.ofNat n ≤ (y : Int) := ⟨by simp, by simpa using h⟩
  rw [SW_bind, SW_pure]
  simp only [if_pos this]
  exact hq
/-- both bounds -/
theorem SW_bounds {isS : Bool} {len cap : Nat} {lo hi : Option Operand} {l m : Nat} {Q : Nat × Nat × Nat → World → Prop}
    (hh : (hi = none ∧ m = len) ∨ ∃ y kd, hi = some y ∧ a.eval y = .int kd (.ofNat m) ∧ m ≤ cap) (hl : (lo = none ∧ l = 0) ∨ ∃ y kd, lo = some y ∧ a.eval y = .int kd (.ofNat l) ∧ l ≤ m) (hq : Q (l, m, cap) w) :
    SW P N0 own n0 (Instr.sliceBounds isS len cap (lo.map a.eval) (hi.map a.eval) none) w Q := by
  unfold Instr.sliceBounds
  rcases hh with ⟨rfl, rfl⟩ | ⟨y, kd, rfl, hy, hle⟩ <;> rcases hl with ⟨rfl, rfl⟩ | ⟨y', kd', rfl, hy', hle'⟩ <;>
    simp only [Option.map_none, Option.map_some, SW_bind, SW_pure, Option.isSome_none, Bool.false_eq_true, if_false]
  · exact hq
  · rw [hy']; exact SW_bound hle' hq
  · rw [hy]; exact SW_bound hle hq
  · rw [hy, hy']; exact SW_bound hle (SW_bound hle' hq)
variable (H : AR N0 mla ml vt σ h nx own n0 w) (hr : RegR ml σ regs a)
 include H hr
theorem snd_sliceS {x : Opd} {x' : Operand} {lo hi : Option Opd} {lo' hi' : Option Operand} (hx : OpdR x x') (hlo : OptR lo lo') (hhi : OptR hi hi') {t : TypeId} (ht : P.underlying t = some .string) (ho : o.op = .slice t x' lo' hi' none)
    (e : exec (.sliceS x lo hi) regs h nx k = some r) : SW P N0 own n0 (execOp a.eval o) w (Out N0 mla ml vt own n0 σ k r) := by
  replace e : hSliceS x lo hi regs h nx k = some r := e
  obtain ⟨v, hv, e1⟩ := opd_rel hr hx e
  obtain ⟨n, N, rfl, e2⟩ := strK_inv e1
  obtain ⟨m, hm, e3⟩ := boundK_rel hr hhi e2
  obtain ⟨l, hl, e4⟩ := boundK_rel hr hlo e3
  obtain ⟨s, hs, hs'⟩ := vr_str hv
  have hmn : m ≤ n := by
    rcases hm with ⟨_, rfl⟩ | ⟨_, _, _, _, h⟩
    · exact Nat.le_refl _
    · exact h
  have hlm : l ≤ m := by
    rcases hl with ⟨_, rfl⟩ | ⟨_, _, _, _, h⟩
    · omega
    · exact h
  unfold vStr at e4
  rw [natK_eq, natK_eq] at e4
  unfold execOp
  simp only [ho, hs, Instr.sliceAt]
  simp only [SW_bind, SW_underlying ht]
  unfold Instr.slice
  simp only [SW_bind, SW_underlying ht, Option.map_none, Option.isSome_none, Bool.false_eq_true, if_false, SW_pure]
  refine SW_bounds (by rw [hs'.1]; exact hm) hl ?_
  exact out_pure H (by simp only [VR]; exact strR_extract hs' hlm hmn) e4
end
end Go.Gb
end
section
/-! Operations, one by one: slices sliced; a type asserted. -/
set_option linter.unusedSimpArgs false
set_option linter.unusedVariables false
set_option linter.unusedSectionVars false
namespace Go.Gb
open Go.Conc
section
variable {C : Type} {P : Program} {N0 : Nat} {mla : Addr} {ml : Gl} {vt : Vt} {own : Own} {n0 : Nat}
variable {σ : Sg} {h : Heap} {nx : Gb.P} {w : World} {regs : Regs} {a : Act} {k : K C} {r : C} {o : Oper}
theorem vr_tup2 {v v' : V} {u u' : Value} (h1 : VR ml σ v u) (h2 : VR ml σ v' u') : VR ml σ (.tup [v, v']) (.tuple #[u, u']) := by
  simp only [VR]; exact ⟨h1, h2, trivial⟩
theorem vr_ok {ok : Bool} {v : V} {u : Value} (h1 : VR ml σ v u) : VR ml σ (okV ok v true) (if ok then .tuple #[u, .bool true] else u) := by
  cases ok
  · exact h1
  · exact vr_tup2 h1 (by simp [VR])
variable (H : AR N0 mla ml vt σ h nx own n0 w) (hr : RegR ml σ regs a)
 include H hr
/-- An array behind a pointer, sliced. -/
theorem snd_sliceA {x : Opd} {x' : Operand} {lo hi : Option Opd} {lo' hi' : Option Operand} (hx : OpdR x x') (hlo : OptR lo lo') (hhi : OptR hi hi') {t el : TypeId} {n : Nat} {ei : TypeInfo} (ht : P.underlying t = some (.array n el)) (he : P.info? el = some ei) (ho : o.op = .slice t x' lo' hi' none)
    (e : exec (.sliceA n ei.size x lo hi) regs h nx k = some r) : SW P N0 own n0 (execOp a.eval o) w (Out N0 mla ml vt own n0 σ k r) := by
  replace e : hSliceA n ei.size x lo hi regs h nx k = some r := e
  obtain ⟨v, hv, e1⟩ := opd_rel hr hx e
  obtain ⟨id, off, rfl, e2⟩ := ptrK_inv e1
  obtain ⟨ob, hob, e2⟩ := getOb_inv e2
  obtain ⟨p, hp, hy⟩ := vr_ptr hv
  cases ob <;> (try simp only [reduceCtorEq] at e2)
  rename_i cs el room opn fz
  have hopn : opn = false := by cases opn with | false => rfl | true => cases e2
  subst hopn
  have hx0 : p.ex = 0 := by
    obtain ⟨o', ho', hr'⟩ := H.obs id p _ hp hob
    cases o' <;> simp only [ObR] at hr'
    rename_i c el' fr
    obtain ⟨lo', hi''⟩ := fr
    simp only [ObR] at hr'
    exact (hr'.2.2.2.1 trivial).1
  obtain ⟨m, hm, e3⟩ := boundK_rel hr hhi e2
  obtain ⟨l, hl, e4⟩ := boundK_rel hr hlo e3
  rw [natK_eq, natK_eq] at e4
  unfold execOp
  simp only [ho, hy, Instr.sliceAt, Instr.sureAddr]
  simp only [SW_bind, SW_underlying ht, SW_pure, Option.map_none]
  refine SW_bounds hm hl ?_
  simp only [SW_sizeOf he]
  rcases boolK_cases e4 with ⟨hb, e5⟩ | ⟨hb, e5⟩
  · have hnl : n = l := Nat.eq_of_beq_eq_true hb
    rw [if_pos hnl]
    exact out_pure H (by simp only [VR]; exact ⟨p, hp, rfl, rfl, by rw [hx0]; rfl⟩) e5
  · have hnl : ¬ n = l := fun e => by subst e; simp at hb
    rw [natK_eq] at e5
    rw [if_neg hnl, add_place rfl]
    exact out_pure H (by simp only [VR]; exact ⟨p, hp, by simp [Nat.add_assoc], rfl, by rw [hx0]; rfl⟩) e5
theorem snd_tassert {x : Opd} {x' : Operand} (hx : OpdR x x') {t xt : TypeId} {d : TypeDesc} {i : TypeInfo} {z : Value} {zv : V} {ok : Bool} (hd : P.underlying t = some d) (hn : ∀ m, d ≠ .interface m) (hi : P.info? t = some i) (hz : i.zero = some z) (hzv : ∀ σ, VR ml σ zv z) (ho : o.op = .typeAssert x' xt t ok)
    (e : exec (.tassert x t zv ok) regs h nx k = some r) : SW P N0 own n0 (execOp a.eval o) w (Out N0 mla ml vt own n0 σ k r) := by
  replace e : hTassert x t zv ok regs h nx k = some r := e
  obtain ⟨v, hv, e1⟩ := opd_rel hr hx e
  unfold execOp
  simp only [ho, Instr.typeAssert]
  simp only [SW_bind, SW_underlying hd]
  generalize hu : a.eval x' = u at hv
  cases v <;> simp only [reduceCtorEq] at e1
  · rename_i t' v'
    cases u <;> simp only [VR] at hv
    obtain ⟨rfl, hv⟩ := hv
    rcases boolK_cases e1 with ⟨hb, e2⟩ | ⟨hb, e2⟩
    · have ht := Nat.eq_of_beq_eq_true hb
      cases d <;> first | exact absurd rfl (hn _) | (simp only [if_pos ht, SW_pure]; exact out_pure H (vr_ok hv) e2)
    · have ht := Nat.ne_of_beq_eq_false hb
      obtain ⟨hok, e3⟩ := boolK_inv e2
      subst hok
      cases d <;> first | exact absurd rfl (hn _) | (simp only [if_neg ht, if_true, SW_bind, SW_zeroValue hi hz, SW_pure]; exact out_pure H (vr_tup2 (hzv σ) (by simp [VR])) e3)
  · cases u <;> simp only [VR] at hv
    obtain ⟨hok, e3⟩ := boolK_inv e1
    subst hok
    cases d <;> first | exact absurd rfl (hn _) | (simp only [if_true, SW_bind, SW_zeroValue hi hz, SW_pure]; exact out_pure H (vr_tup2 (hzv σ) (by simp [VR])) e3)
end
end Go.Gb
end
section
/-! Operations, one by one: strings, compared and joined. -/
set_option linter.unusedSimpArgs false
set_option linter.unusedVariables false
set_option linter.unusedSectionVars false
namespace Go.Gb
open Go.Conc
theorem ba_loop (s : ByteArray) : ∀ (n i : Nat) (r : List UInt8), s.size - i = n → ByteArray.toList.loop s i r = r.reverse ++ s.data.toList.drop i := by
  intro n
  induction n with
  | zero =>
    intro i r h
    unfold ByteArray.toList.loop
    rw [if_neg (by omega)]
    rw [List.drop_eq_nil_of_le (by simp; show s.data.size ≤ i; have : s.size = s.data.size := rfl; omega)]
    simp
  | succ n ih =>
    intro i r h
    unfold ByteArray.toList.loop
    have hi : i < s.size := by omega
    rw [if_pos hi, ih (i + 1) _ (by omega)]
    have hi' : i < s.data.toList.length := by simpa using hi
    rw [List.drop_eq_getElem_cons hi']
    have : s.get! i = s.data.toList[i] := by
      show s.data[i]! = _
      have h2 : i < s.data.size := hi
      rw [getElem!_pos s.data i h2]; simp
    rw [this]
    simp
theorem ba_toList (s : ByteArray) : s.toList = s.data.toList := by
  unfold ByteArray.toList
  rw [ba_loop s _ 0 [] rfl]
  simp
theorem num_head {b : UInt8} {l : List UInt8} {N : Nat} (h : N % 256 ^ (l.length + 1) = numL (b :: l)) : N % 256 = b.toNat ∧ (N / 256) % 256 ^ l.length = numL l := by
  have hb : b.toNat < 256 := b.toNat_lt
  have e1 : N % 256 ^ (l.length + 1) % 256 = N % 256 := by rw [Nat.pow_succ, Nat.mod_mul_left_mod]
  have e2 : N % 256 ^ (l.length + 1) / 256 = N / 256 % 256 ^ l.length := by rw [Nat.pow_succ, Nat.mul_comm, Nat.mod_mul_right_div_self]
  simp only [numL] at h
  rw [h] at e1 e2
  exact ⟨by omega, by omega⟩
theorem sless_eq : ∀ (l l' : List UInt8) (N M : Nat), N % 256 ^ l.length = numL l → M % 256 ^ l'.length = numL l' → sless l.length N l'.length M = Op.bytesLess l l'
  | [], [], _, _, _, _ => rfl
  | [], _ :: _, _, _, _, _ => rfl
  | _ :: _, [], _, _, _, _ => rfl
  | b :: l, c :: l', N, M, h, h' => by
    obtain ⟨h1, h2⟩ := num_head h
    obtain ⟨h3, h4⟩ := num_head h'
    have ih := sless_eq l l' _ _ h2 h4
    show boolK (Nat.beq (N % 256) (M % 256)) (natK (N / 256) fun N => natK (M / 256) fun M => sless l.length N l'.length M) (Nat.blt (N % 256) (M % 256)) = _
    rw [boolK_eq, natK_eq, natK_eq, nbeq, h1, h3, ih]
    simp only [Op.bytesLess]
    by_cases hbc : b.toNat = c.toNat
    · have : b = c := UInt8.toNat_inj.1 hbc
      subst this
      simp
    · have hne : b ≠ c := fun e => hbc (by rw [e])
      have hlt : Nat.blt b.toNat c.toNat = decide (b < c) := by
        show Nat.ble (b.toNat + 1) c.toNat = _
        rw [nble, decide_eq_decide, UInt8.lt_iff_toNat_lt]; omega
      simp [hbc, hne, hlt]
theorem strR_less {n N m M : Nat} {s t : ByteArray} (h : StrR n N s) (h' : StrR m M t) : sless n N m M = Op.bytesLess s.data.toList t.data.toList := by
  obtain ⟨e1, e2⟩ := h
  obtain ⟨f1, f2⟩ := h'
  have hl : s.data.toList.length = n := by simpa using e1
  have hm : t.data.toList.length = m := by simpa using f1
  have := sless_eq s.data.toList t.data.toList N M (by rw [hl]; exact e2) (by rw [hm]; exact f2)
  rwa [hl, hm] at this
theorem less_total : ∀ x y : List UInt8, (Op.bytesLess x y || x == y) = !Op.bytesLess y x
  | [], [] => rfl
  | [], _ :: _ => rfl
  | _ :: _, [] => rfl
  | a :: x, b :: y => by
    have ih := less_total x y
    simp only [Op.bytesLess]
    by_cases h : a = b
    · subst h
      have : ¬ a < a := by rw [UInt8.lt_iff_toNat_lt]; omega
      simpa [this] using ih
    · have h' : ¬ b = a := fun e => h e.symm
      have hn : a.toNat ≠ b.toNat := fun e => h (UInt8.toNat_inj.1 e)
      by_cases hlt : a < b
      · have : ¬ b < a := by rw [UInt8.lt_iff_toNat_lt] at *; omega
        simp [h, h', hlt, this]
      · have : b < a := by rw [UInt8.lt_iff_toNat_lt] at *; omega
        simp [h, h', hlt, this]
section
variable {C : Type} {P : Program} {N0 : Nat} {mla : Addr} {ml : Gl} {vt : Vt} {own : Own} {n0 : Nat} {σ : Sg} {w : World}
def ordOp : BinOp → Bool
  | .lss | .leq | .gtr | .geq => true
  | _ => false
theorem sarith_ord {op : BinOp} {n N m M : Nat} {s t : ByteArray} {k : V → O C} {r : C} {Q : Value → World → Prop} (ho : ordOp op = true) (h : StrR n N s) (h' : StrR m M t) (e : sarith op n N m M k = some r)
    (hQ : ∀ v u, VR ml σ v u → k v = some r → Q u w) : SW P N0 own n0 (Op.stringOp op s t) w Q := by
  have l1 := strR_less h h'
  have l2 := strR_less h' h
  have tot := less_total s.data.toList t.data.toList
  have tot' := less_total t.data.toList s.data.toList
  cases op <;> simp only [ordOp, Bool.false_eq_true] at ho <;> simp only [sarith] at e <;> rw [vBool_eq] at e <;> simp only [Op.stringOp, ba_toList]
  · rw [l1] at e; exact hQ _ _ (by simp [VR]) e
  · rw [l2] at e; exact hQ _ _ (by simp only [VR]; exact tot.symm) e
  · rw [l2] at e; exact hQ _ _ (by simp only [VR]; rw [tot, Bool.not_not]) e
  · rw [l1] at e; exact hQ _ _ (by simp [VR]) e
/-- Joined: a sum of lengths that is an int. -/
theorem sarith_add {n N m M : Nat} {s t : ByteArray} {k : V → O C} {r : C} {Q : Value → World → Prop} (h : StrR n N s) (h' : StrR m M t) (e : sarith .add n N m M k = some r)
    (hQ : ∀ v u, VR ml σ v u → k v = some r → Q u w) : SW P N0 own n0 (Op.stringOp .add s t) w Q := by
  simp only [sarith] at e
  obtain ⟨hb, e⟩ := boolK_inv e
  replace hb : n + m ≤ 9223372036854775807 := Nat.le_of_ble_eq_true hb
  unfold vStr at e
  rw [natK_eq, natK_eq] at e
  simp only [Op.stringOp]
  have hm : IntKind.i64.max = 9223372036854775807 := by decide
  rw [if_neg (by rw [hm, h.1, h'.1]; omega)]
  exact hQ _ _ (by simp only [VR]; exact strR_append h h') e
theorem sarith_eql {op : BinOp} {n N m M : Nat} {s t : ByteArray} {k : V → O C} {r : C} {Q : Value → World → Prop} (h : StrR n N s) (h' : StrR m M t)
    (hQ : ∀ v u, VR ml σ v u → k v = some r → Q u w) : (k (.bool (seq n N m M)) = some r → SW P N0 own n0 (Op.stringOp .eql s t) w Q) ∧ (k (.bool (!seq n N m M)) = some r → SW P N0 own n0 (Op.stringOp .neq s t) w Q) := by
  have e0 := strR_eq h h'
  simp only [Op.stringOp, ba_toList]
  exact ⟨fun e => hQ _ _ (by simp only [VR]; exact e0) e, fun e => hQ _ _ (by simp only [VR]; rw [e0]) e⟩
end
end Go.Gb
end
