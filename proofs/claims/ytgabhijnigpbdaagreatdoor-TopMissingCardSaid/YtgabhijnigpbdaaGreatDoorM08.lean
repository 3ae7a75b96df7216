/- A part of the proof of the statement Rows.TopMissingCardSaid (at every argument the law returns true on every schedule, and its argument reads as before; the listed variables as laid). This text: a stepper over symbolic states of the translated program and its soundness, part 8 of 41. -/
import Derived.Test.YtgabhijnigpbdaaGreatDoorM07
section
/-! Operations, one by one: shifts, bits; '==' of plain values. -/
set_option linter.unusedSimpArgs false
set_option linter.unusedVariables false
set_option linter.unusedSectionVars false
namespace Go.Gb
open Go.Conc
section
variable {C : Type} {P : Program} {N0 : Nat} {mla : Addr} {ml : Gl} {vt : Vt} {own : Own} {n0 : Nat} {σ : Sg} {w : World}
theorem arith_shl {kd kd' : IntKind} {x y : Int} {k : V → O C} {r : C} {t : TypeId} {Q : Value → World → Prop} (e : arith .shl kd x y k = some r) (hQ : ∀ v u, VR ml σ v u → k v = some r → Q u w) :
    SW P N0 own n0 (binOp .shl t (.int kd x) (.int kd' y)) w Q := by
  simp only [arith] at e
  cases y <;> simp only [reduceCtorEq] at e
  rename_i n
  rw [wrapI_eq] at e
  simp only [binOp, Op.shift]
  have h0 : ¬ (Int.ofNat n < 0) := by simp
  rw [if_neg h0]
  exact hQ _ _ (by simp [VR]) e
theorem arith_shr {kd kd' : IntKind} {x y : Int} {k : V → O C} {r : C} {t : TypeId} {Q : Value → World → Prop} (e : arith .shr kd x y k = some r) (hQ : ∀ v u, VR ml σ v u → k v = some r → Q u w) :
    SW P N0 own n0 (binOp .shr t (.int kd x) (.int kd' y)) w Q := by
  simp only [arith] at e
  cases x <;> cases y <;> simp only [reduceCtorEq] at e
  rename_i m n
  rw [vNat_eq] at e
  simp only [binOp, Op.shift]
  have h0 : ¬ (Int.ofNat n < 0) := by simp
  rw [if_neg h0]
  refine hQ _ _ ?_ e
  simp only [VR]
  refine ⟨trivial, ?_⟩
  show ((m / 2 ^ min n kd.bits : Nat) : Int) = (m : Int).fdiv (2 ^ min n kd.bits)
  rw [Int.fdiv_eq_ediv_of_nonneg _ (by exact_mod_cast Nat.zero_le _)]
  push_cast
  rfl
theorem lim_bits (kd : IntKind) : lim kd < 2 ^ kd.bits := by cases kd <;> decide
theorem ofInt_nat (b m : Nat) (h : m < 2 ^ b) : (BitVec.ofInt b (m : Int)).toNat = m := by
  rw [BitVec.ofInt_natCast, BitVec.toNat_ofNat, Nat.mod_eq_of_lt h]
theorem arith_or {kd : IntKind} {x y : Int} {k : V → O C} {r : C} {t : TypeId} {Q : Value → World → Prop} (e : arith .or kd x y k = some r) (hQ : ∀ v u, VR ml σ v u → k v = some r → Q u w) :
    SW P N0 own n0 (binOp .or t (.int kd x) (.int kd y)) w Q := by
  simp only [arith] at e
  cases x <;> cases y <;> simp only [reduceCtorEq] at e
  rename_i m n
  obtain ⟨hb, e⟩ := boolK_inv e
  simp only [Bool.and_eq_true] at hb
  have h1 := Nat.le_of_ble_eq_true hb.1
  have h2 := Nat.le_of_ble_eq_true hb.2
  have hl := lim_bits kd
  rw [wrapN_eq] at e
  simp only [binOp, Op.intBits, ne_eq, not_true_eq_false, if_false]
  refine hQ _ _ ?_ e
  simp only [VR]
  refine ⟨trivial, ?_⟩
  rw [BitVec.toNat_or, show Int.ofNat m = (m : Int) from rfl, show Int.ofNat n = (n : Int) from rfl, ofInt_nat _ _ (by omega), ofInt_nat _ _ (by omega)]
  rfl
theorem arith_and {kd : IntKind} {x y : Int} {k : V → O C} {r : C} {t : TypeId} {Q : Value → World → Prop} (e : arith .and kd x y k = some r) (hQ : ∀ v u, VR ml σ v u → k v = some r → Q u w) :
    SW P N0 own n0 (binOp .and t (.int kd x) (.int kd y)) w Q := by
  simp only [arith] at e
  cases x <;> cases y <;> simp only [reduceCtorEq] at e
  rename_i m n
  obtain ⟨hb, e⟩ := boolK_inv e
  simp only [Bool.and_eq_true] at hb
  have h1 := Nat.le_of_ble_eq_true hb.1
  have h2 := Nat.le_of_ble_eq_true hb.2
  have hl := lim_bits kd
  rw [wrapN_eq] at e
  simp only [binOp, Op.intBits, ne_eq, not_true_eq_false, if_false]
  refine hQ _ _ ?_ e
  simp only [VR]
  refine ⟨trivial, ?_⟩
  rw [BitVec.toNat_and, show Int.ofNat m = (m : Int) from rfl, show Int.ofNat n = (n : Int) from rfl, ofInt_nat _ _ (by omega), ofInt_nat _ _ (by omega)]
  rfl
end
end Go.Gb
end
section
/-! Operations, one by one: two values. -/
set_option linter.unusedSimpArgs false
set_option linter.unusedVariables false
set_option linter.unusedSectionVars false
namespace Go.Gb
open Go.Conc
section
variable {C : Type} {P : Program} {N0 : Nat} {mla : Addr} {ml : Gl} {vt : Vt} {own : Own} {n0 : Nat}
variable {σ : Sg} {h : Heap} {nx : Gb.P} {w : World} {regs : Regs} {a : Act} {k : K C} {r : C} {o : Oper}
/-- Which types a way of comparing serves. -/
def EqT1 (P : Program) : EqC → TypeId → Prop
  | .int, t => ∃ kd, P.underlying t = some (.int kd)
  | .str, t => P.underlying t = some .string
  | .bool, t => P.underlying t = some .bool
  | .ptr, t => ∃ e i, P.underlying t = some (.pointer e) ∧ P.info? e = some i ∧ i.size ≠ 0
  | .slc, t => ∃ e, P.underlying t = some (.slice e)
  | .ifc, t => ∃ ms, P.underlying t = some (.interface ms)
  | .fnc, t => ∃ x y z, P.underlying t = some (.func x y z)
  | .flat _, _ => False
/-- The fields of a struct, from a place on, one cell each. -/
def FlatF (P : Program) : List EqC → List Field → Nat → Prop
  | [], [], _ => True
  | c :: cs, f :: fs, i => f.name ≠ "_" ∧ f.offset = i ∧ (∃ d, P.underlying f.type = some d ∧ aggD d = false) ∧ EqT1 P c f.type ∧ (c = .int ∨ c = .str ∨ c = .bool) ∧ FlatF P cs fs (i + 1)
  | _, _, _ => False
def EqT (P : Program) : EqC → TypeId → Prop
  | .flat l, t => ∃ fs, P.underlying t = some (.struct fs) ∧ P.stoodInHeld t = false ∧ P.eqGuardType P.depth t = false ∧ FlatF P l fs.toList 0
  | c, t => EqT1 P c t
theorem seq_rel {n N m M : Nat} {s t : ByteArray} (h : StrR n N s) (h' : StrR m M t) : seq n N m M = (s == t) := by
  rw [strR_eq h h']
  obtain ⟨⟨x⟩⟩ := s
  obtain ⟨⟨y⟩⟩ := t
  show (x == y) = ((⟨x⟩ : Array UInt8) == ⟨y⟩)
  simp
theorem vr_nilp {u : Value} (hv : VR ml σ .nilp u) : u = .pointer none := by
  cases u <;> try simp only [VR] at hv
  rename_i ad; cases ad <;> simp_all [VR]
theorem vr_nilf {u : Value} (hv : VR ml σ .nilf u) : u = .nilFunc := by cases u <;> simp_all [VR]
theorem vr_nili {u : Value} (hv : VR ml σ .nili u) : u = .nilIface := by cases u <;> simp_all [VR]
theorem vr_ifc {t : Nat} {v : V} {u : Value} (hv : VR ml σ (.ifc t v) u) : ∃ u', u = .iface t u' ∧ VR ml σ v u' := by
  cases u <;> simp only [VR] at hv
  exact ⟨_, by rw [hv.1], hv.2⟩
theorem vr_fn {f : Fn} {a b : List V} {u : Value} (hv : VR ml σ (.fn f a b) u) : ∃ x y, u = .func f x y ∧ (∀ l, f ≠ .yield l) ∧ VRL ml σ a x.toList ∧ VRL ml σ b y.toList := by
  cases u <;> simp only [VR] at hv
  exact ⟨_, _, by rw [hv.1], hv.2⟩
theorem eq1_rel {c : EqC} {x y : V} {x' y' : Value} {k : Bool → O C} {r : C} {t : TypeId} {d : Nat} {Q : Bool → World → Prop} (hx : VR ml σ x x') (hy : VR ml σ y y') (ht : EqT1 P c t) (e : eq1K c x y k = some r)
    (hQ : ∀ b, k b = some r → Q b w) : SW P N0 own n0 (Op.equalIn (d + 1) t x' y') w Q := by
  unfold Op.equalIn
  cases c with
  | int =>
    cases x <;> simp only [eq1K, reduceCtorEq] at e <;> cases y <;> simp only [reduceCtorEq] at e
    obtain ⟨hk, e2⟩ := boolK_inv e
    have hk := kdeq_eq hk
    subst hk
    rw [vr_int hx, vr_int hy]
    obtain ⟨kd', ht⟩ := ht
    rw [SW_bind, SW_underlying ht]
    simp only [if_true, SW_pure]
    rw [ieq_eq] at e2
    exact hQ _ e2
  | str =>
    cases x <;> simp only [eq1K, reduceCtorEq] at e <;> cases y <;> simp only [reduceCtorEq] at e
    obtain ⟨s, rfl, hs⟩ := vr_str hx
    obtain ⟨s', rfl, hs'⟩ := vr_str hy
    rw [SW_bind, SW_underlying ht]
    simp only [SW_pure]
    rw [seq_rel hs hs'] at e
    exact hQ _ e
  | bool =>
    cases x <;> simp only [eq1K, reduceCtorEq] at e <;> cases y <;> simp only [reduceCtorEq] at e
    rename_i a b
    rw [vr_bool hx, vr_bool hy]
    rw [SW_bind, SW_underlying ht]
    simp only [SW_pure]
    cases a <;> cases b <;> exact hQ _ e
  | ptr =>
    obtain ⟨el, i, ht, hi, hz⟩ := ht
    rw [SW_bind, SW_underlying ht]
    cases x <;> simp only [eq1K, reduceCtorEq] at e <;> cases y <;> simp only [reduceCtorEq] at e
    · rename_i id off id' off'
      obtain ⟨p, hp, rfl⟩ := vr_ptr hx
      obtain ⟨q, hq, rfl⟩ := vr_ptr hy
      split at e
      · rename_i hid
        subst hid
        rw [hp] at hq; cases hq
        simp only [SW_bind, SW_sizeOf hi]
        rw [if_pos hz]
        unfold sameAddr
        simp only [beq_self_eq_true, if_true, SW_pure]
        rw [nbeq] at e
        refine hQ _ ?_
        rw [← e]
        congr 1
        rw [Bool.eq_iff_iff]
        simp
      · cases e
    · obtain ⟨p, hp, rfl⟩ := vr_ptr hx
      rw [vr_nilp hy]
      exact hQ _ e
    · obtain ⟨p, hp, rfl⟩ := vr_ptr hy
      rw [vr_nilp hx]
      exact hQ _ e
    · rw [vr_nilp hx, vr_nilp hy]
      exact hQ _ e
  | slc =>
    obtain ⟨el, ht⟩ := ht
    rw [SW_bind, SW_underlying ht]
    cases x <;> simp only [eq1K, reduceCtorEq] at e <;> cases y <;> simp only [reduceCtorEq] at e
    · obtain ⟨p, hp, rfl⟩ := vr_sl hx
      rw [vr_nils hy]
      exact hQ _ e
    · obtain ⟨p, hp, rfl⟩ := vr_sl hy
      rw [vr_nils hx]
      exact hQ _ e
    · rw [vr_nils hx, vr_nils hy]
      exact hQ _ e
  | ifc =>
    obtain ⟨ms, ht⟩ := ht
    rw [SW_bind, SW_underlying ht]
    cases x <;> simp only [eq1K, reduceCtorEq] at e <;> cases y <;> simp only [reduceCtorEq] at e
    · obtain ⟨u, rfl, _⟩ := vr_ifc hx
      rw [vr_nili hy]
      exact hQ _ e
    · obtain ⟨u, rfl, _⟩ := vr_ifc hy
      rw [vr_nili hx]
      exact hQ _ e
    · rw [vr_nili hx, vr_nili hy]
      exact hQ _ e
  | fnc =>
    obtain ⟨_, _, _, ht⟩ := ht
    rw [SW_bind, SW_underlying ht]
    cases x <;> simp only [eq1K, reduceCtorEq] at e <;> cases y <;> simp only [reduceCtorEq] at e
    · obtain ⟨_, _, rfl, _⟩ := vr_fn hx
      rw [vr_nilf hy]
      exact hQ _ e
    · obtain ⟨_, _, rfl, _⟩ := vr_fn hy
      rw [vr_nilf hx]
      exact hQ _ e
    · rw [vr_nilf hx, vr_nilf hy]
      exact hQ _ e
  | flat l => cases e
theorem SW_part1 {t : TypeId} {d : TypeDesc} (hd : P.underlying t = some d) (hag : aggD d = false) {xs : Array Value} {i : Nat} {x : Value} (hx : xs[i]? = some x) {Q : Value → World → Prop} (hq : Q x w) : SW P N0 own n0 (part t xs i) w Q := by
  unfold part
  rw [SW_bind, SW_isAgg hd, hag]
  simp only [Bool.false_eq_true, if_false, hx]
  exact hq
theorem eqL_rel {d : Nat} {X Y : Array Value} {Q : Bool → World → Prop} {r : C} {k : Bool → O C} (hQ : ∀ b, k b = some r → Q b w) : ∀ (l : List EqC) (fs : List Field) (i : Nat) (xs ys : List V), FlatF P l fs i →
    VRL ml σ xs (X.toList.drop i) → VRL ml σ ys (Y.toList.drop i) → eqLK l xs ys k = some r →
    SW P N0 own n0 (do
      let s ← forIn fs ((none, ()) : Option Bool × Unit) (fun f _ => do
        if f.name ≠ "_" then
          let a ← part f.type X f.offset
          let b ← part f.type Y f.offset
          let r ← Op.equalIn (d + 1) f.type a b
          if (!r) = true then pure (ForInStep.done (some false, ())) else pure (ForInStep.yield (none, ()))
        else pure (ForInStep.yield (none, ())))
      match s.fst with
      | some r => pure r
      | none => pure true) w Q := by
  intro l
  induction l with
  | nil =>
    intro fs i xs ys hf hx hy e
    cases fs with
    | cons f fs => exact hf.elim
    | nil =>
      have : k true = some r := by
        cases xs <;> cases ys <;> first | exact e | cases e
      simp only [List.forIn_nil]
      rw [SW_bind, SW_pure]
      exact hQ _ this
  | cons c l ih =>
    intro fs i xs ys hf hx hy e
    cases fs with
    | nil => exact hf.elim
    | cons f fs =>
      obtain ⟨h1, h2, ⟨dd, h3, h4⟩, h5, h6, h7⟩ := hf
      match xs, ys, hx, hy, e with
      | x :: xs, y :: ys, hx, hy, e =>
        replace e : eq1K c x y (fun b => boolK b (eqLK l xs ys k) (k false)) = some r := e
        generalize hX : X.toList.drop i = Xs at hx
        generalize hY : Y.toList.drop i = Ys at hy
        match Xs, Ys, hx, hy with
        | u :: Xs, u' :: Ys, hx, hy =>
          have gx : X[i]? = some u := by
            have := congrArg (fun l => l[0]?) hX
            simpa using this
          have gy : Y[i]? = some u' := by
            have := congrArg (fun l => l[0]?) hY
            simpa using this
          have dx : X.toList.drop (i + 1) = Xs := by
            have := congrArg List.tail hX
            simpa using this
          have dy : Y.toList.drop (i + 1) = Ys := by
            have := congrArg List.tail hY
            simpa using this
          simp only [List.forIn_cons, if_pos h1]
          simp only [SW_bind]
          rw [h2]
          refine SW_part1 h3 h4 gx ?_
          refine SW_part1 h3 h4 gy ?_
          refine eq1_rel hx.1 hy.1 h5 e fun b hb => ?_
          cases b with
          | false =>
            simp only [Bool.not_false, if_true, SW_pure]
            exact hQ _ hb
          | true =>
            simp only [Bool.not_true, Bool.false_eq_true, if_false, SW_pure]
            have := ih fs (i + 1) xs ys h7 (by rw [dx]; exact hx.2) (by rw [dy]; exact hy.2) hb
            rw [SW_bind] at this
            exact this
theorem eq_rel {c : EqC} {x y : V} {x' y' : Value} {k : Bool → O C} {r : C} {t : TypeId} {d : Nat} {Q : Bool → World → Prop} (hx : VR ml σ x x') (hy : VR ml σ y y') (ht : EqT P c t) (e : eqK c x y k = some r)
    (hQ : ∀ b, k b = some r → Q b w) : SW P N0 own n0 (Op.equalIn (d + 2) t x' y') w Q := by
  cases c with
  | flat l =>
    obtain ⟨fs, h1, h2, _, h3⟩ := ht
    cases x <;> simp only [eqK, reduceCtorEq] at e <;> cases y <;> simp only [reduceCtorEq] at e
    cases x' <;> simp only [VR] at hx
    cases y' <;> simp only [VR] at hy
    unfold Op.equalIn
    rw [SW_bind, SW_underlying h1]
    have := eqL_rel (P := P) (N0 := N0) (own := own) (n0 := n0) (d := d) hQ l fs.toList 0 _ _ h3 (by simpa using hx.1) (by simpa using hy.1) e
    simp only [SW_bind, SW_program, h2, Bool.false_eq_true, if_false]
    rw [← Array.forIn_toList]
    rw [SW_bind] at this
    refine SW.mono this fun v w' hq => ?_
    rcases v with ⟨_ | b, _⟩ <;> exact hq
  | int => exact eq1_rel (c := .int) hx hy ht e hQ
  | str => exact eq1_rel (c := .str) hx hy ht e hQ
  | bool => exact eq1_rel (c := .bool) hx hy ht e hQ
  | ptr => exact eq1_rel (c := .ptr) hx hy ht e hQ
  | slc => exact eq1_rel (c := .slc) hx hy ht e hQ
  | ifc => exact eq1_rel (c := .ifc) hx hy ht e hQ
  | fnc => exact eq1_rel (c := .fnc) hx hy ht e hQ
end
end Go.Gb
end
section
/-! Operations, one by one: two values held against each other; arithmetic. -/
set_option linter.unusedSimpArgs false
set_option linter.unusedVariables false
set_option linter.unusedSectionVars false
namespace Go.Gb
open Go.Conc
section
variable {C : Type} {P : Program} {N0 : Nat} {mla : Addr} {ml : Gl} {vt : Vt} {own : Own} {n0 : Nat}
variable {σ : Sg} {h : Heap} {nx : Gb.P} {w : World} {regs : Regs} {a : Act} {k : K C} {r : C} {o : Oper}
/-- What values of a class look like. -/
def Cl : EqC → Value → Prop
  | .int, v => ∃ kd n, v = .int kd n
  | .str, v => ∃ s, v = .string s
  | .bool, v => ∃ b, v = .bool b
  | .ptr, v => ∃ x, v = .pointer x
  | .slc, v => ∃ x n c, v = .slice x n c
  | .ifc, v => v = .nilIface ∨ ∃ t x, v = .iface t x
  | .fnc, v => v = .nilFunc ∨ ∃ f x y, v = .func f x y
  | .flat _, v => ∃ xs, v = .agg xs
theorem eqK_cl {c : EqC} {x y : V} {x' y' : Value} {k : Bool → O C} {r : C} (hx : VR ml σ x x') (hy : VR ml σ y y') (e : eqK c x y k = some r) : Cl c x' ∧ Cl c y' := by
  cases c <;> cases x <;> simp only [eqK, eq1K, reduceCtorEq] at e <;> cases y <;> simp only [reduceCtorEq] at e
  · exact ⟨⟨_, _, vr_int hx⟩, ⟨_, _, vr_int hy⟩⟩
  · obtain ⟨s, rfl, _⟩ := vr_str hx
    obtain ⟨t, rfl, _⟩ := vr_str hy
    exact ⟨⟨_, rfl⟩, ⟨_, rfl⟩⟩
  · exact ⟨⟨_, vr_bool hx⟩, ⟨_, vr_bool hy⟩⟩
  all_goals first
    | (obtain ⟨p, _, rfl⟩ := vr_ptr hx; obtain ⟨q, _, rfl⟩ := vr_ptr hy; exact ⟨⟨_, rfl⟩, ⟨_, rfl⟩⟩)
    | (obtain ⟨p, _, rfl⟩ := vr_ptr hx; rw [vr_nilp hy]; exact ⟨⟨_, rfl⟩, ⟨_, rfl⟩⟩)
    | (obtain ⟨p, _, rfl⟩ := vr_ptr hy; rw [vr_nilp hx]; exact ⟨⟨_, rfl⟩, ⟨_, rfl⟩⟩)
    | (rw [vr_nilp hx, vr_nilp hy]; exact ⟨⟨_, rfl⟩, ⟨_, rfl⟩⟩)
    | (obtain ⟨p, _, rfl⟩ := vr_sl hx; rw [vr_nils hy]; exact ⟨⟨_, _, _, rfl⟩, ⟨_, _, _, rfl⟩⟩)
    | (obtain ⟨p, _, rfl⟩ := vr_sl hy; rw [vr_nils hx]; exact ⟨⟨_, _, _, rfl⟩, ⟨_, _, _, rfl⟩⟩)
    | (rw [vr_nils hx, vr_nils hy]; exact ⟨⟨_, _, _, rfl⟩, ⟨_, _, _, rfl⟩⟩)
    | (obtain ⟨p, rfl, _⟩ := vr_ifc hx; rw [vr_nili hy]; exact ⟨.inr ⟨_, _, rfl⟩, .inl rfl⟩)
    | (obtain ⟨p, rfl, _⟩ := vr_ifc hy; rw [vr_nili hx]; exact ⟨.inl rfl, .inr ⟨_, _, rfl⟩⟩)
    | (rw [vr_nili hx, vr_nili hy]; exact ⟨.inl rfl, .inl rfl⟩)
    | (obtain ⟨_, _, rfl, _⟩ := vr_fn hx; rw [vr_nilf hy]; exact ⟨.inr ⟨_, _, _, rfl⟩, .inl rfl⟩)
    | (obtain ⟨_, _, rfl, _⟩ := vr_fn hy; rw [vr_nilf hx]; exact ⟨.inl rfl, .inr ⟨_, _, _, rfl⟩⟩)
    | (rw [vr_nilf hx, vr_nilf hy]; exact ⟨.inl rfl, .inl rfl⟩)
    | (cases x' <;> simp only [VR] at hx; cases y' <;> simp only [VR] at hy; exact ⟨⟨_, rfl⟩, ⟨_, rfl⟩⟩)
theorem binOp_eql {c : EqC} {t : TypeId} {x y : Value} (h1 : c ≠ .int) (h2 : c ≠ .str) (hx : Cl c x) (hy : Cl c y) :
    binOp .eql t x y = (do pure (.bool (← Op.equal t x y))) ∧ binOp .neq t x y = (do pure (.bool (!(← Op.equal t x y)))) := by
  cases c with
  | int => exact absurd rfl h1
  | str => exact absurd rfl h2
  | bool => obtain ⟨_, rfl⟩ := hx; obtain ⟨_, rfl⟩ := hy; exact ⟨rfl, rfl⟩
  | ptr => obtain ⟨_, rfl⟩ := hx; obtain ⟨_, rfl⟩ := hy; exact ⟨rfl, rfl⟩
  | slc => obtain ⟨_, _, _, rfl⟩ := hx; obtain ⟨_, _, _, rfl⟩ := hy; exact ⟨rfl, rfl⟩
  | ifc => rcases hx with rfl | ⟨_, _, rfl⟩ <;> rcases hy with rfl | ⟨_, _, rfl⟩ <;> exact ⟨rfl, rfl⟩
  | fnc => rcases hx with rfl | ⟨_, _, _, rfl⟩ <;> rcases hy with rfl | ⟨_, _, _, rfl⟩ <;> exact ⟨rfl, rfl⟩
  | flat l => obtain ⟨_, rfl⟩ := hx; obtain ⟨_, rfl⟩ := hy; exact ⟨rfl, rfl⟩
def IsConst : Operand → Prop
  | .const _ => True
  | _ => False
theorem SW_guard {op : BinOp} {c : EqC} {t : TypeId} {x y : Operand} {u v : Value} (ht : EqT P c t) (hc : c = .ifc → IsConst x ∨ IsConst y) (hx : Cl c u) (hy : Cl c v) {Q : Unit → World → Prop} (hq : Q () w) : SW P N0 own n0 (eqGuard op t x y u v) w Q := by
  cases c with
  | int => obtain ⟨_, _, rfl⟩ := hx; cases op <;> exact hq
  | str => obtain ⟨_, rfl⟩ := hx; cases op <;> exact hq
  | bool => obtain ⟨_, rfl⟩ := hx; cases op <;> exact hq
  | ptr => obtain ⟨_, rfl⟩ := hx; cases op <;> exact hq
  | slc => obtain ⟨_, _, _, rfl⟩ := hx; cases op <;> exact hq
  | fnc => rcases hx with rfl | ⟨_, _, _, rfl⟩ <;> cases op <;> exact hq
  | ifc =>
    rcases hx with rfl | ⟨_, _, rfl⟩
    · rcases hy with rfl | ⟨_, _, rfl⟩
      · rcases hc rfl with h | h
        · cases x <;> first | exact h.elim | (cases op <;> exact hq)
        · cases y <;> first | exact h.elim | (cases x <;> cases op <;> exact hq)
      · cases op <;> exact hq
    · cases op <;> exact hq
  | flat l =>
    obtain ⟨_, rfl⟩ := hx; obtain ⟨_, rfl⟩ := hy
    obtain ⟨_, _, _, h, _⟩ := ht
    unfold eqGuard
    cases op <;> first | exact hq | (simp only [SW_bind, SW_program, h, Bool.not_false, if_true, Bool.not_true, Bool.false_eq_true, if_false]; exact hq)
theorem SW_guard' {op : BinOp} {t : TypeId} {x y : Operand} {u v : Value} (h1 : op ≠ .eql) (h2 : op ≠ .neq) {Q : Unit → World → Prop} (hq : Q () w) : SW P N0 own n0 (eqGuard op t x y u v) w Q := by
  cases op <;> first | exact absurd rfl h1 | exact absurd rfl h2 | exact hq
variable (H : AR N0 mla ml vt σ h nx own n0 w) (hr : RegR ml σ regs a)
 include H hr
theorem snd_eqv {c : EqC} {neg : Bool} {x y : Opd} {x' y' : Operand} (hx : OpdR x x') (hy : OpdR y y') {t yt : TypeId} (ht : EqT P c t) (hc : c = .ifc → IsConst x' ∨ IsConst y') (ho : o.op = .binOp (if neg then .neq else .eql) t x' y' yt)
    (e : exec (.eqv c neg x y) regs h nx k = some r) : SW P N0 own n0 (execOp a.eval o) w (Out N0 mla ml vt own n0 σ k r) := by
  replace e : hEqv c neg x y regs h nx k = some r := e
  obtain ⟨u, hu, e1⟩ := opd_rel hr hx e
  obtain ⟨v, hv, e2⟩ := opd_rel hr hy e1
  obtain ⟨hcx, hcy⟩ := eqK_cl hu hv e2
  have e3 : eqK c u v (fun b => k (.bool (if neg then !b else b)) h nx) = some r := by
    rw [← e2]; congr 1; funext b
    cases neg <;> cases b <;> rfl
  unfold execOp
  simp only [ho]
  rw [SW_bind, SW_bind]
  refine SW_guard ht hc hcx hcy ?_
  by_cases hi : c = .int
  · subst hi
    cases u <;> simp only [eqK, eq1K, reduceCtorEq] at e3 <;> cases v <;> simp only [reduceCtorEq] at e3
    obtain ⟨hk, e4⟩ := boolK_inv e3
    have hk := kdeq_eq hk
    subst hk
    rw [vr_int hu, vr_int hv]
    rw [ieq_eq] at e4
    cases neg <;> simp only [binOp, ne_eq, not_true_eq_false, if_false, Op.intCmp, SW_pure, Bool.false_eq_true, if_true] at e4 ⊢
    · exact out_pure H (by simp only [VR]; rfl) e4
    · refine out_pure H ?_ e4
      simp only [VR]
      rename_i kd p q
      by_cases hpq : p = q <;> simp [hpq]
  by_cases hs : c = .str
  · subst hs
    cases u <;> simp only [eqK, eq1K, reduceCtorEq] at e3 <;> cases v <;> simp only [reduceCtorEq] at e3
    obtain ⟨s, hs1, hs⟩ := vr_str hu
    obtain ⟨s', hs2, hs'⟩ := vr_str hv
    rw [hs1, hs2]
    have q := sarith_eql (P := P) (N0 := N0) (own := own) (n0 := n0) (w := w) (ml := ml) (σ := σ) (k := fun v => k v h nx) (r := r) (op := .eql) hs hs' (Q := fun u w => Out N0 mla ml vt own n0 σ k r (.value u) w) (fun v u hv hk => out_pure H hv hk)
    cases neg
    · exact q.1 e3
    · exact q.2 e3
  obtain ⟨b1, b2⟩ := binOp_eql (t := t) hi hs hcx hcy
  have hlaw : SW P N0 own n0 (Op.equal t (a.eval x') (a.eval y')) w (fun b w' => w' = w ∧ k (.bool (if neg then !b else b)) h nx = some r) :=
    eq_rel (d := 9998) hu hv ht e3 fun b hb => ⟨rfl, hb⟩
  cases neg
  · simp only [Bool.false_eq_true, if_false, b1, SW_bind] at hlaw ⊢
    exact SW.mono hlaw fun b w' ⟨hw, hb⟩ => by subst hw; exact out_pure H (by simp [VR]) hb
  · simp only [if_true, b2, SW_bind] at hlaw ⊢
    exact SW.mono hlaw fun b w' ⟨hw, hb⟩ => by subst hw; exact out_pure H (by simp [VR]) hb
end
end Go.Gb
end
