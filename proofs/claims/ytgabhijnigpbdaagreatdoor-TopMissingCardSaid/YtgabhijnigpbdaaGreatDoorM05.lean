/- A part of the proof of the statement Rows.TopMissingCardSaid (at every argument the law returns true on every schedule, and its argument reads as before; the listed variables as laid). This text: a stepper over symbolic states of the translated program and its soundness, part 5 of 41. -/
import Derived.Test.YtgabhijnigpbdaaGreatDoorM04
section
/-! Operations, one by one: loads, stores, allocations. -/
set_option linter.unusedSimpArgs false
set_option linter.unusedVariables false
namespace Go.Gb
open Go.Conc
/-- The evaluator's operand, the model's. -/
def OpdR (x : Opd) (y : Operand) : Prop := match x with
  | .r p => y = .tmp p.toNat
  | .c v => (∃ u, y = .const u ∧ ∀ ml σ, VR ml σ v u) ∨ ∃ f, y = .func f ∧ v = .fn (.func f) [] []
def RegR (ml : Gl) (σ : Sg) (regs : Regs) (a : Act) : Prop := ∀ p v, T.get p regs = some v → VR ml σ v (a.tmps.getD p.toNat undef)
theorem opd_rel {C : Type} {ml : Gl} {σ : Sg} {regs : Regs} {a : Act} {x : Opd} {y : Operand} {k : V → O C} {r : C} (hr : RegR ml σ regs a) (hx : OpdR x y) (h : opdK x regs k = some r) : ∃ v, VR ml σ v (a.eval y) ∧ k v = some r := by
  obtain ⟨v, hv, hk⟩ := opdK_inv h
  cases x with
  | r p => subst hx; exact ⟨v, hr p v hv, hk⟩
  | c v' =>
    simp only at hv; subst hv
    rcases hx with ⟨u, rfl, hu⟩ | ⟨f, rfl, rfl⟩
    · exact ⟨v', hu ml σ, hk⟩
    · refine ⟨_, ?_, hk⟩
      simp [Act.eval, VR, VRL]
section
variable {C : Type} {P : Program} {N0 : Nat} {mla : Addr} {ml : Gl} {vt : Vt} {own : Own} {n0 : Nat}
/-- What an operation leaves. -/
def Out (N0 : Nat) (mla : Addr) (ml : Gl) (vt : Vt) (own : Own) (n0 : Nat) (σ : Sg) (k : K C) (r : C) : Next → World → Prop := fun nxt w' =>
  ∃ v σ' h' nx', ((∃ u, nxt = .value u ∧ VR ml σ' v u) ∨ (nxt = .skip ∧ v = .tup [])) ∧ Sub σ σ' ∧ AR N0 mla ml vt σ' h' nx' own n0 w' ∧ k v h' nx' = some r
variable {σ : Sg} {h : Heap} {nx : Gb.P} {w : World} {regs : Regs} {a : Act} {k : K C} {r : C}
theorem out_pure (H : AR N0 mla ml vt σ h nx own n0 w) {v : V} {u : Value} (hv : VR ml σ v u) (hk : k v h nx = some r) : Out N0 mla ml vt own n0 σ k r (.value u) w :=
  ⟨v, σ, h, nx, .inl ⟨u, rfl, hv⟩, Sub.refl _, H, hk⟩
theorem ptrK_inv {v : V} {k : Gb.P → Nat → O C} {r : C} (e : ptrK v k = some r) : ∃ id off, v = .ptr id off ∧ k id off = some r := by
  cases v <;> simp only [ptrK, reduceCtorEq] at e
  exact ⟨_, _, rfl, e⟩
theorem vr_ptr {id : Gb.P} {off : Nat} {u : Value} (hv : VR ml σ (.ptr id off) u) : ∃ p, σ id = some p ∧ u = .pointer (some ⟨p.bl, p.sh + off, none⟩) := by
  cases u <;> try simp only [VR] at hv
  rename_i ad
  cases ad <;> simp only [VR] at hv
  obtain ⟨p, hp, e⟩ := hv
  exact ⟨p, hp, by rw [e]⟩
theorem snd_load1 (H : AR N0 mla ml vt σ h nx own n0 w) (hr : RegR ml σ regs a) {x : Opd} {y : Operand} (hx : OpdR x y) {t : TypeId} {d : TypeDesc} (hu : P.underlying t = some d) (hd : aggD d = false) {o : Oper} (ho : o.op = .load t y)
    (e : exec (.load1 x) regs h nx k = some r) : SW P N0 own n0 (execOp a.eval o) w (Out N0 mla ml vt own n0 σ k r) := by
  replace e : hLoad1 x regs h nx k = some r := e
  obtain ⟨v, hv, e⟩ := opd_rel hr hx e
  obtain ⟨id, off, rfl, e⟩ := ptrK_inv e
  obtain ⟨p, hp, hy⟩ := vr_ptr hv
  obtain ⟨cs, el, room, opn, fz, hg, hl, e⟩ := readK_inv e
  obtain ⟨xs, h1, _, h2⟩ := H.cells hp hg off 1
  unfold execOp
  simp only [ho, hy, Instr.loadAt, Instr.sureAddr, loadVar]
  rw [SW_bind, SW_bind, SW_pure, SW_bind, SW_isAgg hu, hd]
  generalize (cs.drop off).take 1 = c1 at *
  match c1, xs, h1 with
  | [u], [x], h1 =>
    refine SW_load (v := x) (by have := h2 0 x rfl; simpa using this) (.inl (H.has id p _ hp hg)) ?_
    exact out_pure H h1.1 e
  | [], _, _ => simp at hl
theorem snd_loadN (H : AR N0 mla ml vt σ h nx own n0 w) (hr : RegR ml σ regs a) {x : Opd} {y : Operand} (hx : OpdR x y) {t : TypeId} {d : TypeDesc} {i : TypeInfo} (hu : P.underlying t = some d) (hd : aggD d = true) (hi : P.info? t = some i) {o : Oper} (ho : o.op = .load t y)
    (e : exec (.loadN i.size x) regs h nx k = some r) : SW P N0 own n0 (execOp a.eval o) w (Out N0 mla ml vt own n0 σ k r) := by
  replace e : hLoadN i.size x regs h nx k = some r := e
  obtain ⟨v, hv, e⟩ := opd_rel hr hx e
  obtain ⟨id, off, rfl, e⟩ := ptrK_inv e
  obtain ⟨p, hp, hy⟩ := vr_ptr hv
  obtain ⟨cs, el, room, opn, fz, hg, hl, e⟩ := readK_inv e
  obtain ⟨xs, h1, h3, h2⟩ := H.cells hp hg off i.size
  unfold execOp
  simp only [ho, hy, Instr.loadAt, Instr.sureAddr, loadVar]
  rw [SW_bind, SW_bind, SW_pure, SW_bind, SW_isAgg hu, hd]
  simp only [if_true]
  rw [SW_bind, SW_sizeOf hi, SW_bind]
  have hlen : i.size = xs.length := by rw [← h1.length, hl]
  unfold loadCells
  rw [hlen]
  refine SW_loadCells rfl (.inl (H.has id p _ hp hg)) xs 0 #[] (fun j y hy => h2 j y hy) ?_
  exact out_pure H (v := .agg _) (by simpa [VR] using ⟨h1, h3⟩) e
end
end Go.Gb
end
section
/-! Several cells written. -/
set_option linter.unusedSimpArgs false
set_option linter.unusedVariables false
namespace Go.Gb
open Go.Conc
theorem T.put_put {α : Type} (x y : Option α) : ∀ (p : P) (t : T α), T.put x p (T.put y p t) = T.put x p t := by
  intro p
  induction p with
  | z => intro t; cases t <;> rfl
  | o p ih =>
    intro t
    cases t with
    | nil => exact congrArg (fun l => T.node l none .nil) (ih .nil)
    | node l v r => exact congrArg (fun l => T.node l v r) (ih l)
  | e p ih =>
    intro t
    cases t with
    | nil => exact congrArg (fun r => T.node .nil none r) (ih .nil)
    | node l v r => exact congrArg (fun r => T.node l v r) (ih r)
theorem T.put_self {α : Type} : ∀ (p : P) (t : T α) (v : α), T.get p t = some v → T.put (some v) p t = t := by
  intro p
  induction p with
  | z =>
    intro t v h
    cases t with
    | nil => cases h
    | node l u r =>
      have h : u = some v := h
      subst h; rfl
  | o p ih =>
    intro t v h
    cases t with
    | nil => cases h
    | node l u r => exact congrArg (fun l => T.node l u r) (ih l v h)
  | e p ih =>
    intro t v h
    cases t with
    | nil => cases h
    | node l u r => exact congrArg (fun r => T.node l u r) (ih r v h)
section
variable {P : Program} {N0 : Nat} {mla : Addr} {ml : Gl} {vt : Vt} {σ : Sg} {nx : Gb.P} {own : Own} {n0 : Nat}
theorem storeCells_within {id : Gb.P} {p : Pl} {el room fz : Nat} {opn : Bool} (hp : σ id = some p) {b : Addr} (hb : b.spot = none) (hbb : b.block = p.bl) : ∀ (vs : List V) (xs : List Value) (j : Nat) {h : Heap} {w : World} {cs : List V} {i : Nat} {Q : Unit → World → Prop},
    AR N0 mla ml vt σ h nx own n0 w → T.get id h = some (.row cs el room opn fz) → i + vs.length ≤ cs.length → fz ≤ i → VRL ml σ vs xs → (∀ x ∈ xs, OneCell x) → b.off + j = p.sh + i →
    (∀ w', AR N0 mla ml vt σ (T.put (some (.row (cs.take i ++ vs ++ cs.drop (i + vs.length)) el room opn fz)) id h) nx own n0 w' → Q () w') → SW P N0 own n0 (storeCells b xs j) w Q
  | [], [], j, h, w, cs, i, Q, H, ho, hl, hf, hv, h1, hij, hQ => by
    refine hQ w ?_
    simp only [List.append_nil, List.length_nil, Nat.add_zero, List.take_append_drop]
    rw [T.put_self _ _ _ ho]; exact H
  | v :: vs, x :: xs, j, h, w, cs, i, Q, H, ho, hl, hf, hv, h1, hij, hQ => by
    rw [storeCells, SW_bind]
    simp only [List.length_cons] at hl
    obtain ⟨a1, a2, a3, a4⟩ := H.set hp ho (i := i) (by omega) hf hv.1 (h1 x (by simp))
    have hpl : b.add j = ⟨p.bl, p.sh + i, none⟩ := by rw [add_place hb, hbb, hij]
    refine ⟨h1 x (by simp), by rw [hpl]; exact a1, by rw [hpl]; exact a2, by rw [hpl]; exact a3, ?_⟩
    rw [hpl]
    refine storeCells_within hp hb hbb vs xs (j + 1) (i := i + 1) a4 (T.get_put_same _ _ _) (by simp; omega) (by omega) hv.2 (fun y hy => h1 y (by simp [hy])) (by omega) fun w' h' => hQ w' ?_
    rw [T.put_put] at h'
    have e : (cs.set i v).take (i + 1) ++ vs ++ (cs.set i v).drop (i + 1 + vs.length) = cs.take i ++ (v :: vs) ++ cs.drop (i + (v :: vs).length) := by
      have e1 : (cs.set i v).take (i + 1) = cs.take i ++ [v] := by
        rw [List.take_add_one, List.take_set_of_le (by omega)]
        simp [show i < cs.length by omega]
      have e2 : (cs.set i v).drop (i + 1 + vs.length) = cs.drop (i + 1 + vs.length) := by
        rw [List.drop_set_of_lt (by omega)]
      rw [e1, e2]
      simp [Nat.add_comm, Nat.add_left_comm]
    rw [e] at h'
    exact h'
theorem storeCells_behind {id : Gb.P} {p : Pl} {el fz : Nat} {opn : Bool} (hp : σ id = some p) {b : Addr} (hb : b.spot = none) (hbb : b.block = p.bl) : ∀ (vs : List V) (xs : List Value) (j : Nat) {h : Heap} {w : World} {cs : List V} {room : Nat} {Q : Unit → World → Prop},
    AR N0 mla ml vt σ h nx own n0 w → T.get id h = some (.row cs el room opn fz) → vs.length ≤ room → fz ≤ cs.length → VRL ml σ vs xs → (∀ x ∈ xs, OneCell x) → b.off + j = p.sh + cs.length →
    (∀ w', AR N0 mla ml vt σ (T.put (some (.row (cs ++ vs) el (room - vs.length) opn fz)) id h) nx own n0 w' → Q () w') → SW P N0 own n0 (storeCells b xs j) w Q
  | [], [], j, h, w, cs, room, Q, H, ho, hl, hf, hv, h1, hij, hQ => by
    refine hQ w ?_
    simp only [List.append_nil, List.length_nil, Nat.sub_zero]
    rw [T.put_self _ _ _ ho]; exact H
  | v :: vs, x :: xs, j, h, w, cs, room, Q, H, ho, hl, hf, hv, h1, hij, hQ => by
    rw [storeCells, SW_bind]
    simp only [List.length_cons] at hl
    obtain ⟨room, rfl⟩ : ∃ r, room = r + 1 := ⟨room - 1, by omega⟩
    obtain ⟨a1, a2, a3, a4⟩ := H.push hp ho hf hv.1 (h1 x (by simp))
    have hpl : b.add j = ⟨p.bl, p.sh + cs.length, none⟩ := by rw [add_place hb, hbb, hij]
    refine ⟨h1 x (by simp), by rw [hpl]; exact a1, by rw [hpl]; exact a2, by rw [hpl]; exact a3, ?_⟩
    rw [hpl]
    refine storeCells_behind hp hb hbb vs xs (j + 1) a4 (T.get_put_same _ _ _) (by omega) (by simp; omega) hv.2 (fun y hy => h1 y (by simp [hy])) (by simp; omega) fun w' h' => hQ w' ?_
    rw [T.put_put] at h'
    have e : cs ++ [v] ++ vs = cs ++ v :: vs := by simp
    rw [e] at h'
    rw [show room + 1 - (v :: vs).length = room - vs.length by simp]
    exact h'
end
theorem boolK_cases {C : Type} {b : Bool} {x y : O C} {r : C} (e : boolK b x y = some r) : (b = true ∧ x = some r) ∨ (b = false ∧ y = some r) := by cases b with | true => exact .inl ⟨rfl, e⟩ | false => exact .inr ⟨rfl, e⟩
theorem writeK_inv {C : Type} {id : P} {off : Nat} {vs : List V} {h : Heap} {k : Heap → O C} {r : C} (e : writeK id off vs h k = some r) :
    (vs = [] ∧ k h = some r) ∨ ∃ cs el room opn fz, T.get id h = some (.row cs el room opn fz) ∧ fz ≤ off ∧
      ((off + vs.length ≤ cs.length ∧ k (T.put (some (.row (cs.take off ++ vs ++ cs.drop (off + vs.length)) el room opn fz)) id h) = some r) ∨
       (off = cs.length ∧ vs.length ≤ room ∧ k (T.put (some (.row (cs ++ vs) el (room - vs.length) opn fz)) id h) = some r)) := by
  cases vs with
  | nil => exact .inl ⟨rfl, e⟩
  | cons v vs =>
    unfold writeK at e
    obtain ⟨o, ho, e⟩ := getOb_inv e
    cases o <;> simp only [reduceCtorEq] at e
    rename_i cs el room opn fz
    obtain ⟨h1, e⟩ := boolK_inv e
    refine .inr ⟨cs, el, room, opn, fz, ho, Nat.le_of_ble_eq_true h1, ?_⟩
    rcases boolK_cases e with ⟨h2, e⟩ | ⟨_, e⟩
    · obtain ⟨h3, e⟩ := lwriteK_inv _ _ _ _ _ e
      rw [T.putK_eq] at e
      exact .inl ⟨h3, e⟩
    · obtain ⟨h2, e⟩ := boolK_inv e
      simp only [Bool.and_eq_true] at h2
      rw [lappK_eq, natK_eq, T.putK_eq, llen_eq, Nat.zero_add] at e
      have h3 := Nat.le_of_ble_eq_true h2.2
      rw [llen_eq, Nat.zero_add] at h3
      have h4 := Nat.eq_of_beq_eq_true h2.1
      rw [llen_eq, Nat.zero_add] at h4
      exact .inr ⟨h4, h3, e⟩
end Go.Gb
end
