/- A part of the proof of the statement Rows.TopMissingCardSaid (at every argument the law returns true on every schedule, and its argument reads as before; the listed variables as laid). This text: a stepper over symbolic states of the translated program and its soundness, part 6 of 41. -/
import Derived.Test.YtgabhijnigpbdaaGreatDoorM05
section
/-! Operations, one by one: stores, allocations, copies. -/
set_option linter.unusedSimpArgs false
set_option linter.unusedVariables false
namespace Go.Gb
open Go.Conc
section
variable {C : Type} {P : Program} {N0 : Nat} {mla : Addr} {ml : Gl} {vt : Vt} {own : Own} {n0 : Nat}
variable {σ : Sg} {h : Heap} {nx : Gb.P} {w : World} {regs : Regs} {a : Act} {k : K C} {r : C} {o : Oper}
theorem one_of {v : V} {u : Value} (hv : VR ml σ v u) (h1 : ∀ cs, v ≠ .agg cs) (h2 : ∀ cs, v ≠ .tup cs) : OneCell u := by
  cases v <;> first | exact absurd rfl (h1 _) | exact absurd rfl (h2 _) | (cases u <;> simp_all [VR, OneCell] <;> omega)
theorem cells_rel {v : V} {u : Value} (hv : VR ml σ v u) (h2 : ∀ cs, v ≠ .tup cs) : VRL ml σ (cellsV v) u.cells.toList ∧ ∀ x ∈ u.cells.toList, OneCell x := by
  by_cases h1 : ∃ cs, v = .agg cs
  · obtain ⟨cs, rfl⟩ := h1
    cases u <;> simp only [VR] at hv
    exact hv
  · have e1 : cellsV v = [v] := by cases v <;> first | rfl | exact absurd ⟨_, rfl⟩ h1
    have ho := one_of hv (fun cs e => h1 ⟨cs, e⟩) h2
    have e2 : u.cells = #[u] := by cases u <;> first | rfl | exact ho.elim
    rw [e1, e2]
    exact ⟨⟨hv, trivial⟩, by simpa using ho⟩
theorem notup {v : V} {x : O C} {f : V → O C} {r : C} (e : (match v with | .tup _ => x | v => f v) = some r) (hx : x = none) : (∀ cs, v ≠ .tup cs) ∧ f v = some r := by
  cases v <;> first | exact ⟨(by intro cs e; cases e), e⟩ | (simp only at e; rw [hx] at e; cases e)
theorem put_toNat {id : Gb.P} {ob ob' : Ob} (ho : T.get id h = some ob) (H : AR N0 mla ml vt σ h nx own n0 w) {p : Pl} (hp : σ id = some p) : ∀ id', id'.toNat < nx.toNat → σ id' = none → T.get id' (T.put (some ob') id h) = T.get id' h := by
  intro id' _ h2
  exact T.get_put_ne _ _ _ _ (fun e => by rw [e, h2] at hp; cases hp)
theorem snd_store (H : AR N0 mla ml vt σ h nx own n0 w) (hr : RegR ml σ regs a) {x y : Opd} {x' y' : Operand} (hx : OpdR x x') (hy : OpdR y y') {t : TypeId} {i : TypeInfo} (hi : P.info? t = some i) (ho : o.op = .store t x' y')
    (e : exec (.store i.size x y) regs h nx k = some r) : SW P N0 own n0 (execOp a.eval o) w (Out N0 mla ml vt own n0 σ k r) := by
  replace e : hStore i.size x y regs h nx k = some r := e
  obtain ⟨v, hv, e⟩ := opd_rel hr hx e
  obtain ⟨u, hu, e⟩ := opd_rel hr hy e
  obtain ⟨id, off, rfl, e⟩ := ptrK_inv e
  obtain ⟨p, hp, hpe⟩ := vr_ptr hv
  obtain ⟨hnt, e⟩ := notup e rfl
  obtain ⟨hn, e⟩ := boolK_inv e
  obtain ⟨hc1, hc2⟩ := cells_rel hu hnt
  have hsz : (a.eval y').cells.size = i.size := by
    have := Nat.eq_of_beq_eq_true hn
    rw [llen_eq, Nat.zero_add, hc1.length] at this
    simpa using this
  unfold execOp
  simp only [ho, hpe, Instr.storeAt, Instr.sureAddr, storeVar]
  rw [SW_bind, SW_bind, SW_pure, SW_bind, SW_sizeOf hi, if_neg (by simp [hsz])]
  rcases writeK_inv e with ⟨e0, e2⟩ | ⟨cs, el, room, opn, fz, hg, hf, ⟨hl, e2⟩ | ⟨hl, hl', e2⟩⟩
  · have e1 : (a.eval y').cells.toList = [] := by
      have := hc1.length; rw [e0] at this; simpa using this.symm
    rw [e1]
    exact ⟨_, σ, h, nx, .inr ⟨rfl, rfl⟩, Sub.refl _, H, e2⟩
  · refine storeCells_within hp rfl rfl _ _ 0 H hg hl hf hc1 hc2 rfl fun w' h' => ?_
    exact ⟨_, σ, _, nx, .inr ⟨rfl, rfl⟩, Sub.refl _, h', e2⟩
  · subst hl
    refine storeCells_behind hp rfl rfl _ _ 0 H hg hl' hf hc1 hc2 rfl fun w' h' => ?_
    exact ⟨_, σ, _, nx, .inr ⟨rfl, rfl⟩, Sub.refl _, h', e2⟩
theorem snd_mv (H : AR N0 mla ml vt σ h nx own n0 w) (hr : RegR ml σ regs a) {x : Opd} {x' : Operand} (hx : OpdR x x') (ho : o.op = .move x' ∨ o.op = .assign x')
    (e : exec (.mv x) regs h nx k = some r) : SW P N0 own n0 (execOp a.eval o) w (Out N0 mla ml vt own n0 σ k r) := by
  replace e : hMv x regs h nx k = some r := e
  obtain ⟨v, hv, e⟩ := opd_rel hr hx e
  unfold execOp
  rcases ho with ho | ho <;> simp only [ho] <;> exact out_pure H hv e
/-- A row is made. -/
theorem out_row (H : AR N0 mla ml vt σ h nx own n0 w) {cs : List V} {xs : Array Value} {el : TypeId} (hv : VRL ml σ cs xs.toList) (h1 : ∀ x ∈ xs.toList, OneCell x) {v : V} {u : Value}
    (hu : ∀ σ', Sub σ σ' → σ' nx = some ⟨w.heap.size, 0, 0⟩ → VR ml σ' v u) (e : k v (T.put (some (.row cs el 0 false 0)) nx h) nx.succ = some r) :
    Out N0 mla ml vt own n0 σ k r (.value u) { w with heap := w.heap.push (.cells xs el (0, 0)) } := by
  have hob : ObR ml σ ⟨w.heap.size, 0, 0⟩ (.row cs el 0 false 0) (.cells xs el (0, 0)) := by
    simp only [ObR]
    refine ⟨trivial, fun i v hi => ?_, fun i hi => by omega, fun _ => ⟨trivial, trivial, trivial⟩, .inl trivial, fun z => by cases z⟩
    obtain ⟨x, hx, hxv⟩ := hv.get hi
    have hx' : xs[i]? = some x := by simpa using hx
    exact ⟨x, by simpa using hx', hxv, h1 x (by simpa using Array.mem_of_getElem? hx')⟩
  obtain ⟨σ', s1, s2, s3, s4⟩ := H.new hob
  exact ⟨v, σ', _, _, .inl ⟨u, rfl, hu σ' s1 s2⟩, s1, s3, e⟩
theorem newOb_new {C : Type} {ob : Ob} {h : Heap} {nx : Gb.P} {k : Gb.P → Heap → Gb.P → O C} {r : C} (e : newOb ob h nx k = some r) : k nx (T.put (some ob) nx h) nx.succ = some r := (newOb_inv e).2
theorem snd_alloc (H : AR N0 mla ml vt σ h nx own n0 w) {t : TypeId} {i : TypeInfo} {z : Value} {zs : List V} (hi : P.info? t = some i) (hz : i.zero = some z) (hzs : ∀ σ, VRL ml σ zs z.cells.toList) (h1 : ∀ x ∈ z.cells.toList, OneCell x) (ho : o.op = .alloc t)
    (e : exec (.alloc t zs) regs h nx k = some r) : SW P N0 own n0 (execOp a.eval o) w (Out N0 mla ml vt own n0 σ k r) := by
  replace e : newOb (.row zs t 0 false 0) h nx (fun id h nx => k (.ptr id 0) h nx) = some r := e
  replace e := newOb_new e
  unfold execOp
  simp only [ho, Instr.alloc, newVar, newRow]
  rw [SW_bind, SW_bind, SW_zeroValue hi hz]
  simp only [SW_bind, SW_newObj, SW_pure]
  exact out_row H (hzs σ) h1 (fun σ' s1 s2 => by simp only [VR]; exact ⟨_, s2, by simp⟩) e
theorem snd_box (H : AR N0 mla ml vt σ h nx own n0 w) (hr : RegR ml σ regs a) {x : Opd} {x' : Operand} (hx : OpdR x x') {t : TypeId} {n : Nat} (ho : o.op = .box t x')
    (e : exec (.box t n x) regs h nx k = some r) : SW P N0 own n0 (execOp a.eval o) w (Out N0 mla ml vt own n0 σ k r) := by
  replace e : hBox t n x regs h nx k = some r := e
  obtain ⟨v, hv, e⟩ := opd_rel hr hx e
  obtain ⟨hnt, e⟩ := notup e rfl
  obtain ⟨hn, e⟩ := boolK_inv e
  obtain ⟨hc1, hc2⟩ := cells_rel hv hnt
  replace e := newOb_new e
  unfold execOp
  simp only [ho, Instr.box, newVar, newRow]
  simp only [SW_bind, SW_newObj, SW_pure]
  exact out_row H hc1 hc2 (fun σ' s1 s2 => by simp only [VR]; exact ⟨_, s2, by simp⟩) e
end
end Go.Gb
end
section
/-! Operations, one by one: such as touch no memory. -/
set_option linter.unusedSimpArgs false
set_option linter.unusedVariables false
set_option linter.unusedSectionVars false
namespace Go.Gb
open Go.Conc
theorem kdeq_eq {a b : IntKind} (h : kdeq a b = true) : a = b := by
  cases a <;> cases b <;> first | rfl | cases h
theorem vInt_eq {C : Type} (kd : IntKind) (n : Int) (k : V → O C) : vInt kd n k = k (.int kd n) := by simp [vInt, intK_eq]
theorem vNat_eq {C : Type} (kd : IntKind) (n : Nat) (k : V → O C) : vNat kd n k = k (.int kd n) := by simp [vNat, natK_eq]
theorem vBool_eq {C : Type} (b : Bool) (k : V → O C) : vBool b k = k (.bool b) := by cases b <;> rfl
theorem wrap_low (kd : IntKind) (n : Nat) (h : n ≤ lim kd) : kd.wrap (n : Int) = n := by
  cases kd <;> simp only [lim] at h <;> simp [IntKind.wrap, IntKind.bits, IntKind.signed] <;> omega
theorem wrapN_eq {C : Type} (kd : IntKind) (n : Nat) (k : V → O C) : wrapN kd n k = k (.int kd (kd.wrap n)) := by
  unfold wrapN
  rw [boolK_eq]
  split
  · rename_i h
    rw [vNat_eq, wrap_low kd n (Nat.le_of_ble_eq_true h)]
  · rw [vInt_eq]; rfl
theorem wrapI_eq {C : Type} (kd : IntKind) (n : Int) (k : V → O C) : wrapI kd n k = k (.int kd (kd.wrap n)) := by
  cases n with
  | ofNat n => exact wrapN_eq kd n k
  | negSucc n => exact vInt_eq kd _ k
section
variable {C : Type} {P : Program} {N0 : Nat} {mla : Addr} {ml : Gl} {vt : Vt} {own : Own} {n0 : Nat}
variable {σ : Sg} {h : Heap} {nx : Gb.P} {w : World} {regs : Regs} {a : Act} {k : K C} {r : C} {o : Oper}
theorem numK_inv {v : V} {k : IntKind → Int → O C} {r : C} (e : numK v k = some r) : ∃ kd n, v = .int kd n ∧ k kd n = some r := by
  cases v <;> simp only [numK, reduceCtorEq] at e
  exact ⟨_, _, rfl, e⟩
theorem nat0K_inv {v : V} {k : Nat → O C} {r : C} (e : nat0K v k = some r) : ∃ kd n, v = .int kd (.ofNat n) ∧ k n = some r := by
  cases v <;> simp only [nat0K, reduceCtorEq] at e
  rename_i kd n
  cases n <;> simp only [reduceCtorEq] at e
  exact ⟨_, _, rfl, e⟩
theorem vr_int {kd : IntKind} {n : Int} {u : Value} (hv : VR ml σ (.int kd n) u) : u = .int kd n := by
  cases u <;> simp only [VR] at hv
  rw [hv.1, hv.2]
theorem vr_bool {b : Bool} {u : Value} (hv : VR ml σ (.bool b) u) : u = .bool b := by
  cases u <;> simp only [VR] at hv
  rw [hv]
theorem tfK_inv {v : V} {t e : O C} {r : C} (h : tfK v t e = some r) : ∃ b, v = .bool b ∧ (if b then t else e) = some r := by
  cases v <;> simp only [tfK, reduceCtorEq] at h
  rename_i b
  exact ⟨b, rfl, by cases b <;> exact h⟩
variable (H : AR N0 mla ml vt σ h nx own n0 w) (hr : RegR ml σ regs a)
 include H hr
theorem snd_pick {c x y : Opd} {c' x' y' : Operand} (hc : OpdR c c') (hx : OpdR x x') (hy : OpdR y y') (ho : o.op = .pick c' x' y')
    (e : exec (.pick c x y) regs h nx k = some r) : SW P N0 own n0 (execOp a.eval o) w (Out N0 mla ml vt own n0 σ k r) := by
  replace e : hPick c x y regs h nx k = some r := e
  obtain ⟨v, hv, e⟩ := opd_rel hr hc e
  obtain ⟨b, rfl, e⟩ := tfK_inv e
  have hb := vr_bool hv
  unfold execOp
  simp only [ho, hb, asBool]
  rw [SW_bind, SW_pure, SW_pure]
  cases b with
  | true => obtain ⟨v, hv, e⟩ := opd_rel hr hx e; exact out_pure H hv e
  | false => obtain ⟨v, hv, e⟩ := opd_rel hr hy e; exact out_pure H hv e
theorem snd_convInt {x : Opd} {x' : Operand} (hx : OpdR x x') {s d : TypeId} {sd : TypeDesc} {kd : IntKind} (hs : P.underlying s = some sd) (hd : P.underlying d = some (.int kd)) (ho : o.op = .convert s d x')
    (e : exec (.convInt kd x) regs h nx k = some r) : SW P N0 own n0 (execOp a.eval o) w (Out N0 mla ml vt own n0 σ k r) := by
  replace e : hConvInt kd x regs h nx k = some r := e
  obtain ⟨v, hv, e⟩ := opd_rel hr hx e
  split at e
  · rename_i k1 m r1
    obtain ⟨hk, e2⟩ := boolK_inv e
    have hk := kdeq_eq hk
    subst hk
    generalize hu : a.eval x' = u at hv
    cases u <;> simp only [VR] at hv
    obtain ⟨rfl, rfl, h1, h2⟩ := hv
    unfold execOp
    simp only [ho, hu, convert]
    rw [SW_bind, SW_bind, SW_underlying hs, SW_bind, SW_underlying hd]
    simp only [Conv.intToInt, SW_pure]
    refine out_pure H (v := .par .i64 m r1) ?_ e2
    simp only [VR]
    exact ⟨trivial, wrap_low .i64 ml.par (by simp only [lim]; omega), h1, h2⟩
  obtain ⟨k1, n, rfl, e2⟩ := numK_inv e
  rw [wrapI_eq] at e2
  have hi := vr_int hv
  unfold execOp
  simp only [ho, hi, convert]
  rw [SW_bind, SW_bind, SW_underlying hs, SW_bind, SW_underlying hd]
  simp only [Conv.intToInt, SW_pure]
  exact out_pure H (by simp [VR]) e2
theorem snd_mkifc {x : Opd} {x' : Operand} (hx : OpdR x x') {t : TypeId} {d : TypeDesc} (hd : P.underlying t = some d) (hn : ∀ m, d ≠ .interface m) (ho : o.op = .makeInterface t x')
    (e : exec (.mkifc t x) regs h nx k = some r) : SW P N0 own n0 (execOp a.eval o) w (Out N0 mla ml vt own n0 σ k r) := by
  replace e : hIfc t x regs h nx k = some r := e
  obtain ⟨v, hv, e⟩ := opd_rel hr hx e
  unfold execOp
  simp only [ho, Instr.makeInterface]
  rw [SW_bind, SW_bind, SW_underlying hd]
  cases d <;> first | exact absurd rfl (hn _) | exact out_pure H (v := .ifc t v) (by simp only [VR]; exact ⟨trivial, hv⟩) e
theorem snd_extract {x : Opd} {x' : Operand} (hx : OpdR x x') {i : Nat} (ho : o.op = .extract x' i)
    (e : exec (.extract i x) regs h nx k = some r) : SW P N0 own n0 (execOp a.eval o) w (Out N0 mla ml vt own n0 σ k r) := by
  replace e : hExtract i x regs h nx k = some r := e
  obtain ⟨v, hv, e⟩ := opd_rel hr hx e
  cases v <;> simp only [reduceCtorEq] at e
  rename_i vs
  generalize hu : a.eval x' = u at hv
  cases u <;> simp only [VR] at hv
  rename_i xs
  rw [lhead_eq, ldrop_eq] at e
  unfold execOp
  simp only [ho, hu, Instr.extract]
  cases hd : vs.drop i with
  | nil => rw [hd] at e; cases e
  | cons v l =>
    rw [hd] at e
    have hg : vs[i]? = some v := by
      have := congrArg (fun l => l[0]?) hd
      simpa using this
    obtain ⟨y, hy, hyv⟩ := hv.get hg
    have hy' : xs[i]? = some y := by simpa using hy
    rw [SW_bind, hy', SW_pure]
    exact out_pure H hyv e
theorem snd_not {x : Opd} {x' : Operand} (hx : OpdR x x') {t : TypeId} (ho : o.op = .unOp .not t x')
    (e : exec (.un .not x) regs h nx k = some r) : SW P N0 own n0 (execOp a.eval o) w (Out N0 mla ml vt own n0 σ k r) := by
  replace e : hUn .not x regs h nx k = some r := e
  obtain ⟨v, hv, e⟩ := opd_rel hr hx e
  cases v <;> simp only [reduceCtorEq] at e
  rename_i b
  have hb := vr_bool hv
  unfold execOp
  simp only [ho, hb, Op.unary]
  rw [SW_bind, SW_pure]
  cases b <;> exact out_pure H (by simp [VR]) e
theorem snd_nilchk {x : Opd} {x' : Operand} (hx : OpdR x x') (ho : o.op = .nilCheck x')
    (e : exec (.nilchk x) regs h nx k = some r) : SW P N0 own n0 (execOp a.eval o) w (Out N0 mla ml vt own n0 σ k r) := by
  replace e : hNil x regs h nx k = some r := e
  obtain ⟨v, hv, e⟩ := opd_rel hr hx e
  unfold execOp
  simp only [ho]
  generalize hu : a.eval x' = u at hv
  have key : u ≠ .pointer none ∧ u ≠ .nilIface ∧ u ≠ .nilFunc ∧ (∀ m f c, u ≠ .func (.method m) f c) ∧ k v h nx = some r := by
    cases v with
    | fn f fs cs =>
      cases f <;> simp only [reduceCtorEq] at e <;> refine ⟨?_, ?_, ?_, ?_, e⟩ <;> intros <;> rintro rfl <;> simp [VR] at hv
    | yld i => 
      refine ⟨?_, ?_, ?_, ?_, e⟩ <;> intros <;> rintro rfl <;> simp [VR] at hv
    | unk i =>
      simp only [VR] at hv
      refine ⟨?_, ?_, ?_, ?_, e⟩ <;> intros <;> rw [hv.1] <;> simp
    | _ => simp only [reduceCtorEq] at e <;> refine ⟨?_, ?_, ?_, ?_, e⟩ <;> intros <;> rintro rfl <;> simp [VR] at hv
  obtain ⟨h1, h2, h3, h4, e⟩ := key
  split
  · exact absurd rfl h1
  · exact absurd rfl h2
  · exact absurd rfl h3
  · exact absurd rfl (h4 _ _ _)
  · exact out_pure H hv e
end
end Go.Gb
end
section
/-! Operations, one by one: places, parts, functions, channels. -/
set_option linter.unusedSimpArgs false
set_option linter.unusedVariables false
set_option linter.unusedSectionVars false
namespace Go.Gb
open Go.Conc
section
variable {C : Type} {P : Program} {N0 : Nat} {mla : Addr} {ml : Gl} {vt : Vt} {own : Own} {n0 : Nat}
variable {σ : Sg} {h : Heap} {nx : Gb.P} {w : World} {regs : Regs} {a : Act} {k : K C} {r : C} {o : Oper}
/-- operands, several -/
theorem opds_rel {xs : List Opd} {ys : List Operand} (hr : RegR ml σ regs a) : ∀ {k : List V → O C} {r : C}, xs.length = ys.length → (∀ (i : Nat) x y, xs[i]? = some x → ys[i]? = some y → OpdR x y) → opdsK xs regs k = some r → ∃ vs, VRL ml σ vs (ys.map a.eval) ∧ k vs = some r := by
  induction xs generalizing ys with
  | nil =>
    intro k r hl _ e
    cases ys with
    | nil => exact ⟨[], trivial, e⟩
    | cons y ys => cases hl
  | cons x xs ih =>
    intro k r hl hx e
    cases ys with
    | nil => cases hl
    | cons y ys =>
      obtain ⟨v, hv, e2⟩ := opd_rel (k := fun v => opdsK xs regs fun vs => k (v :: vs)) hr (hx 0 x y rfl rfl) e
      obtain ⟨vs, hvs, e3⟩ := ih (ys := ys) (by simpa using hl) (fun i x' y' h1 h2 => hx (i + 1) x' y' (by simpa using h1) (by simpa using h2)) e2
      exact ⟨v :: vs, ⟨hv, hvs⟩, e3⟩
theorem vr_sl {id : Gb.P} {off len cap : Nat} {u : Value} (hv : VR ml σ (.sl id off len cap) u) : ∃ p, σ id = some p ∧ u = .slice (some ⟨p.bl, p.sh + off, none⟩) len (cap + p.ex) := by
  cases u <;> try simp only [VR] at hv
  rename_i ad _ _
  cases ad <;> simp only [VR] at hv
  obtain ⟨p, hp, e, e1, e2⟩ := hv
  exact ⟨p, hp, by rw [e, e1, e2]⟩
theorem vr_nils {u : Value} (hv : VR ml σ .nils u) : u = .slice none 0 0 := by
  cases u <;> try simp only [VR] at hv
  rename_i ad _ _
  cases ad <;> simp only [VR] at hv
  rw [hv.1, hv.2]
theorem vr_str {n N : Nat} {u : Value} (hv : VR ml σ (.str n N) u) : ∃ s, u = .string s ∧ StrR n N s := by
  cases u <;> simp only [VR] at hv
  exact ⟨_, rfl, hv⟩
variable (H : AR N0 mla ml vt σ h nx own n0 w) (hr : RegR ml σ regs a)
 include H hr
theorem snd_fadd {x : Opd} {x' : Operand} (hx : OpdR x x') {t : TypeId} {fs : Array Field} {i : Nat} {f : Field} {fi : TypeInfo} (ht : P.underlying t = some (.struct fs)) (hf : fs[i]? = some f) (hi : P.info? f.type = some fi) (hz : fi.size ≠ 0) (ho : o.op = .fieldAddr t x' i)
    (e : exec (.fadd f.offset x) regs h nx k = some r) : SW P N0 own n0 (execOp a.eval o) w (Out N0 mla ml vt own n0 σ k r) := by
  replace e : hFadd f.offset x regs h nx k = some r := e
  obtain ⟨v, hv, e1⟩ := opd_rel hr hx e
  obtain ⟨id, off, rfl, e2⟩ := ptrK_inv e1
  rw [natK_eq] at e2
  obtain ⟨p, hp, hy⟩ := vr_ptr hv
  unfold execOp
  simp only [ho, hy, Instr.fieldAt, Instr.sureAddr, fieldPlace]
  rw [SW_bind, SW_bind, SW_underlying ht]
  simp only [hf]
  rw [SW_bind, SW_pure, SW_bind, SW_bind, SW_sizeOf hi, if_neg hz, SW_pure, SW_pure, SW_pure]
  refine out_pure H (v := .ptr id (off + f.offset)) ?_ e2
  rw [add_place rfl]
  simp only [VR]
  exact ⟨p, hp, by simp [Nat.add_assoc]⟩
theorem snd_mkfn {xs ys : List Opd} {xs' ys' : Array Operand} {f : Fn} (hf : ∀ l, f ≠ .yield l) (hx : xs.length = xs'.size ∧ ∀ (i : Nat) x y, xs[i]? = some x → xs'.toList[i]? = some y → OpdR x y) (hy : ys.length = ys'.size ∧ ∀ (i : Nat) x y, ys[i]? = some x → ys'.toList[i]? = some y → OpdR x y)
    (ho : o.op = .makeFunc f xs' ys') (e : exec (.mkfn f xs ys) regs h nx k = some r) : SW P N0 own n0 (execOp a.eval o) w (Out N0 mla ml vt own n0 σ k r) := by
  replace e : hFn f xs ys regs h nx k = some r := e
  obtain ⟨vs, hvs, e1⟩ := opds_rel (ys := xs'.toList) hr (by simpa using hx.1) hx.2 e
  obtain ⟨us, hus, e2⟩ := opds_rel (ys := ys'.toList) hr (by simpa using hy.1) hy.2 e1
  unfold execOp
  simp only [ho, Instr.makeFunc]
  rw [SW_bind, SW_pure]
  exact out_pure H (v := .fn f vs us) (by simp only [VR]; exact ⟨trivial, hf, by simpa using hvs, by simpa using hus⟩) e2
theorem snd_mkmap {t : TypeId} (ho : o.op = .makeMap t none) (e : exec .mkmap regs h nx k = some r) : SW P N0 own n0 (execOp a.eval o) w (Out N0 mla ml vt own n0 σ k r) := by
  replace e : newOb (.map [] 0) h nx (fun id h nx => k (.map id) h nx) = some r := e
  replace e := newOb_new e
  have hob : ObR ml σ ⟨w.heap.size, 0, 0⟩ (.map [] 0) (.map #[] 0) := by simp [ObR]
  obtain ⟨σ', s1, s2, s3, s4⟩ := H.new hob
  unfold execOp
  simp only [ho, Instr.makeMap, Option.map_none]
  simp only [SW_bind, SW_newObj, SW_pure]
  exact ⟨_, σ', _, _, .inl ⟨_, rfl, by simp only [VR]; exact ⟨_, s2, rfl⟩⟩, s1, s3, e⟩
theorem snd_mkchan {c : Opd} {c' : Operand} (hc : OpdR c c') {t el : TypeId} {i : TypeInfo} {dr : ChanDir} (ht : P.underlying t = some (.chan dr el)) (hi : P.info? el = some i) (hb : ∀ n : Nat, n ≤ 1048576 → (i.bytes : Int) * n ≤ 2 ^ 48 - 112) (ho : o.op = .makeChan t c')
    (e : exec (.mkchan c) regs h nx k = some r) : SW P N0 own n0 (execOp a.eval o) w (Out N0 mla ml vt own n0 σ k r) := by
  replace e : hMkchan c regs h nx k = some r := e
  obtain ⟨v, hv, e1⟩ := opd_rel hr hc e
  obtain ⟨kd, n, rfl, e2⟩ := nat0K_inv e1
  obtain ⟨hn, e2⟩ := boolK_inv e2
  replace hn := Nat.le_of_ble_eq_true hn
  replace e2 := newOb_new e2
  have hi' := vr_int hv
  have hob : ObR ml σ ⟨w.heap.size, 0, 0⟩ (.chan n [] false 0 0) (.chan n #[] false 0 0 false) := by simp [ObR, VRL]
  obtain ⟨σ', s1, s2, s3, s4⟩ := H.new hob
  unfold execOp
  simp only [ho, Instr.makeChan, hi', asInt, asIntOf]
  have hcond : ¬ ((Int.ofNat n) < 0 ∨ (Int.ofNat n) > IntKind.i64.max ∨ (i.bytes : Int) * (Int.ofNat n) > 2 ^ 48 - 112) := by
    have h1 := hb n hn
    have h2 : IntKind.i64.max = 9223372036854775807 := by decide
    rw [h2]
    intro hx
    rcases hx with hx | hx | hx
    · exact absurd hx (by simp)
    · have : (n : Int) > 9223372036854775807 := hx
      omega
    · have : (i.bytes : Int) * (n : Int) > 2 ^ 48 - 112 := hx
      omega
  simp only [SW_bind, SW_pure, SW_underlying ht, SW_typeInfo hi, if_neg hcond, SW_newObj]
  exact ⟨_, σ', _, _, .inl ⟨_, rfl, by simp only [VR]; exact ⟨_, s2, rfl⟩⟩, s1, s3, e2⟩
end
end Go.Gb
end
section
/-! Operations, one by one: elements, lengths, assertions. -/
set_option linter.unusedSimpArgs false
set_option linter.unusedVariables false
set_option linter.unusedSectionVars false
namespace Go.Gb
open Go.Conc
section
variable {C : Type} {P : Program} {N0 : Nat} {mla : Addr} {ml : Gl} {vt : Vt} {own : Own} {n0 : Nat}
variable {σ : Sg} {h : Heap} {nx : Gb.P} {w : World} {regs : Regs} {a : Act} {k : K C} {r : C} {o : Oper}
theorem zidxK_rel {i : Opd} {i' : Operand} {len : Nat} {k : Nat → O C} {r : C} (hr : RegR ml σ regs a) (hi : OpdR i i') (e : zidxK i len regs k = some r) : ∃ kd n, a.eval i' = .int kd (.ofNat n) ∧ n < len ∧ k n = some r := by
  obtain ⟨v, hv, e1⟩ := opd_rel hr hi e
  obtain ⟨kd, n, rfl, e2⟩ := nat0K_inv e1
  obtain ⟨h1, e3⟩ := boolK_inv e2
  exact ⟨kd, n, vr_int hv, Nat.le_of_ble_eq_true h1, e3⟩
theorem partK_rel {cs : List V} {xs : Array Value} {off : Nat} {t : TypeId} {d : TypeDesc} {i : TypeInfo} {k : V → O C} {r : C} {Q : Value → World → Prop} (hv : VRL ml σ cs xs.toList) (h1 : ∀ x ∈ xs.toList, OneCell x) (hd : P.underlying t = some d) (hi : P.info? t = some i)
    (e : partK cs off i.size (aggD d) k = some r) (hQ : ∀ v u, VR ml σ v u → k v = some r → Q u w) : SW P N0 own n0 (part t xs off) w Q := by
  unfold part
  rw [SW_bind, SW_isAgg hd]
  unfold partK at e
  cases hag : aggD d with
  | true =>
    rw [hag] at e
    replace e : ltakeK i.size (ldrop off cs) (fun r => boolK (Nat.beq (llen r 0) i.size) (k (.agg r)) none) = some r := e
    rw [ltakeK_eq, ldrop_eq] at e
    obtain ⟨hl, e2⟩ := boolK_inv e
    simp only [if_true]
    rw [SW_bind, SW_sizeOf hi, SW_pure]
    refine hQ _ _ ?_ e2
    simp only [VR]
    have hx : (xs.extract off (off + i.size)).toList = (xs.toList.drop off).take i.size := by simp
    rw [hx]
    refine ⟨?_, fun x hx => h1 x (List.mem_of_mem_drop (List.mem_of_mem_take hx))⟩
    have drop : ∀ (n : Nat) {as : List V} {bs : List Value}, VRL ml σ as bs → VRL ml σ (as.drop n) (bs.drop n) := by
      intro n
      induction n with
      | zero => intro as bs h; exact h
      | succ n ih =>
        intro as bs h
        match as, bs, h with
        | [], [], _ => trivial
        | _ :: as, _ :: bs, h => exact ih h.2
    have take : ∀ (n : Nat) {as : List V} {bs : List Value}, VRL ml σ as bs → VRL ml σ (as.take n) (bs.take n) := by
      intro n
      induction n with
      | zero => intro as bs h; trivial
      | succ n ih =>
        intro as bs h
        match as, bs, h with
        | [], [], _ => trivial
        | _ :: as, _ :: bs, h => exact ⟨h.1, ih h.2⟩
    exact take _ (drop _ hv)
  | false =>
    rw [hag] at e
    replace e : lhead (ldrop off cs) none k = some r := e
    rw [lhead_eq, ldrop_eq] at e
    simp only [Bool.false_eq_true, if_false]
    cases hd : cs.drop off with
    | nil => rw [hd] at e; cases e
    | cons v l =>
      rw [hd] at e
      have hg : cs[off]? = some v := by
        have := congrArg (fun l => l[0]?) hd
        simpa using this
      obtain ⟨y, hy, hyv⟩ := hv.get hg
      have hy' : xs[off]? = some y := by simpa using hy
      rw [hy']
      exact hQ _ _ hyv e
variable (H : AR N0 mla ml vt σ h nx own n0 w) (hr : RegR ml σ regs a)
 include H hr
theorem snd_fld {x : Opd} {x' : Operand} (hx : OpdR x x') {t : TypeId} {fs : Array Field} {i : Nat} {f : Field} {d : TypeDesc} {fi : TypeInfo} (ht : P.underlying t = some (.struct fs)) (hf : fs[i]? = some f) (hd : P.underlying f.type = some d) (hi : P.info? f.type = some fi) (ho : o.op = .field t x' i)
    (e : exec (.fld f.offset fi.size (aggD d) x) regs h nx k = some r) : SW P N0 own n0 (execOp a.eval o) w (Out N0 mla ml vt own n0 σ k r) := by
  replace e : hFld f.offset fi.size (aggD d) x regs h nx k = some r := e
  obtain ⟨v, hv, e1⟩ := opd_rel hr hx e
  cases v <;> simp only [reduceCtorEq] at e1
  rename_i cs
  generalize hu : a.eval x' = u at hv
  cases u <;> simp only [VR] at hv
  unfold execOp
  simp only [ho, hu, Instr.field]
  rw [SW_bind, SW_bind, SW_underlying ht]
  simp only [hf, asAgg]
  rw [SW_bind, SW_pure]
  exact partK_rel hv.1 hv.2 hd hi e1 fun v u h1 h2 => by rw [SW_pure]; exact out_pure H h1 h2
theorem snd_ixaV {x i : Opd} {x' i' : Operand} (hx : OpdR x x') (hi : OpdR i i') {t el : TypeId} {ei : TypeInfo} (ht : P.underlying t = some (.slice el)) (he : P.info? el = some ei) (ho : o.op = .indexAddr t x' i')
    (e : exec (.ixaV ei.size x i) regs h nx k = some r) : SW P N0 own n0 (execOp a.eval o) w (Out N0 mla ml vt own n0 σ k r) := by
  replace e : hIxaV ei.size x i regs h nx k = some r := e
  obtain ⟨v, hv, e1⟩ := opd_rel hr hx e
  cases v <;> simp only [reduceCtorEq] at e1
  rename_i id off len cap
  obtain ⟨kd, n, hn, hlt, e2⟩ := zidxK_rel hr hi e1
  rw [natK_eq] at e2
  obtain ⟨p, hp, hy⟩ := vr_sl hv
  unfold execOp
  simp only [ho, hy, hn, Instr.indexAt, asIntOf]
  have hlt' : (0 : Int) ≤ Int.ofNat n ∧ (Int.ofNat n) < (len : Int) := ⟨by simp, by simpa using hlt⟩
  simp only [SW_bind, SW_pure, SW_underlying ht, if_pos hlt', SW_sizeOf he]
  refine out_pure H (v := .ptr id (off + n * ei.size)) ?_ e2
  rw [add_place rfl]
  simp only [VR]
  exact ⟨p, hp, by simp [Nat.add_assoc]⟩
 omit H hr in
/-- a builtin: its own program -/
theorem SW_builtin {c : Call} {b : Builtin} {Q : Next → World → Prop} (hc : c.callee = .builtin b) (ho : o.op = .call c)
    (hq : ∀ consts, SW P N0 own n0 (builtin b c.argTypes o.type consts (c.args.map a.eval)) w Q) : SW P N0 own n0 (execOp a.eval o) w Q := by
  unfold execOp
  simp only [ho, resolve, hc]
  rw [SW_bind, SW_pure]
  exact hq _
 omit H hr in
theorem map_one (f : Operand → Value) (x : Operand) : (#[x] : Array Operand).map f = #[f x] := by simp
theorem snd_lenS {x : Opd} {x' : Operand} (hx : OpdR x x') {c : Call} {t : TypeId} (hc : c.callee = .builtin .len) (hargs : c.args = #[x']) (hat : c.argTypes = #[t]) (ht : P.underlying t = some .string) (ho : o.op = .call c)
    (e : opdK x regs (fun v => strK v fun n _ => k (.int .i64 (.ofNat n)) h nx) = some r) : SW P N0 own n0 (execOp a.eval o) w (Out N0 mla ml vt own n0 σ k r) := by
  obtain ⟨v, hv, e1⟩ := opd_rel hr hx e
  refine SW_builtin hc ho fun consts => ?_
  rw [hat, hargs, map_one]
  cases v <;> simp only [strK, reduceCtorEq] at e1
  obtain ⟨s, hs, hs'⟩ := vr_str hv
  rw [hs]
  unfold builtin Builtin.len_
  simp only [List.getElem?_toArray, List.getElem?_cons_zero]
  simp only [SW_bind, SW_underlying ht, SW_pure]
  exact out_pure H (by simp only [VR, goInt]; exact ⟨trivial, by rw [hs'.1]; rfl⟩) e1
theorem snd_lenV {x : Opd} {x' : Operand} (hx : OpdR x x') {c : Call} {t el : TypeId} (hc : c.callee = .builtin .len) (hargs : c.args = #[x']) (hat : c.argTypes = #[t]) (ht : P.underlying t = some (.slice el)) (ho : o.op = .call c)
    (e : opdK x regs (fun v => (match v with | .nils => k (.int .i64 (.ofNat 0)) h nx | .sl _ _ n _ => k (.int .i64 (.ofNat n)) h nx | _ => none)) = some r) : SW P N0 own n0 (execOp a.eval o) w (Out N0 mla ml vt own n0 σ k r) := by
  obtain ⟨v, hv, e1⟩ := opd_rel hr hx e
  refine SW_builtin hc ho fun consts => ?_
  rw [hat, hargs, map_one]
  cases v <;> simp only [reduceCtorEq] at e1
  · obtain ⟨p, hp, hs⟩ := vr_sl hv
    rw [hs]
    unfold builtin Builtin.len_
    simp only [List.getElem?_toArray, List.getElem?_cons_zero]
    simp only [SW_bind, SW_underlying ht, SW_pure]
    exact out_pure H (by simp only [VR, goInt]; exact ⟨trivial, rfl⟩) e1
  · have hs := vr_nils hv
    rw [hs]
    unfold builtin Builtin.len_
    simp only [List.getElem?_toArray, List.getElem?_cons_zero]
    simp only [SW_bind, SW_underlying ht, SW_pure]
    exact out_pure H (by simp only [VR, goInt]; exact ⟨trivial, rfl⟩) e1
end
end Go.Gb
end
