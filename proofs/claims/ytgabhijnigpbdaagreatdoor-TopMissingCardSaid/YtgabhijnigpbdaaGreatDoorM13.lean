/- A part of the proof of the statement Rows.TopMissingCardSaid (at every argument the law returns true on every schedule, and its argument reads as before; the listed variables as laid). This text: a stepper over symbolic states of the translated program and its soundness, part 13 of 41. -/
import Derived.Test.YtgabhijnigpbdaaGreatDoorM12
section
/-! Operations, one by one: maps looked up and written; iterators. -/
set_option linter.unusedSimpArgs false
set_option linter.unusedVariables false
set_option linter.unusedSectionVars false
namespace Go.Gb
open Go.Conc
section
variable {C : Type} {P : Program} {N0 : Nat} {mla : Addr} {ml : Gl} {vt : Vt} {own : Own} {n0 : Nat}
variable {σ : Sg} {h : Heap} {nx : Gb.P} {w : World} {regs : Regs} {a : Act} {k : K C} {r : C} {o : Oper}
theorem SW_getObj {b : Nat} {ob : Obj} (hb : w.heap[b]? = some ob) (hn : NotCells ob) (hm : mine own n0 w b) {Q : Obj → World → Prop} (hq : Q ob w) : SW P N0 own n0 (getObj b) w Q := ⟨ob, hb, hn, hm, hq⟩
theorem SW_setObj {b : Nat} {ob ob' : Obj} (hb : w.heap[b]? = some ob) (hn : NotCells ob) (hm : mine own n0 w b) (hc : ob.isChan = ob'.isChan) {Q : Unit → World → Prop} (hq : Q () { w with heap := w.heap.setIfInBounds b ob' }) : SW P N0 own n0 (setObj b ob') w Q := ⟨ob, hb, hn, hm, hc, hq⟩
theorem SW_setMap {b : Nat} {xs xs' : Array MapEntry} {clk clk' : Nat} (hb : w.heap[b]? = some (.map xs clk)) (hm : mine own n0 w b) {Q : Unit → World → Prop} (hq : Q () { w with heap := w.heap.setIfInBounds b (.map xs' clk') }) : SW P N0 own n0 (setObj b (.map xs' clk')) w Q := ⟨_, hb, trivial, hm, rfl, hq⟩
theorem vr_map {id : Gb.P} {u : Value} (hv : VR ml σ (.map id) u) : ∃ p, σ id = some p ∧ u = .map (some p.bl) := by
  cases u <;> try simp only [VR] at hv
  rename_i m; cases m <;> simp only [VR] at hv
  obtain ⟨p, h1, h2⟩ := hv
  exact ⟨p, h1, by rw [h2]⟩
theorem vr_nilm {u : Value} (hv : VR ml σ .nilm u) : u = .map none := by
  cases u <;> try simp only [VR] at hv
  rename_i m; cases m <;> simp_all [VR]
theorem mapK_inv {v : V} {k : Gb.P → List (V × V × Nat) → Nat → O C} {r : C} (e : mapK v h k = some r) : ∃ id es clk, v = .map id ∧ T.get id h = some (.map es clk) ∧ k id es clk = some r := by
  cases v <;> simp only [mapK, reduceCtorEq] at e
  obtain ⟨o, ho, e2⟩ := getOb_inv e
  cases o <;> simp only [reduceCtorEq] at e2
  exact ⟨_, _, _, rfl, ho, e2⟩
theorem map_at (H : AR N0 mla ml vt σ h nx own n0 w) {id : Gb.P} {p : Pl} {es : List (V × V × Nat)} {clk : Nat} (hp : σ id = some p) (ho : T.get id h = some (.map es clk)) : ∃ xs, w.heap[p.bl]? = some (.map xs clk) ∧ EnR ml σ es xs.toList ∧ mine own n0 w p.bl := by
  obtain ⟨o, h1, h2⟩ := H.obs id p _ hp ho
  cases o <;> simp only [ObR] at h2
  rename_i xs clk'
  have h3 : ObR ml σ p (.map es clk) (.map xs clk') := by simp only [ObR]; exact h2
  obtain ⟨h4, h5⟩ := h3.enR
  exact ⟨xs, by rw [h1, h4], h5, H.has id p _ hp ho⟩
/-- A map is laid anew. -/
theorem map_put (H : AR N0 mla ml vt σ h nx own n0 w) {id : Gb.P} {p : Pl} {es es' : List (V × V × Nat)} {clk clk' : Nat} {xs' : Array MapEntry} (hp : σ id = some p) (ho : T.get id h = some (.map es clk)) (hr : EnR ml σ es' xs'.toList) :
    AR N0 mla ml vt σ (T.put (some (.map es' clk')) id h) nx own n0 { w with heap := w.heap.setIfInBounds p.bl (.map xs' clk') } := by
  obtain ⟨xs, h1, _, _⟩ := map_at H hp ho
  have hl := (Array.getElem?_eq_some_iff.1 h1).1
  exact H.put hp ho (o' := .map xs' clk') hr.obR (by simp [hl]) (fun b hb => Array.getElem?_setIfInBounds_ne (Ne.symm hb)) (by simp)
theorem EnR.mono {σ' : Sg} (hs : Sub σ σ') {es : List (V × V × Nat)} : ∀ {xs : List MapEntry}, EnR ml σ es xs → EnR ml σ' es xs := by
  induction es with
  | nil => intro xs h; cases xs with | nil => trivial | cons => exact h.elim
  | cons e es ih => intro xs h; cases xs with | nil => exact h.elim | cons x xs => exact ⟨⟨VR.mono hs _ _ h.1.1, VR.mono hs _ _ h.1.2.1, h.1.2.2⟩, ih h.2⟩
theorem EnR.modify {es : List (V × V × Nat)} : ∀ {xs : List MapEntry} {j : Nat} {e' : V × V × Nat} {f : MapEntry → MapEntry} {x : MapEntry}, EnR ml σ es xs → xs[j]? = some x → (VR ml σ e'.1 (f x).key ∧ VR ml σ e'.2.1 (f x).val ∧ (f x).born = e'.2.2) → EnR ml σ (es.take j ++ [e'] ++ es.drop (j + 1)) (xs.modify j f) := by
  induction es with
  | nil => intro xs j e' f x h hx; cases xs with | nil => simp at hx | cons => exact h.elim
  | cons e es ih =>
    intro xs j e' f x h hx hf
    cases xs with
    | nil => exact h.elim
    | cons y xs =>
      cases j with
      | zero => simp at hx; subst hx; simpa using ⟨hf, h.2⟩
      | succ j =>
        have := ih (j := j) h.2 (by simpa using hx) hf
        simp only [List.take_succ_cons, List.drop_succ_cons, List.modify_succ_cons, List.cons_append]
        exact ⟨h.1, this⟩
theorem okV_rel {ok b : Bool} {v : V} {u : Value} (hv : VR ml σ v u) : VR ml σ (okV ok v b) (if ok then .tuple #[u, .bool b] else u) := by
  cases ok
  · exact hv
  · exact vr_tup2 hv (by simp [VR])
variable (H : AR N0 mla ml vt σ h nx own n0 w) (hr : RegR ml σ regs a)
 include H hr
theorem snd_lookup {c : EqC} {m x : Opd} {m' x' : Operand} {ok : Bool} (hm : OpdR m m') (hx : OpdR x x') {t kt el : TypeId} {ei : TypeInfo} {z : Value} {zv : V} (ht : P.underlying t = some (.map kt el)) (hc : EqT P c kt) (he : P.info? el = some ei) (hz : ei.zero = some z) (hzv : ∀ σ, VR ml σ zv z) (ho : o.op = .lookup t m' x' ok)
    (e : exec (.lookup c zv m x ok) regs h nx k = some r) : SW P N0 own n0 (execOp a.eval o) w (Out N0 mla ml vt own n0 σ k r) := by
  replace e : hLookup c zv m x ok regs h nx k = some r := e
  obtain ⟨mv, hmv, e1⟩ := opd_rel hr hm e
  obtain ⟨kv, hkv, e2⟩ := opd_rel hr hx e1
  obtain ⟨e3, hkc, hkl⟩ := keyK_inv e2
  unfold execOp
  simp only [ho, Instr.lookup]
  rw [SW_bind, SW_bind, SW_underlying ht]
  have fin : ∀ (es : List (V × V × Nat)) (xs : List MapEntry), EnR ml σ es xs → ∀ em : Bool, findK c kv es 0 (k (okV ok zv false) h nx) (fun _ e => k (okV ok e.2.1 true) h nx) = some r →
      SW P N0 own n0 (do
        Instr.checkKey em 10000 kt (a.eval x')
        let (v, ok') ← match ← Instr.findKey kt (a.eval x') xs with
          | some (_, v) => pure (v, true)
          | none => pure (← zeroValue el, false)
        pure (if ok then .tuple #[v, .bool ok'] else v)) w (fun u w' => Out N0 mla ml vt own n0 σ k r (.value u) w') := by
    intro es xs hen em hf
    rw [SW_bind]
    refine check_rel hkc hc hkv hkl ?_
    rw [SW_bind]
    refine find_rel hkc hc hkv hen hf fun res hres => ?_
    rcases hres with ⟨rfl, hno⟩ | ⟨j, e0, x0, h1, h2, rfl, h4, _⟩
    · simp only [SW_bind, SW_zeroValue he hz, SW_pure]
      exact out_pure H (okV_rel (hzv σ)) hno
    · simp only [SW_pure]
      obtain ⟨y, q1, q2, q3, _⟩ := hen.get h1
      rw [h2] at q1; cases q1
      exact out_pure H (okV_rel q3) h4
  by_cases hnil : mv = .nilm
  · subst hnil
    rw [vr_nilm hmv]
    simp only [SW_bind, SW_pure]
    have := fin [] [] trivial (#[] : Array MapEntry).isEmpty e3
    rw [SW_bind] at this
    refine SW.mono this fun _ _ h => ?_
    rw [SW_bind] at h
    exact SW.mono h fun res _ h2 => by rcases res with _ | ⟨_, _⟩ <;> exact h2
  · have e4 : mapK mv h (fun _ es _ => findK c kv es 0 (k (okV ok zv false) h nx) fun _ e => k (okV ok e.2.1 true) h nx) = some r := by
      cases mv <;> first | exact e3 | exact absurd rfl hnil
    obtain ⟨id, es, clk, rfl, hid, e5⟩ := mapK_inv e4
    obtain ⟨p, hp, hy⟩ := vr_map hmv
    obtain ⟨xs, g1, g2, g3⟩ := map_at H hp hid
    rw [hy]
    simp only [SW_bind]
    refine SW_getObj g1 trivial g3 ?_
    simp only [SW_bind, SW_pure]
    have := fin es xs.toList g2 xs.isEmpty e5
    rw [SW_bind] at this
    refine SW.mono this fun _ _ h => ?_
    rw [SW_bind] at h
    exact SW.mono h fun res _ h2 => by rcases res with _ | ⟨_, _⟩ <;> exact h2
 omit H hr in
theorem SW_keyStays {old new : Value} (h : Instr.sameBits 10000 old new = true) {Q : Value → World → Prop} (hq : Q new w) : SW P N0 own n0 (Instr.keyThatStays old new) w Q := by
  unfold Instr.keyThatStays
  rw [if_pos h]; exact hq
theorem snd_mapupd {c : EqC} {m x y : Opd} {m' x' y' : Operand} (hm : OpdR m m') (hx : OpdR x x') (hy : OpdR y y') {t kt el : TypeId} (ht : P.underlying t = some (.map kt el)) (hc : EqT P c kt) (ho : o.op = .mapUpdate t m' x' y' ∨ o.op = .insert t m' x' y')
    (e : exec (.mapupd c m x y) regs h nx k = some r) : SW P N0 own n0 (execOp a.eval o) w (Out N0 mla ml vt own n0 σ k r) := by
  replace e : hMapupd c m x y regs h nx k = some r := e
  obtain ⟨mv, hmv, e1⟩ := opd_rel hr hm e
  obtain ⟨kv, hkv, e2⟩ := opd_rel hr hx e1
  obtain ⟨xv, hxv, e3⟩ := opd_rel hr hy e2
  obtain ⟨e4, hkc, hkl⟩ := keyK_inv e3
  obtain ⟨id, es, clk, rfl, hid, e5⟩ := mapK_inv e4
  obtain ⟨p, hp, hpy⟩ := vr_map hmv
  obtain ⟨xs, g1, g2, g3⟩ := map_at H hp hid
  have main : SW P N0 own n0 (Instr.mapUpdate t (a.eval m') (a.eval x') (a.eval y')) w (fun _ w' => Out N0 mla ml vt own n0 σ k r .skip w') := by
    unfold Instr.mapUpdate
    rw [SW_bind, SW_underlying ht, hpy]
    simp only
    rw [SW_bind]
    refine SW_getObj g1 trivial g3 ?_
    simp only
    rw [SW_bind]
    refine check_rel hkc hc hkv hkl ?_
    rw [SW_bind]
    refine find_rel hkc hc hkv g2 e5 fun res hres => ?_
    rcases hres with ⟨rfl, hno⟩ | ⟨j, e0, x0, h1, h2, rfl, h4, h5, h6⟩
    · simp only
      refine SW_setMap g1 g3 ?_
      rw [lappK_eq, natK_eq, T.putK_eq] at hno
      exact ⟨_, σ, _, nx, .inr ⟨rfl, rfl⟩, Sub.refl _, map_put H hp hid (xs' := xs.push { key := a.eval x', val := a.eval y', born := clk }) (by simpa using g2.append (es' := [(kv, xv, clk)]) (xs' := [{ key := a.eval x', val := a.eval y', born := clk }]) ⟨⟨hkv, hxv, rfl⟩, trivial⟩), hno⟩
    · simp only [Nat.zero_add] at h4 ⊢
      have hx0 : xs[j]? = some x0 := by simpa using h2
      rw [hx0]
      simp only [Option.map_some, Option.getD_some, SW_bind]
      refine SW_keyStays (by rw [h5]; exact sameBits_key h6) ?_
      refine SW_setMap g1 g3 ?_
      obtain ⟨_, h7⟩ := lwriteK_inv _ _ _ _ _ h4
      rw [T.putK_eq] at h7
      obtain ⟨y0, q1, q2, q3, q4⟩ := g2.get h1
      rw [h2] at q1; cases q1
      refine ⟨_, σ, _, nx, .inr ⟨rfl, rfl⟩, Sub.refl _, map_put H hp hid (xs' := xs.modify j fun e => { e with key := a.eval x', val := a.eval y' }) ?_, h7⟩
      rw [Array.toList_modify]
      exact g2.modify h2 ⟨hkv, hxv, q4⟩
  unfold execOp
  rcases ho with ho | ho <;> simp only [ho] <;> rw [SW_bind] <;> exact SW.mono main fun _ _ h => h
theorem snd_mentry {c : EqC} {m x : Opd} {m' x' : Operand} (hm : OpdR m m') (hx : OpdR x x') {t kt el : TypeId} {ei : TypeInfo} {z : Value} {zv : V} (ht : P.underlying t = some (.map kt el)) (hc : EqT P c kt) (he : P.info? el = some ei) (hz : ei.zero = some z) (hzv : ∀ σ, VR ml σ zv z) (ho : o.op = .mapEntry t m' x')
    (e : exec (.mentry c zv m x) regs h nx k = some r) : SW P N0 own n0 (execOp a.eval o) w (Out N0 mla ml vt own n0 σ k r) := by
  replace e : hMentry c zv m x regs h nx k = some r := e
  obtain ⟨mv, hmv, e1⟩ := opd_rel hr hm e
  obtain ⟨kv, hkv, e2⟩ := opd_rel hr hx e1
  obtain ⟨e4, hkc, hkl⟩ := keyK_inv e2
  obtain ⟨id, es, clk, rfl, hid, e5⟩ := mapK_inv e4
  obtain ⟨p, hp, hpy⟩ := vr_map hmv
  obtain ⟨xs, g1, g2, g3⟩ := map_at H hp hid
  unfold execOp
  simp only [ho, Instr.mapEntry]
  rw [SW_bind, SW_bind, SW_underlying ht, hpy]
  simp only
  rw [SW_bind]
  refine SW_getObj g1 trivial g3 ?_
  simp only
  rw [SW_bind]
  refine check_rel hkc hc hkv hkl ?_
  rw [SW_bind]
  refine find_rel hkc hc hkv g2 e5 fun res hres => ?_
  rcases hres with ⟨rfl, hno⟩ | ⟨j, e0, x0, h1, h2, rfl, h4, h5, h6⟩
  · simp only [SW_bind, SW_zeroValue he hz]
    refine SW_setMap g1 g3 ?_
    rw [lappK_eq, natK_eq, T.putK_eq] at hno
    simp only [SW_pure]
    exact ⟨_, σ, _, nx, .inl ⟨_, rfl, vr_tup2 (hzv σ) (by simp only [VR, goInt]; exact ⟨trivial, rfl⟩)⟩, Sub.refl _, map_put H hp hid (xs' := xs.push { key := a.eval x', val := z, born := clk }) (by simpa using g2.append (es' := [(kv, zv, clk)]) (xs' := [{ key := a.eval x', val := z, born := clk }]) ⟨⟨hkv, hzv σ, rfl⟩, trivial⟩), hno⟩
  · simp only [Nat.zero_add] at h4 ⊢
    have hx0 : xs[j]? = some x0 := by simpa using h2
    rw [hx0]
    simp only [Option.map_some, Option.getD_some, SW_bind]
    refine SW_keyStays (by rw [h5]; exact sameBits_key h6) ?_
    refine SW_setMap g1 g3 ?_
    obtain ⟨_, h7⟩ := lwriteK_inv _ _ _ _ _ h4
    rw [T.putK_eq] at h7
    obtain ⟨y0, q1, q2, q3, q4⟩ := g2.get h1
    rw [h2] at q1; cases q1
    simp only [SW_pure]
    refine ⟨_, σ, _, nx, .inl ⟨_, rfl, vr_tup2 q3 (by simp only [VR, goInt]; exact ⟨trivial, by rw [q4]; rfl⟩)⟩, Sub.refl _, map_put H hp hid (xs' := xs.modify j fun e => { e with key := a.eval x' }) ?_, h7⟩
    rw [Array.toList_modify]
    exact g2.modify h2 ⟨hkv, q3, q4⟩
 omit H hr in
theorem stampK_inv {b : Nat} {kk : Nat → V × V × Nat → O C} {r : C} : ∀ (es : List (V × V × Nat)) (xs : List MapEntry) (i : Nat), EnR ml σ es xs → stampK b es i kk = some r →
    ∃ j e x, es[j]? = some e ∧ xs[j]? = some x ∧ kk (i + j) e = some r ∧ xs.findIdx? (fun e => (e.born : Int) == (b : Int)) = some j ∧ xs.find? (·.born == b) = some x ∧ (VR ml σ e.1 x.key ∧ VR ml σ e.2.1 x.val ∧ x.born = e.2.2)
  | [], _, i, _, e => by cases e
  | e0 :: es, x0 :: xs, i, hen, e => by
    replace e : boolK (Nat.beq e0.2.2 b) (kk i e0) (natK (Nat.add i 1) fun i => stampK b es i kk) = some r := e
    rcases boolK_cases e with ⟨hb, e2⟩ | ⟨hb, e2⟩
    · have hb := Nat.eq_of_beq_eq_true hb
      have : x0.born = b := by rw [hen.1.2.2]; exact hb
      exact ⟨0, e0, x0, rfl, rfl, e2, by simp [List.findIdx?_cons, this], by simp [this], hen.1⟩
    · have hb := Nat.ne_of_beq_eq_false hb
      rw [natK_eq] at e2
      obtain ⟨j, e1, x1, h1, h2, h3, h4, h5, h6⟩ := stampK_inv es xs (i + 1) hen.2 e2
      have hne : ¬ x0.born = b := by rw [hen.1.2.2]; exact hb
      refine ⟨j + 1, e1, x1, by simpa using h1, by simpa using h2, by rw [show i + (j + 1) = Nat.add i 1 + j by show i + (j + 1) = i + 1 + j; omega]; exact h3, ?_, ?_, h6⟩
      · have : ((x0.born : Int) == (b : Int)) = false := by simp; omega
        simp [List.findIdx?_cons, this, h4]
      · have : (x0.born == b) = false := by simp [hne]
        simp [this, h5]
theorem snd_estore {m s y : Opd} {m' s' y' : Operand} (hm : OpdR m m') (hs : OpdR s s') (hy : OpdR y y') {t : TypeId} (ho : o.op = .entryStore t m' s' y')
    (e : exec (.estore m s y) regs h nx k = some r) : SW P N0 own n0 (execOp a.eval o) w (Out N0 mla ml vt own n0 σ k r) := by
  replace e : hEstore m s y regs h nx k = some r := e
  obtain ⟨mv, hmv, e1⟩ := opd_rel hr hm e
  obtain ⟨sv, hsv, e2⟩ := opd_rel hr hs e1
  obtain ⟨kd, b, rfl, e3⟩ := nat0K_inv e2
  obtain ⟨xv, hxv, e4⟩ := opd_rel hr hy e3
  obtain ⟨id, es, clk, rfl, hid, e5⟩ := mapK_inv e4
  obtain ⟨p, hp, hpy⟩ := vr_map hmv
  obtain ⟨xs, g1, g2, g3⟩ := map_at H hp hid
  obtain ⟨j, e0, x0, h1, h2, h3, h4, h5, h6⟩ := stampK_inv es xs.toList 0 g2 e5
  rw [Nat.zero_add] at h3
  unfold execOp
  simp only [ho, Instr.entryStore, hpy, vr_int hsv]
  rw [SW_bind, SW_bind]
  refine SW_getObj g1 trivial g3 ?_
  simp only [SW_bind, asInt, asIntOf, SW_pure]
  have hfi : xs.findIdx? (fun e => (e.born : Int) == (Int.ofNat b)) = some j := by
    have : xs.findIdx? (fun e => (e.born : Int) == (Int.ofNat b)) = xs.toList.findIdx? (fun e => (e.born : Int) == (Int.ofNat b)) := by cases xs; simp
    rw [this]; exact h4
  simp only [hfi]
  refine SW_setMap g1 g3 ?_
  obtain ⟨_, h7⟩ := lwriteK_inv _ _ _ _ _ h3
  rw [T.putK_eq] at h7
  refine ⟨_, σ, _, nx, .inr ⟨rfl, rfl⟩, Sub.refl _, map_put H hp hid (xs' := xs.modify j fun e => { e with val := a.eval y' }) ?_, h7⟩
  rw [Array.toList_modify]
  exact g2.modify h2 ⟨h6.1, hxv, h6.2.2⟩
theorem snd_lenM {x : Opd} {x' : Operand} (hx : OpdR x x') {c : Call} {t kt el : TypeId} (hc : c.callee = .builtin .len) (hargs : c.args = #[x']) (hat : c.argTypes[0]? = some t) (ht : P.underlying t = some (.map kt el)) (ho : o.op = .call c)
    (e : exec (.lenM x) regs h nx k = some r) : SW P N0 own n0 (execOp a.eval o) w (Out N0 mla ml vt own n0 σ k r) := by
  replace e : hLenM x regs h nx k = some r := e
  obtain ⟨v, hv, e1⟩ := opd_rel hr hx e
  refine SW_builtin hc ho fun consts => ?_
  rw [hargs, map_one]
  unfold builtin Builtin.len_
  have h0 : (#[a.eval x'] : Array Value)[0]? = some (a.eval x') := rfl
  simp only [hat, h0, SW_bind, SW_underlying ht]
  by_cases hnil : v = .nilm
  · subst hnil
    rw [vr_nilm hv]
    simp only [SW_pure]
    exact out_pure H (v := .int .i64 (.ofNat 0)) (by simp only [VR, goInt]; exact ⟨trivial, rfl⟩) e1
  · have e2 : mapK v h (fun _ es _ => natK (llen es 0) fun n => k (.int .i64 (.ofNat n)) h nx) = some r := by
      cases v <;> first | exact e1 | exact absurd rfl hnil
    obtain ⟨id, es, clk, rfl, hid, e3⟩ := mapK_inv e2
    rw [natK_eq, llen_eq, Nat.zero_add] at e3
    obtain ⟨p, hp, hpy⟩ := vr_map hv
    obtain ⟨xs, g1, g2, g3⟩ := map_at H hp hid
    rw [hpy]
    simp only [SW_bind]
    refine SW_getObj g1 trivial g3 ?_
    simp only [SW_pure]
    have := g2.length
    exact out_pure H (v := .int .i64 (.ofNat es.length)) (by simp only [VR, goInt]; exact ⟨trivial, by rw [this]; simp⟩) e3
end
end Go.Gb
end
