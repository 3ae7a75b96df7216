/- A part of the proof of the statement Rows.TopMissingCardSaid (at every argument the law returns true on every schedule, and its argument reads as before; the listed variables as laid). This text: a stepper over symbolic states of the translated program and its soundness, part 14 of 41. -/
import Derived.Test.YtgabhijnigpbdaaGreatDoorM13
section
/-! Operations, one by one: iterators. -/
set_option linter.unusedSimpArgs false
set_option linter.unusedVariables false
set_option linter.unusedSectionVars false
namespace Go.Gb
open Go.Conc
section
variable {C : Type} {P : Program} {N0 : Nat} {mla : Addr} {ml : Gl} {vt : Vt} {own : Own} {n0 : Nat}
variable {σ : Sg} {h : Heap} {nx : Gb.P} {w : World} {regs : Regs} {a : Act} {k : K C} {r : C} {o : Oper}
theorem itK_inv {v : V} {k : Gb.P → Ob → O C} {r : C} (e : itK v h k = some r) : ∃ id ob, v = .ptr id 0 ∧ T.get id h = some ob ∧ k id ob = some r := by
  cases v <;> simp only [itK, reduceCtorEq] at e
  rename_i id off
  cases off <;> simp only [reduceCtorEq] at e
  obtain ⟨ob, h1, h2⟩ := getOb_inv e
  exact ⟨id, ob, rfl, h1, h2⟩
theorem decode_low {s : ByteArray} {pos : Nat} {b : UInt8} (hb : s.data.toList[pos]? = some b) (h : b.toNat < 128) : Utf8.decode s pos = (b.toNat, 1) := by
  have hlt := (List.getElem?_eq_some_iff.1 hb).1
  have hg : s.get! (pos + 0) = b := by
    obtain ⟨d⟩ := s
    have h1 : d[pos]? = some b := by simpa using hb
    show d[pos + 0]! = b
    rw [Nat.add_zero]
    rw [getElem!_def, h1]
  show (if (s.get! (pos + 0)).toNat < 0x80 then ((s.get! (pos + 0)).toNat, 1) else _) = _
  rw [hg, if_pos (by omega)]
/-- An object that is no row is made. -/
theorem out_new (H : AR N0 mla ml vt σ h nx own n0 w) {ob : Ob} {obj : Obj} (hob : ObR ml σ ⟨w.heap.size, 0, 0⟩ ob obj) {v : V} {u : Value} (hu : ∀ σ', σ' nx = some ⟨w.heap.size, 0, 0⟩ → VR ml σ' v u) (e : k v (T.put (some ob) nx h) nx.succ = some r) :
    Out N0 mla ml vt own n0 σ k r (.value u) { w with heap := w.heap.push obj } := by
  obtain ⟨σ', s1, s2, s3, _⟩ := H.new hob
  exact ⟨v, σ', _, _, .inl ⟨u, rfl, hu σ' s2⟩, s1, s3, e⟩
variable (H : AR N0 mla ml vt σ h nx own n0 w) (hr : RegR ml σ regs a)
 include H hr
theorem snd_rangeS {x : Opd} {x' : Operand} (hx : OpdR x x') {t : TypeId} (ht : P.underlying t = some .string) (ho : o.op = .range t x')
    (e : exec (.rangeS x) regs h nx k = some r) : SW P N0 own n0 (execOp a.eval o) w (Out N0 mla ml vt own n0 σ k r) := by
  replace e : hRangeS x regs h nx k = some r := e
  obtain ⟨v, hv, e1⟩ := opd_rel hr hx e
  obtain ⟨n, N, rfl, e2⟩ := strK_inv e1
  replace e2 := newOb_new e2
  obtain ⟨s, hs, hs'⟩ := vr_str hv
  unfold execOp
  simp only [ho, hs, Instr.range]
  simp only [SW_bind, SW_underlying ht, SW_pure, SW_newObj]
  exact out_new H (by simp only [ObR]; exact ⟨trivial, trivial, hs'⟩) (fun σ' s => by simp only [VR]; exact ⟨_, s, rfl⟩) e2
theorem snd_rangeM {x : Opd} {x' : Operand} (hx : OpdR x x') {t kt el : TypeId} (ht : P.underlying t = some (.map kt el)) (ho : o.op = .range t x')
    (e : exec (.rangeM x) regs h nx k = some r) : SW P N0 own n0 (execOp a.eval o) w (Out N0 mla ml vt own n0 σ k r) := by
  replace e : hRangeM x regs h nx k = some r := e
  obtain ⟨v, hv, e1⟩ := opd_rel hr hx e
  unfold execOp
  simp only [ho, Instr.range]
  by_cases hn : v = .nilm
  · subst hn
    replace e1 := newOb_new e1
    rw [vr_nilm hv]
    simp only [SW_bind, SW_underlying ht, SW_pure, SW_newObj]
    exact out_new H (by simp only [ObR]; exact ⟨trivial, trivial⟩) (fun σ' s => by simp only [VR]; exact ⟨_, s, rfl⟩) e1
  · have e2 : mapK v h (fun m _ clk => newOb (.mit (some m) clk [] clk) h nx fun id h nx => k (.ptr id 0) h nx) = some r := by
      cases v <;> first | exact e1 | exact absurd rfl hn
    obtain ⟨id, es, clk, rfl, hid, e3⟩ := mapK_inv e2
    replace e3 := newOb_new e3
    obtain ⟨p, hp, hpy⟩ := vr_map hv
    obtain ⟨xs, g1, g2, g3⟩ := map_at H hp hid
    rw [hpy]
    simp only [SW_bind, SW_underlying ht]
    refine SW_getObj g1 trivial g3 ?_
    simp only [SW_bind, SW_pure, SW_newObj]
    exact out_new H (by simp only [ObR]; exact ⟨trivial, ⟨p, hp, rfl⟩, trivial, trivial, trivial⟩) (fun σ' s => by simp only [VR]; exact ⟨_, s, rfl⟩) e3
 omit H hr in
theorem SW_setObj' {b : Nat} {ob ob' : Obj} (hb : w.heap[b]? = some ob) (hm : mine own n0 w b) (hn : NotCells ob) (hc : ob.isChan = ob'.isChan) {Q : Unit → World → Prop} (hq : Q () { w with heap := w.heap.setIfInBounds b ob' }) : SW P N0 own n0 (setObj b ob') w Q := ⟨ob, hb, hn, hm, hc, hq⟩
 omit hr in
/-- An object is laid anew. -/
theorem obj_put {id : Gb.P} {p : Pl} {ob ob' : Ob} {obj obj' : Obj} (hp : σ id = some p) (ho : T.get id h = some ob) (hb : w.heap[p.bl]? = some obj) (hr : ObR ml σ p ob' obj') : AR N0 mla ml vt σ (T.put (some ob') id h) nx own n0 { w with heap := w.heap.setIfInBounds p.bl obj' } := by
  have hl := (Array.getElem?_eq_some_iff.1 hb).1
  exact H.put hp ho (o' := obj') hr (by simp [hl]) (fun b hb => Array.getElem?_setIfInBounds_ne (Ne.symm hb)) (by simp)
theorem snd_nextS {x : Opd} {x' : Operand} (hx : OpdR x x') (ho : o.op = .next x' true)
    (e : exec (.nextS x) regs h nx k = some r) : SW P N0 own n0 (execOp a.eval o) w (Out N0 mla ml vt own n0 σ k r) := by
  replace e : hNextS x regs h nx k = some r := e
  obtain ⟨v, hv, e1⟩ := opd_rel hr hx e
  obtain ⟨id, ob, rfl, hob, e2⟩ := itK_inv e1
  cases ob <;> simp only [reduceCtorEq] at e2
  rename_i n N pos
  obtain ⟨p, hp, hpy⟩ := vr_ptr hv
  obtain ⟨obj, hobj, hrr⟩ := H.obs id p _ hp hob
  have hown := H.has id p _ hp hob
  cases obj <;> simp only [ObR] at hrr
  rename_i s pos'
  obtain ⟨hsh, rfl, hs⟩ := hrr
  unfold execOp
  simp only [ho, hpy, hsh, Instr.next]
  rw [SW_bind]
  show SW P N0 own n0 (getObj p.bl >>= _) w _
  rw [SW_bind]
  refine SW_getObj hobj trivial hown ?_
  have hsz : s.size = n := hs.1
  rcases boolK_cases e2 with ⟨hlt, e3⟩ | ⟨hlt, e3⟩
  · have hlt : pos' < n := Nat.le_of_ble_eq_true hlt
    rw [natK_eq] at e3
    obtain ⟨hb, e4⟩ := boolK_inv e3
    rw [natK_eq, T.putK_eq] at e4
    obtain ⟨b, hb1, hb2⟩ := byte_of hs hlt
    rw [hb2] at hb e4
    have hb : b.toNat < 128 := Nat.le_of_ble_eq_true hb
    simp only [hsz, if_pos hlt, decode_low hb1 hb]
    rw [SW_bind]
    refine SW_setObj' (ob' := .stringIter s (pos' + 1)) hobj hown trivial rfl ?_
    simp only [SW_pure]
    refine ⟨_, σ, _, nx, .inl ⟨_, rfl, ?_⟩, Sub.refl _, obj_put H hp hob hobj (by simp only [ObR]; exact ⟨hsh, trivial, hs⟩), e4⟩
    simp only [VR, VRL, goInt]
    exact ⟨trivial, ⟨trivial, rfl⟩, ⟨trivial, rfl⟩, trivial⟩
  · have hlt : ¬ pos' < n := fun z => by
      have := Nat.ble_eq_true_of_le z
      rw [show (Nat.blt pos' n) = (pos' + 1).ble n from rfl, this] at hlt
      cases hlt
    simp only [hsz, if_neg hlt, SW_pure]
    exact ⟨_, σ, _, nx, .inl ⟨_, rfl, by simp [VR, VRL]⟩, Sub.refl _, H, e3⟩
 omit H hr in
theorem lmem_eq (x : Nat) (l : List Nat) : lmem x l = l.contains x := by
  induction l with
  | nil => rfl
  | cons y l ih =>
    show boolK (Nat.beq y x) true (lmem x l) = _
    rw [boolK_eq, ih, nbeq]
    by_cases h : y = x
    · subst h; simp
    · have : ¬ x = y := fun e => h e.symm
      simp [h, this]
 omit H hr in
theorem leftK_inv {since : Nat} {seen : List Nat} : ∀ (es : List (V × V × Nat)) (xs : List MapEntry) {k : List (V × V × Nat) → O C} {r : C}, EnR ml σ es xs → leftK since es seen k = some r →
    ∃ l, EnR ml σ l (xs.filter fun e => !seen.contains e.born) ∧ (∀ x ∈ xs, x.born < since) ∧ k l = some r
  | [], [], k, r, _, e => ⟨[], trivial, by simp, e⟩
  | e0 :: es, x0 :: xs, k, r, hen, e => by
    replace e : boolK (Nat.blt e0.2.2 since) (leftK since es seen fun r => boolK (lmem e0.2.2 seen) (k r) (k (e0 :: r))) none = some r := e
    obtain ⟨h1, e2⟩ := boolK_inv e
    obtain ⟨l, q1, q2, q3⟩ := leftK_inv es xs hen.2 e2
    have hb := hen.1.2.2
    have h1 : x0.born < since := by rw [hb]; exact Nat.le_of_ble_eq_true h1
    rw [lmem_eq, ← hb] at q3
    rcases boolK_cases q3 with ⟨hc, q4⟩ | ⟨hc, q4⟩
    · refine ⟨l, ?_, by simpa using ⟨h1, q2⟩, q4⟩
      rw [List.filter_cons, hc]; exact q1
    · refine ⟨e0 :: l, ?_, by simpa using ⟨h1, q2⟩, q4⟩
      rw [List.filter_cons, hc]; exact ⟨hen.1, q1⟩
 omit H hr in
/-- What the model finds before a map's iterator. -/
theorem next_map {x' : Operand} {p q : Pl} {since stepped clk : Nat} {xs : Array MapEntry} {seen' : Array Nat} (hx : a.eval x' = .pointer (some ⟨p.bl, 0, none⟩))
    (hobj : w.heap[p.bl]? = some (.mapIter (some q.bl) since seen' stepped)) (hown : mine own n0 w p.bl) (hmap : w.heap[q.bl]? = some (.map xs clk)) (hmo : mine own n0 w q.bl) (hss : since ≤ stepped) (hlt : ∀ x ∈ xs.toList, x.born < since)
    {Q : Next → World → Prop} (h0 : (xs.toList.filter fun e => !seen'.toList.contains e.born) = [] → Q (.value (.tuple #[.bool false])) w)
    (h1 : ∀ x d, x ∈ xs.toList.filter (fun e => !seen'.toList.contains e.born) → ((xs.toList.filter fun e => !seen'.toList.contains e.born).length ≤ 1 → d = w.drawn) →
      Q (.value (.tuple #[.bool true, x.key, x.val])) { w with drawn := d, heap := w.heap.setIfInBounds p.bl (.mapIter (some q.bl) since (seen'.push x.born) clk) })
    (ho : o.op = .next x' false) : SW P N0 own n0 (execOp a.eval o) w Q := by
  unfold execOp
  simp only [ho, hx, Instr.next]
  rw [SW_bind]
  show SW P N0 own n0 (getObj p.bl >>= _) w _
  rw [SW_bind]
  refine SW_getObj hobj trivial hown ?_
  simp only
  rw [SW_bind]
  refine SW_getObj hmap trivial hmo ?_
  simp only
  have hno : ¬ (!seen'.isEmpty && !xs.isEmpty && xs.all (·.born ≥ stepped)) = true := by
    intro hh
    simp only [Bool.and_eq_true, Bool.not_eq_true', Array.all_eq_true', decide_eq_true_eq] at hh
    obtain ⟨⟨_, h2⟩, h3⟩ := hh
    have hne : xs.toList ≠ [] := by
      intro e
      have : xs = #[] := by cases xs; simp at e; rw [e]
      rw [this] at h2; simp at h2
    obtain ⟨y, ys, hy⟩ := List.exists_cons_of_ne_nil hne
    have hm : y ∈ xs := by
      have : y ∈ xs.toList := by rw [hy]; simp
      simpa using this
    have := hlt y (by simpa using hm)
    have := h3 y hm
    omega
  rw [if_neg hno]
  generalize hL : (xs.filter fun e => !seen'.contains e.born) = L
  have hLl : L.toList = xs.toList.filter fun e => !seen'.toList.contains e.born := by
    rw [← hL]; simp
  have hold : L.filter (·.born < since) = L := by
    apply Array.toList_inj.1
    rw [Array.toList_filter, List.filter_eq_self]
    intro x hx
    rw [hLl] at hx
    simpa using hlt x ((List.mem_filter.1 hx).1)
  have hnew : L.filter (·.born ≥ since) = #[] := by
    apply Array.toList_inj.1
    rw [Array.toList_filter]
    apply List.filter_eq_nil_iff.2
    intro x hx
    rw [hLl] at hx
    have := hlt x ((List.mem_filter.1 hx).1)
    simp; omega
  rw [hold, hnew, Array.append_empty]
  rw [← hLl] at h0 h1
  cases hx : L.toList with
  | nil =>
    have hLe : L = #[] := by cases L; simp at hx; rw [hx]
    subst hLe
    rw [SW_bind, SW_choose]
    refine .inl ⟨by simp [Question.forced], ?_⟩
    have hz : ((if (#[] : Array MapEntry).isEmpty = true then #[none] else #[]) ++ Array.map some (#[] : Array MapEntry))[0]? = some none := by simp
    rw [hz]
    exact h0 hx
  | cons y ys =>
    have hsz : L.size = ys.length + 1 := by
      have := congrArg List.length hx; simpa using this
    have hemp : L.isEmpty = false := by
      cases L; simp at hx; simp [hx]
    simp only [hemp, Bool.false_eq_true, if_false, Array.empty_append]
    rw [SW_bind, SW_choose]
    have go : ∀ (i d : Nat), i < L.size → (L.size ≤ 1 → d = w.drawn) → SW P N0 own n0 (match (L.map some)[i]? with
      | some (some e) => do
        setObj p.bl (.mapIter (some q.bl) since (seen'.push e.born) clk)
        pure (.tuple #[.bool true, e.key, e.val])
      | some none => (pure (.tuple #[.bool false]) : Sem Value)
      | none => stuck "Next: no such candidate") { w with drawn := d } (fun v w' => Q (.value v) w') := by
      intro i d hi hd
      have hg : (L.map some)[i]? = some (some L[i]) := by simp [hi]
      rw [hg]
      simp only
      rw [SW_bind]
      refine SW_setObj' (ob' := .mapIter (some q.bl) since (seen'.push L[i].born) clk) (w := { w with drawn := d }) hobj hown trivial rfl ?_
      rw [SW_pure]
      exact h1 L[i] d (by simp) (by simpa using hd)
    by_cases h2 : L.size ≤ 1
    · refine .inl ⟨by simp [Question.forced, h2], ?_⟩
      exact go 0 w.drawn (by omega) fun _ => rfl
    · refine .inr ⟨by simp [Question.forced]; omega, ?_⟩
      have hcut : Question.cut (.mapNext (L.map some).size) (w.tape w.drawn (.mapNext (L.map some).size)) = (w.tape w.drawn (.mapNext (L.map some).size)) % (L.map some).size := rfl
      rw [hcut]
      exact go _ (w.drawn + 1) (by have := Nat.mod_lt (w.tape w.drawn (.mapNext (L.map some).size)) (show (L.map some).size > 0 by simp; omega); simpa using this) fun h => absurd h h2
 omit H hr in
theorem iterK_inv {v : V} {no : O C} {k : Gb.P → Gb.P → Nat → List Nat → Nat → List (V × V × Nat) → O C} {r : C} (e : iterK v h no k = some r) : ∃ id ob, v = .ptr id 0 ∧ T.get id h = some ob ∧
    ((∃ a b c, ob = .mit none a b c ∧ no = some r) ∨ ∃ m since seen stepped es clk, ob = .mit (some m) since seen stepped ∧ T.get m h = some (.map es clk) ∧ since ≤ stepped ∧ leftK since es seen (fun l => k id m since seen clk l) = some r) := by
  obtain ⟨id, ob, h1, h2, e2⟩ := itK_inv e
  refine ⟨id, ob, h1, h2, ?_⟩
  cases ob <;> (try simp only [reduceCtorEq] at e2)
  rename_i m since seen stepped
  cases m with
  | none => exact .inl ⟨_, _, _, rfl, e2⟩
  | some m =>
    obtain ⟨o, ho, e3⟩ := getOb_inv e2
    cases o <;> simp only [reduceCtorEq] at e3
    obtain ⟨h3, e4⟩ := boolK_inv e3
    exact .inr ⟨m, since, seen, stepped, _, _, rfl, ho, Nat.le_of_ble_eq_true h3, e4⟩
 omit hr in
/-- A map's iterator and its map, as they lie. -/
theorem iter_at {id m : Gb.P} {p : Pl} {since stepped : Nat} {seen : List Nat} (hp : σ id = some p) (hob : T.get id h = some (.mit (some m) since seen stepped)) {es : List (V × V × Nat)} {clk : Nat} (hm : T.get m h = some (.map es clk)) :
    ∃ q xs seen', σ m = some q ∧ p.sh = 0 ∧ w.heap[p.bl]? = some (.mapIter (some q.bl) since seen' stepped) ∧ mine own n0 w p.bl ∧ seen'.toList = seen ∧ w.heap[q.bl]? = some (.map xs clk) ∧ mine own n0 w q.bl ∧ EnR ml σ es xs.toList := by
  obtain ⟨obj, hobj, hrr⟩ := H.obs id p _ hp hob
  cases obj <;> simp only [ObR] at hrr
  obtain ⟨h0, ⟨q, h1, h2⟩, h3, h4, h5⟩ := hrr
  obtain ⟨xs, g1, g2, g3⟩ := map_at H h1 hm
  rw [h2, h3, h4] at hobj
  exact ⟨q, xs, _, h1, h0, hobj, H.has id p _ hp hob, h5, g1, g3, g2⟩
theorem snd_nextM {x : Opd} {x' : Operand} (hx : OpdR x x') (ho : o.op = .next x' false)
    (e : exec (.nextM x) regs h nx k = some r) : SW P N0 own n0 (execOp a.eval o) w (Out N0 mla ml vt own n0 σ k r) := by
  replace e : hNextM x regs h nx k = some r := e
  obtain ⟨v, hv, e1⟩ := opd_rel hr hx e
  obtain ⟨id, ob, rfl, hob, e2⟩ := iterK_inv e1
  obtain ⟨p, hp, hpy⟩ := vr_ptr hv
  rcases e2 with ⟨a1, a2, a3, rfl, e3⟩ | ⟨m, since, seen, stepped, es, clk, rfl, hm, hss, e3⟩
  · obtain ⟨obj, hobj, hrr⟩ := H.obs id p _ hp hob
    have hown := H.has id p _ hp hob
    cases obj <;> simp only [ObR] at hrr
    obtain ⟨hsh, rfl⟩ := hrr
    unfold execOp
    simp only [ho, hpy, hsh, Instr.next]
    rw [SW_bind]
    show SW P N0 own n0 (getObj p.bl >>= _) w _
    rw [SW_bind]
    refine SW_getObj hobj trivial hown ?_
    exact ⟨_, σ, _, nx, .inl ⟨_, rfl, by simp [VR, VRL]⟩, Sub.refl _, H, e3⟩
  · obtain ⟨q, xs, seen', i1, i2, i3, i4, i5, i6, i7, i8⟩ := iter_at H hp hob hm
    obtain ⟨l, l1, l2, l3⟩ := leftK_inv es xs.toList i8 e3
    subst i5
    obtain ⟨hsc, l4⟩ := boolK_inv l3
    refine next_map (by rw [hpy, i2]) i3 i4 i6 i7 hss l2 (fun h0 => ?_) (fun y d hy hd => ?_) ho
    · rw [h0] at l1
      cases l with
      | nil => exact ⟨_, σ, _, nx, .inl ⟨_, rfl, by simp [VR, VRL]⟩, Sub.refl _, H, l4⟩
      | cons => exact l1.elim
    · generalize (xs.toList.filter fun e => !seen'.toList.contains e.born) = fl at *
      match l, fl, l1, l4 with
      | [], _ :: _, l1, _ => exact l1.elim
      | [], [], l1, _ => simp at hy
      | e0 :: [], y0 :: ys, l1, l4 =>
        have : ys = [] := by cases ys with | nil => rfl | cons => exact l1.2.elim
        subst this
        have : y = y0 := by simpa using hy
        subst this
        have hd := hd (by simp)
        subst hd
        replace l4 : stepMK id m since clk seen'.toList e0 h (fun v h => k v h nx) = some r := l4
        unfold stepMK at l4
        rw [lappK_eq, T.putK_eq] at l4
        refine ⟨_, σ, _, nx, .inl ⟨_, rfl, ?_⟩, Sub.refl _, obj_put H hp hob i3 (obj' := .mapIter (some q.bl) since (seen'.push y.born) clk) ?_, l4⟩
        · simp only [VR, VRL]
          exact ⟨trivial, l1.1.1, l1.1.2.1, trivial⟩
        · simp only [ObR]
          exact ⟨i2, ⟨q, i1, rfl⟩, trivial, trivial, by simp [l1.1.2.2]⟩
      | _ :: _ :: _, _, _, l4 => cases l4
theorem snd_entry {x : Opd} {x' : Operand} (hx : OpdR x x') (ho : o.op = .entry x')
    (e : exec (.entry x) regs h nx k = some r) : SW P N0 own n0 (execOp a.eval o) w (Out N0 mla ml vt own n0 σ k r) := by
  replace e : hEntry x regs h nx k = some r := e
  obtain ⟨v, hv, e1⟩ := opd_rel hr hx e
  obtain ⟨id, ob, rfl, hob, e2⟩ := itK_inv e1
  obtain ⟨p, hp, hpy⟩ := vr_ptr hv
  cases ob <;> (try simp only [reduceCtorEq] at e2)
  rename_i m since seen stepped
  cases m <;> simp only [reduceCtorEq] at e2
  rename_i m
  have llast_inv : ∀ (l : List Nat) {k : Nat → O C} {r : C}, llast l k = some r → ∃ b, l.getLast? = some b ∧ k b = some r := by
    intro l
    induction l with
    | nil => intro k r e; cases e
    | cons x l ih =>
      intro k r e
      cases l with
      | nil => exact ⟨x, rfl, e⟩
      | cons y l =>
        obtain ⟨b, h1, h2⟩ := ih (k := k) e
        exact ⟨b, by rw [List.getLast?_cons_cons]; exact h1, h2⟩
  obtain ⟨b, hb, e3⟩ := llast_inv _ e2
  obtain ⟨o2, ho2, e4⟩ := getOb_inv e3
  cases o2 <;> simp only [reduceCtorEq] at e4
  rename_i es clk
  obtain ⟨hclk, e5⟩ := boolK_inv e4
  have hclk := Nat.eq_of_beq_eq_true hclk
  obtain ⟨q, xs, seen', i1, i2, i3, i4, i5, i6, i7, i8⟩ := iter_at H hp hob ho2
  obtain ⟨j, e0, x0, h1, h2, h3, h4, h5, h6⟩ := stampK_inv es xs.toList 0 i8 e5
  unfold execOp
  simp only [ho, hpy, i2, Instr.entry]
  rw [SW_bind]
  show SW P N0 own n0 (getObj p.bl >>= _) w _
  rw [SW_bind]
  refine SW_getObj i3 trivial i4 ?_
  have hbk : seen'.back? = some b := by
    rw [← i5] at hb
    rw [← hb]
    simp
  simp only [hbk]
  rw [SW_bind]
  refine SW_getObj i6 trivial i7 ?_
  simp only
  rw [if_neg (by simp [hclk])]
  have hfi : xs.find? (fun e => e.born == b) = some x0 := by
    have : xs.find? (fun e => e.born == b) = xs.toList.find? (fun e => e.born == b) := by cases xs; simp
    rw [this]; exact h5
  simp only [hfi, SW_pure]
  exact out_pure H (vr_tup2 h6.1 h6.2.1) h3
end
end Go.Gb
end
section
/-! The model's operations turned into the evaluator's, and that they tell the same. -/
set_option linter.unusedSimpArgs false
set_option linter.unusedVariables false
set_option linter.unusedSectionVars false
namespace Go.Gb
open Go.Conc
variable {C : Type}
/-- The entries of the model's that are called. -/
inductive EF where | indexByte | index2 | countStr | cmpStr | noEscape | sub (l : Nat) | sub2 | each (l : Nat)
  deriving Inhabited
structure Env where
  tys : T TypeInfo
  funs : T Func
  exts : T EF
  flats : T Bool
  mlg : Nat
  big : Nat
/-- A number as a path. -/
noncomputable def pKf (f : Nat) : Nat → (P → O C) → O C :=
  Nat.rec (motive := fun _ => Nat → (P → O C) → O C) (fun n k => Nat.rec (motive := fun _ => O C) (k .z) (fun _ _ => none) n)
    (fun _ ih n k => Nat.rec (motive := fun _ => O C) (k .z) (fun m _ => natK (Nat.div m 2) fun d => Nat.rec (motive := fun _ => O C) (ih d fun p => k (.o p)) (fun _ _ => ih d fun p => k (.e p)) (Nat.mod m 2)) n) f
noncomputable def pK (n : Nat) (k : P → O C) : O C := pKf 20 n k
theorem pKf_inv (f : Nat) : ∀ (n : Nat) {k : P → O C} {r : C}, pKf f n k = some r → ∃ p, p.toNat = n ∧ k p = some r := by
  induction f with
  | zero =>
    intro n k r e
    cases n with
    | zero => exact ⟨.z, rfl, e⟩
    | succ n => cases e
  | succ f ih =>
    intro n k r e
    cases n with
    | zero => exact ⟨.z, rfl, e⟩
    | succ m =>
      replace e : natK (Nat.div m 2) (fun d => Nat.rec (motive := fun _ => O C) (pKf f d fun p => k (.o p)) (fun _ _ => pKf f d fun p => k (.e p)) (Nat.mod m 2)) = some r := e
      rw [natK_eq] at e
      have hm : Nat.mod m 2 = m % 2 := rfl
      have hd : Nat.div m 2 = m / 2 := rfl
      rw [hm, hd] at e
      rcases Nat.mod_two_eq_zero_or_one m with h | h
      · rw [h] at e
        obtain ⟨p, h1, h2⟩ := ih _ (k := fun p => k (.o p)) e
        exact ⟨.o p, by simp only [P.toNat, h1]; omega, h2⟩
      · rw [h] at e
        obtain ⟨p, h1, h2⟩ := ih _ (k := fun p => k (.e p)) e
        exact ⟨.e p, by simp only [P.toNat, h1]; omega, h2⟩
theorem pK_inv {n : Nat} {k : P → O C} {r : C} (e : pK n k = some r) : ∃ p, p.toNat = n ∧ k p = some r := pKf_inv _ _ e
/-- A string's number. -/
noncomputable def numlK (l : List UInt8) (k : Nat → O C) : O C :=
  List.rec (motive := fun _ => (Nat → O C) → O C) (fun k => k 0) (fun b _ ih k => ih fun N => natK (Nat.add b.toNat (Nat.mul 256 N)) k) l k
theorem numlK_eq : ∀ (l : List UInt8) (k : Nat → O C), numlK l k = k (numL l)
  | [], _ => rfl
  | b :: l, k => by
    show numlK l (fun N => natK (Nat.add b.toNat (Nat.mul 256 N)) k) = _
    rw [numlK_eq l, natK_eq]; rfl
/-- A value of one cell, with no address in it. -/
noncomputable def v1K (v : Value) (k : V → O C) : O C :=
  match v with
  | .int kd n => vInt kd n k
  | .bool b => vBool b k
  | .string s => natK s.size fun n => numlK s.data.toList fun N => k (.str n N)
  | .pointer none => k .nilp
  | .slice none len cap => Nat.rec (motive := fun _ => O C) (Nat.rec (motive := fun _ => O C) (k .nils) (fun _ _ => none) cap) (fun _ _ => none) len
  | .map none => k .nilm
  | .chan none => k .nilc
  | .nilFunc => k .nilf
  | .nilIface => k .nili
  | _ => none
theorem v1K_inv {v : Value} {k : V → O C} {r : C} (e : v1K v k = some r) : ∃ u, (∀ ml σ, VR ml σ u v) ∧ OneCell v ∧ (∀ cs, u ≠ .agg cs) ∧ (∀ cs, u ≠ .tup cs) ∧ k u = some r := by
  cases v <;> (try simp only [v1K, reduceCtorEq] at e)
  · rw [vBool_eq] at e; exact ⟨_, fun _ _ => by simp [VR], trivial, by simp, by simp, e⟩
  · rw [vInt_eq] at e; exact ⟨_, fun _ _ => by simp [VR], trivial, by simp, by simp, e⟩
  · rw [natK_eq, numlK_eq] at e
    rename_i s
    refine ⟨_, fun _ _ => ?_, trivial, by simp, by simp, e⟩
    simp only [VR, StrR]
    refine ⟨trivial, ?_⟩
    have := low_numL s.data.toList
    have hl : s.data.toList.length = s.size := by simp
    rw [hl] at this
    exact this
  · rename_i ad; cases ad <;> simp only [reduceCtorEq] at e
    exact ⟨_, fun _ _ => by simp [VR], trivial, by simp, by simp, e⟩
  · rename_i ad len cap; cases ad <;> simp only [reduceCtorEq] at e
    cases len <;> cases cap <;> first | exact ⟨_, fun _ _ => by simp [VR], trivial, by simp, by simp, e⟩ | cases e
  · rename_i ad; cases ad <;> simp only [reduceCtorEq] at e
    exact ⟨_, fun _ _ => by simp [VR], trivial, by simp, by simp, e⟩
  · rename_i ad; cases ad <;> simp only [reduceCtorEq] at e
    exact ⟨_, fun _ _ => by simp [VR], trivial, by simp, by simp, e⟩
  · exact ⟨_, fun _ _ => by simp [VR], trivial, by simp, by simp, e⟩
  · exact ⟨_, fun _ _ => by simp [VR], trivial, by simp, by simp, e⟩
noncomputable def vLK (l : List Value) (k : List V → O C) : O C :=
  List.rec (motive := fun _ => (List V → O C) → O C) (fun k => k []) (fun v _ ih k => v1K v fun u => ih fun us => k (u :: us)) l k
theorem vLK_inv : ∀ (l : List Value) {k : List V → O C} {r : C}, vLK l k = some r → ∃ us, (∀ ml σ, VRL ml σ us l) ∧ (∀ x ∈ l, OneCell x) ∧ k us = some r
  | [], k, r, e => ⟨[], fun _ _ => trivial, by simp, e⟩
  | v :: l, k, r, e => by
    obtain ⟨u, h1, h2, _, _, e2⟩ := v1K_inv (k := fun u => vLK l fun us => k (u :: us)) e
    obtain ⟨us, h3, h4, e3⟩ := vLK_inv l e2
    exact ⟨u :: us, fun ml σ => ⟨h1 ml σ, h3 ml σ⟩, by simpa using ⟨h2, h4⟩, e3⟩
/-- A value with no address in it. -/
noncomputable def vK (v : Value) (k : V → O C) : O C :=
  match v with
  | .agg cs => vLK cs.toList fun us => k (.agg us)
  | v => v1K v k
theorem vK_inv {v : Value} {k : V → O C} {r : C} (e : vK v k = some r) : ∃ u, (∀ ml σ, VR ml σ u v) ∧ (∀ cs, u ≠ .tup cs) ∧ k u = some r := by
  by_cases h : ∃ cs, v = .agg cs
  · obtain ⟨cs, rfl⟩ := h
    obtain ⟨us, h1, h2, e2⟩ := vLK_inv _ (k := fun us => k (.agg us)) e
    exact ⟨.agg us, fun ml σ => by simp only [VR]; exact ⟨h1 ml σ, h2⟩, by simp, e2⟩
  · have e1 : v1K v k = some r := by
      cases v <;> first | exact e | exact absurd ⟨_, rfl⟩ h
    obtain ⟨u, h1, _, _, h2, e2⟩ := v1K_inv e1
    exact ⟨u, h1, h2, e2⟩
/-- An operand. -/
noncomputable def oK (x : Operand) (k : Opd → O C) : O C :=
  match x with
  | .tmp t => pK t fun p => k (.r p)
  | .const v => vK v fun u => k (.c u)
  | .func f => k (.c (.fn (.func f) [] []))
  | .global _ => none
theorem oK_inv {x : Operand} {k : Opd → O C} {r : C} (e : oK x k = some r) : ∃ u, OpdR u x ∧ k u = some r := by
  cases x <;> (try simp only [oK, reduceCtorEq] at e)
  · obtain ⟨p, h1, e2⟩ := pK_inv e
    exact ⟨.r p, show _ = _ by rw [h1], e2⟩
  · obtain ⟨u, h1, _, e2⟩ := vK_inv e
    exact ⟨.c u, Or.inl ⟨_, rfl, h1⟩, e2⟩
  · exact ⟨.c _, Or.inr ⟨_, rfl, rfl⟩, e⟩
noncomputable def osK (xs : List Operand) (k : List Opd → O C) : O C :=
  List.rec (motive := fun _ => (List Opd → O C) → O C) (fun k => k []) (fun x _ ih k => oK x fun u => ih fun us => k (u :: us)) xs k
theorem osK_inv : ∀ (xs : List Operand) {k : List Opd → O C} {r : C}, osK xs k = some r → ∃ us, us.length = xs.length ∧ (∀ (i : Nat) x y, us[i]? = some x → xs[i]? = some y → OpdR x y) ∧ k us = some r
  | [], k, r, e => ⟨[], rfl, by simp, e⟩
  | x :: xs, k, r, e => by
    obtain ⟨u, h1, e2⟩ := oK_inv (k := fun u => osK xs fun us => k (u :: us)) e
    obtain ⟨us, h2, h3, e3⟩ := osK_inv xs e2
    refine ⟨u :: us, by simp [h2], fun i x' y' hx hy => ?_, e3⟩
    cases i with
    | zero => simp at hx hy; subst hx; subst hy; exact h1
    | succ i => exact h3 i x' y' (by simpa using hx) (by simpa using hy)
noncomputable def oOptK (x : Option Operand) (k : Option Opd → O C) : O C :=
  match x with
  | none => k none
  | some x => oK x fun u => k (some u)
theorem oOptK_inv {x : Option Operand} {k : Option Opd → O C} {r : C} (e : oOptK x k = some r) : ∃ u, OptR u x ∧ k u = some r := by
  cases x with
  | none => exact ⟨none, trivial, e⟩
  | some x => obtain ⟨u, h1, e2⟩ := oK_inv (k := fun u => k (some u)) e; exact ⟨some u, h1, e2⟩
variable (E : Env)
noncomputable def infoK (t : Nat) (k : TypeInfo → O C) : O C := pK t fun p => optK (T.get p E.tys) none k
noncomputable def undK (t : Nat) (k : TypeDesc → O C) : O C := infoK E t fun i => match i.desc with
  | .named _ u => infoK E u fun i => k i.desc
  | d => k d
noncomputable def sizeK (t : Nat) (k : Nat → O C) : O C := infoK E t fun i => natK i.size k
noncomputable def zeroK (t : Nat) (k : List V → O C) : O C := infoK E t fun i => optK i.zero none fun z => vLK z.cells.toList k
noncomputable def zeroVK (t : Nat) (k : V → O C) : O C := infoK E t fun i => optK i.zero none fun z => vK z k
def Env.Tys (P : Program) : Prop := ∀ p i, T.get p E.tys = some i → P.info? p.toNat = some i
section
variable {E} {P : Program}
theorem infoK_inv (hE : E.Tys P) {t : Nat} {k : TypeInfo → O C} {r : C} (e : infoK E t k = some r) : ∃ i, P.info? t = some i ∧ k i = some r := by
  obtain ⟨p, h1, e2⟩ := pK_inv e
  cases hg : T.get p E.tys with
  | none => rw [hg] at e2; cases e2
  | some i =>
    rw [hg] at e2
    exact ⟨i, by rw [← h1]; exact hE p i hg, e2⟩
theorem undK_inv (hE : E.Tys P) {t : Nat} {k : TypeDesc → O C} {r : C} (e : undK E t k = some r) : ∃ d, P.underlying t = some d ∧ k d = some r := by
  obtain ⟨i, h1, e2⟩ := infoK_inv hE e
  cases hd : i.desc with
  | named n u =>
    rw [hd] at e2
    obtain ⟨i', h2, e3⟩ := infoK_inv hE e2
    refine ⟨i'.desc, ?_, e3⟩
    unfold Program.underlying
    rw [h1]
    obtain ⟨d, _, _, _, _, _, _, _, _, _⟩ := i
    simp only at hd
    subst hd
    simp [h2]
  | _ =>
    rw [hd] at e2
    refine ⟨_, ?_, e2⟩
    unfold Program.underlying
    rw [h1]
    obtain ⟨d, _, _, _, _, _, _, _, _, _⟩ := i
    simp only at hd
    subst hd
    rfl
theorem sizeK_inv (hE : E.Tys P) {t : Nat} {k : Nat → O C} {r : C} (e : sizeK E t k = some r) : ∃ i, P.info? t = some i ∧ k i.size = some r := by
  obtain ⟨i, h1, e2⟩ := infoK_inv hE e
  rw [natK_eq] at e2
  exact ⟨i, h1, e2⟩
theorem zeroK_inv (hE : E.Tys P) {t : Nat} {k : List V → O C} {r : C} (e : zeroK E t k = some r) : ∃ i z zs, P.info? t = some i ∧ i.zero = some z ∧ (∀ ml σ, VRL ml σ zs z.cells.toList) ∧ (∀ x ∈ z.cells.toList, OneCell x) ∧ k zs = some r := by
  obtain ⟨i, h1, e2⟩ := infoK_inv hE e
  cases hz : i.zero with
  | none => rw [hz] at e2; cases e2
  | some z =>
    rw [hz] at e2
    obtain ⟨us, h2, h3, e3⟩ := vLK_inv _ e2
    exact ⟨i, z, us, h1, hz, h2, h3, e3⟩
theorem zeroVK_inv (hE : E.Tys P) {t : Nat} {k : V → O C} {r : C} (e : zeroVK E t k = some r) : ∃ i z zv, P.info? t = some i ∧ i.zero = some z ∧ (∀ ml σ, VR ml σ zv z) ∧ k zv = some r := by
  obtain ⟨i, h1, e2⟩ := infoK_inv hE e
  cases hz : i.zero with
  | none => rw [hz] at e2; cases e2
  | some z =>
    rw [hz] at e2
    obtain ⟨u, h2, _, e3⟩ := vK_inv e2
    exact ⟨i, z, u, h1, hz, h2, e3⟩
end
end Go.Gb
end
