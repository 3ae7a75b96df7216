/- A part of the proof of the statement Rows.TopMissingCardSaid (at every argument the law returns true on every schedule, and its argument reads as before; the listed variables as laid). This text: a stepper over symbolic states of the translated program and its soundness, part 12 of 41. -/
import Derived.Test.YtgabhijnigpbdaaGreatDoorM11
section
/-! Operations, one by one: maps. -/
set_option linter.unusedSimpArgs false
set_option linter.unusedVariables false
set_option linter.unusedSectionVars false
namespace Go.Gb
open Go.Conc
def KeyC : EqC → Prop
  | .int | .str | .bool | .flat _ => True
  | _ => False
section
variable {C : Type} {P : Program} {N0 : Nat} {mla : Addr} {ml : Gl} {vt : Vt} {own : Own} {n0 : Nat}
variable {σ : Sg} {h : Heap} {nx : Gb.P} {w : World} {regs : Regs} {a : Act} {k : K C} {r : C} {o : Oper}
theorem ba_eq_of {n N m M : Nat} {s t : ByteArray} (h : StrR n N s) (h' : StrR m M t) (e : seq n N m M = true) : s = t := by
  rw [strR_eq h h'] at e
  have e := of_decide_eq_true (by simpa using e : decide (s.data.toList = t.data.toList) = true)
  cases s; cases t
  simp only [Array.toList_inj] at e
  rw [e]
/-- Equal keys are one value. -/
theorem eq1_true {c : EqC} {x y : V} {x' y' : Value} {k : Bool → O C} {r : C} (hc : c = .int ∨ c = .str ∨ c = .bool) (hx : VR ml σ x x') (hy : VR ml σ y y') (e : eq1K c x y k = some r) : ∃ b, k b = some r ∧ (b = true → x' = y') := by
  rcases hc with rfl | rfl | rfl
  · cases x <;> simp only [eq1K, reduceCtorEq] at e <;> cases y <;> simp only [reduceCtorEq] at e
    obtain ⟨hk, e2⟩ := boolK_inv e
    have hk := kdeq_eq hk
    subst hk
    rw [ieq_eq] at e2
    exact ⟨_, e2, fun hb => by rw [vr_int hx, vr_int hy]; simp at hb; rw [hb]⟩
  · cases x <;> simp only [eq1K, reduceCtorEq] at e <;> cases y <;> simp only [reduceCtorEq] at e
    obtain ⟨s, rfl, hs⟩ := vr_str hx
    obtain ⟨s', rfl, hs'⟩ := vr_str hy
    exact ⟨_, e, fun hb => by rw [ba_eq_of hs hs' hb]⟩
  · cases x <;> simp only [eq1K, reduceCtorEq] at e <;> cases y <;> simp only [reduceCtorEq] at e
    rw [vr_bool hx, vr_bool hy]
    rename_i p q
    cases p <;> cases q <;> first | exact ⟨true, e, fun _ => rfl⟩ | exact ⟨false, e, fun hb => by cases hb⟩
/-- Such values are the same to the bit. -/
def PrimV : Value → Prop
  | .int _ _ | .string _ | .bool _ => True
  | _ => False
theorem ba_beq (s : ByteArray) : (s == s) = true := by
  obtain ⟨⟨x⟩⟩ := s
  show ((⟨x⟩ : Array UInt8) == ⟨x⟩) = true
  simp
theorem sameBits_prim {v : Value} (h : PrimV v) (n : Nat) : Instr.sameBits n v v = true := by
  cases v <;> first | exact h.elim | (unfold Instr.sameBits; simp [ba_beq])
def KeyV : EqC → Value → Prop
  | .flat l, v => ∃ xs, v = .agg xs ∧ ∀ x ∈ xs.toList, PrimV x
  | _, v => PrimV v
theorem sameBits_key {c : EqC} {v : Value} (h : KeyV c v) : Instr.sameBits 10000 v v = true := by
  cases c with
  | flat l =>
    obtain ⟨xs, rfl, hx⟩ := h
    unfold Instr.sameBits
    simp only [beq_self_eq_true, Bool.true_and, List.all_eq_true]
    intro p hp
    obtain ⟨i, hi⟩ := List.getElem?_of_mem hp
    rw [List.getElem?_zip_eq_some] at hi
    obtain ⟨h1, h2⟩ := hi
    rw [h1] at h2
    have : p.1 = p.2 := by simpa using h2
    rw [← this]
    exact sameBits_prim (hx _ (List.mem_of_getElem? h1)) _
  | _ => exact sameBits_prim h _
theorem prim_of1 {c : EqC} (hc : c = .int ∨ c = .str ∨ c = .bool) {x y : V} {x' : Value} {k : Bool → O C} {r : C} (hx : VR ml σ x x') (e : eq1K c x y k = some r) : PrimV x' := by
  rcases hc with rfl | rfl | rfl
  · cases x <;> simp only [eq1K, reduceCtorEq] at e
    rw [vr_int hx]; trivial
  · cases x <;> simp only [eq1K, reduceCtorEq] at e
    obtain ⟨s, rfl, _⟩ := vr_str hx
    trivial
  · cases x <;> simp only [eq1K, reduceCtorEq] at e
    rw [vr_bool hx]; trivial
theorem eqL_true : ∀ (l : List EqC) (fs : List Field) (i : Nat) (xs ys : List V) (X Y : List Value) (k : Bool → O C) (r : C), FlatF P l fs i → VRL ml σ xs X → VRL ml σ ys Y → eqLK l xs ys k = some r → ∃ b, k b = some r ∧ (b = true → X = Y ∧ ∀ x ∈ X, PrimV x)
  | [], [], _, xs, ys, X, Y, k, r, _, hx, hy, e => by
    match xs, ys, X, Y, hx, hy, e with
    | [], [], [], [], _, _, e => exact ⟨true, e, fun _ => ⟨rfl, by simp⟩⟩
  | c :: l, f :: fs, i, xs, ys, X, Y, k, r, hf, hx, hy, e => by
    obtain ⟨_, _, _, _, h5, h6⟩ := hf
    match xs, ys, X, Y, hx, hy, e with
    | x :: xs, y :: ys, u :: X, v :: Y, hx, hy, e =>
      obtain ⟨b, hb, hbe⟩ := eq1_true (k := fun b => boolK b (eqLK l xs ys k) (k false)) h5 hx.1 hy.1 e
      cases b with
      | false => exact ⟨false, hb, fun z => by cases z⟩
      | true =>
        obtain ⟨b, h1, h2⟩ := eqL_true l fs (i + 1) xs ys X Y k r h6 hx.2 hy.2 hb
        have hp := prim_of1 h5 hx.1 e
        exact ⟨b, h1, fun z => ⟨by rw [hbe rfl, (h2 z).1], by simpa using ⟨hp, (h2 z).2⟩⟩⟩
theorem eqK_true {c : EqC} {x y : V} {x' y' : Value} {k : Bool → O C} {r : C} {t : TypeId} (hc : KeyC c) (ht : EqT P c t) (hx : VR ml σ x x') (hy : VR ml σ y y') (e : eqK c x y k = some r) : ∃ b, k b = some r ∧ (b = true → x' = y' ∧ KeyV c x') := by
  cases c with
  | int => obtain ⟨b, h1, h2⟩ := eq1_true (.inl rfl) hx hy e; exact ⟨b, h1, fun z => ⟨h2 z, prim_of1 (.inl rfl) hx e⟩⟩
  | str => obtain ⟨b, h1, h2⟩ := eq1_true (.inr (.inl rfl)) hx hy e; exact ⟨b, h1, fun z => ⟨h2 z, prim_of1 (.inr (.inl rfl)) hx e⟩⟩
  | bool => obtain ⟨b, h1, h2⟩ := eq1_true (.inr (.inr rfl)) hx hy e; exact ⟨b, h1, fun z => ⟨h2 z, prim_of1 (.inr (.inr rfl)) hx e⟩⟩
  | flat l =>
    obtain ⟨fs, _, _, _, h3⟩ := ht
    cases x <;> simp only [eqK, reduceCtorEq] at e <;> cases y <;> simp only [reduceCtorEq] at e
    cases x' <;> simp only [VR] at hx
    cases y' <;> simp only [VR] at hy
    obtain ⟨b, h1, h2⟩ := eqL_true l fs.toList 0 _ _ _ _ k r h3 hx.1 hy.1 e
    exact ⟨b, h1, fun z => ⟨by rw [Array.toList_inj.1 (h2 z).1], _, rfl, (h2 z).2⟩⟩
  | _ => exact hc.elim
/-- The entry of a key. -/
def EnR (ml : Gl) (σ : Sg) : List (V × V × Nat) → List MapEntry → Prop
  | [], [] => True
  | e :: es, x :: xs => (VR ml σ e.1 x.key ∧ VR ml σ e.2.1 x.val ∧ x.born = e.2.2) ∧ EnR ml σ es xs
  | _, _ => False
theorem EnR.of {es : List (V × V × Nat)} : ∀ {xs : List MapEntry}, es.length = xs.length → (∀ (i : Nat) (e : V × V × Nat), es[i]? = some e → ∃ x : MapEntry, xs[i]? = some x ∧ VR ml σ e.1 x.key ∧ VR ml σ e.2.1 x.val ∧ x.born = e.2.2) → EnR ml σ es xs := by
  induction es with
  | nil => intro xs hl _; cases xs with | nil => trivial | cons => cases hl
  | cons e es ih =>
    intro xs hl hh
    cases xs with
    | nil => cases hl
    | cons x xs =>
      obtain ⟨y, h1, h2⟩ := hh 0 e rfl
      simp at h1; subst h1
      exact ⟨h2, ih (by simpa using hl) fun i e' he => by simpa using hh (i + 1) e' (by simpa using he)⟩
theorem EnR.length {es : List (V × V × Nat)} : ∀ {xs : List MapEntry}, EnR ml σ es xs → es.length = xs.length := by
  induction es with
  | nil => intro xs h; cases xs with | nil => rfl | cons => exact h.elim
  | cons e es ih => intro xs h; cases xs with | nil => exact h.elim | cons x xs => simp [ih h.2]
theorem EnR.get {es : List (V × V × Nat)} : ∀ {xs : List MapEntry} {i : Nat} {e : V × V × Nat}, EnR ml σ es xs → es[i]? = some e → ∃ x, xs[i]? = some x ∧ VR ml σ e.1 x.key ∧ VR ml σ e.2.1 x.val ∧ x.born = e.2.2 := by
  induction es with
  | nil => intro xs i e h he; simp at he
  | cons e0 es ih =>
    intro xs i e h he
    cases xs with
    | nil => exact h.elim
    | cons x xs =>
      cases i with
      | zero => simp at he; subst he; exact ⟨x, rfl, h.1⟩
      | succ i => simpa using ih h.2 (by simpa using he)
theorem EnR.append {es es' : List (V × V × Nat)} : ∀ {xs xs' : List MapEntry}, EnR ml σ es xs → EnR ml σ es' xs' → EnR ml σ (es ++ es') (xs ++ xs') := by
  induction es with
  | nil => intro xs xs' h h'; cases xs with | nil => exact h' | cons => exact h.elim
  | cons e es ih => intro xs xs' h h'; cases xs with | nil => exact h.elim | cons x xs => exact ⟨h.1, ih h.2 h'⟩
theorem EnR.obR {es : List (V × V × Nat)} {xs : Array MapEntry} {clk : Nat} {p : Pl} (h : EnR ml σ es xs.toList) : ObR ml σ p (.map es clk) (.map xs clk) := by
  simp only [ObR]
  refine ⟨trivial, by simpa using h.length, fun i e he => ?_⟩
  obtain ⟨x, h1, h2⟩ := h.get he
  exact ⟨x, by simpa using h1, h2⟩
theorem ObR.enR {es : List (V × V × Nat)} {xs : Array MapEntry} {clk clk' : Nat} {p : Pl} (h : ObR ml σ p (.map es clk) (.map xs clk')) : clk' = clk ∧ EnR ml σ es xs.toList := by
  simp only [ObR] at h
  exact ⟨h.1, EnR.of (by simpa using h.2.1) fun i e he => by obtain ⟨x, h1, h2⟩ := h.2.2 i e he; exact ⟨x, by simpa using h1, h2⟩⟩
def kindOf (P : Program) (t : TypeId) (c : EqC) : Prop := match c with
  | .int => ∃ kd, P.underlying t = some (.int kd)
  | .str => P.underlying t = some .string
  | .bool => P.underlying t = some .bool
  | _ => False
theorem now1 {c : EqC} {d : TypeDesc} {t : TypeId} (hc : c = .int ∨ c = .str ∨ c = .bool) (ht : EqT1 P c t) (hd : P.underlying t = some d) {x y : V} {x' y' : Value} {k : Bool → O C} {r : C} (hx : VR ml σ x x') (hy : VR ml σ y y') (e : eq1K c x y k = some r) :
    ∃ b, Instr.sameNow d x' y' = some b ∧ k b = some r := by
  rcases hc with rfl | rfl | rfl
  · cases x <;> simp only [eq1K, reduceCtorEq] at e <;> cases y <;> simp only [reduceCtorEq] at e
    obtain ⟨hk, e2⟩ := boolK_inv e
    have hk := kdeq_eq hk
    subst hk
    rw [ieq_eq] at e2
    obtain ⟨kd', ht⟩ := ht
    rw [ht] at hd; cases hd
    rw [vr_int hx, vr_int hy]
    exact ⟨_, by simp only [Instr.sameNow, if_true]; rfl, e2⟩
  · cases x <;> simp only [eq1K, reduceCtorEq] at e <;> cases y <;> simp only [reduceCtorEq] at e
    obtain ⟨s, rfl, hs⟩ := vr_str hx
    obtain ⟨s', rfl, hs'⟩ := vr_str hy
    have ht : P.underlying t = some .string := ht
    rw [ht] at hd; cases hd
    exact ⟨_, by simp only [Instr.sameNow]; rfl, by rw [← seq_rel hs hs']; exact e⟩
  · cases x <;> simp only [eq1K, reduceCtorEq] at e <;> cases y <;> simp only [reduceCtorEq] at e
    rw [vr_bool hx, vr_bool hy]
    have ht : P.underlying t = some .bool := ht
    rw [ht] at hd; cases hd
    rename_i p q
    cases p <;> cases q <;> first | exact ⟨true, rfl, e⟩ | exact ⟨false, rfl, e⟩
/-- What a search finds. -/
def Found (ml : Gl) (σ : Sg) (c : EqC) (key : Value) (es : List (V × V × Nat)) (xs : List MapEntry) (i : Nat) (no : O C) (yes : Nat → V × V × Nat → O C) (r : C) (res : Option (Nat × Value)) : Prop :=
  (res = none ∧ no = some r) ∨ ∃ j e x, es[j]? = some e ∧ xs[j]? = some x ∧ res = some (i + j, x.val) ∧ yes (i + j) e = some r ∧ x.key = key ∧ KeyV c key
theorem Found.step {c : EqC} {key : Value} {es : List (V × V × Nat)} {xs : List MapEntry} {i : Nat} {no : O C} {yes : Nat → V × V × Nat → O C} {r : C} {res : Option (Nat × Value)} (e0 : V × V × Nat) (x0 : MapEntry) (h : Found ml σ c key es xs (i + 1) no yes r res) : Found ml σ c key (e0 :: es) (x0 :: xs) i no yes r res := by
  rcases h with h | ⟨j, e, x, h1, h2, h3, h4, h5⟩
  · exact .inl h
  · exact .inr ⟨j + 1, e, x, by simpa using h1, by simpa using h2, by rw [h3]; congr 2; omega, by rw [show i + (j + 1) = i + 1 + j by omega]; exact h4, h5⟩
theorem findK_cons {c : EqC} {kv : V} {e0 : V × V × Nat} {es : List (V × V × Nat)} {i : Nat} {no : O C} {yes : Nat → V × V × Nat → O C} : findK c kv (e0 :: es) i no yes = eqK c kv e0.1 fun b => boolK b (yes i e0) (natK (Nat.add i 1) fun i => findK c kv es i no yes) := rfl
theorem find_now {c : EqC} {d : TypeDesc} {t : TypeId} {kv : V} {key : Value} (hc : c = .int ∨ c = .str ∨ c = .bool) (ht : EqT1 P c t) (hd : P.underlying t = some d) (hk : VR ml σ kv key) {no : O C} {yes : Nat → V × V × Nat → O C} {r : C} : ∀ (es : List (V × V × Nat)) (xs : List MapEntry) (i : Nat), EnR ml σ es xs →
    findK c kv es i no yes = some r → ∃ res, Instr.findNow d key xs i = some res ∧ Found ml σ c key es xs i no yes r res
  | [], [], i, _, e => ⟨none, rfl, .inl ⟨rfl, e⟩⟩
  | e0 :: es, x0 :: xs, i, hen, e => by
    rw [findK_cons] at e
    have e1 : eq1K c kv e0.1 (fun b => boolK b (yes i e0) (natK (Nat.add i 1) fun i => findK c kv es i no yes)) = some r := by
      rcases hc with rfl | rfl | rfl <;> exact e
    obtain ⟨b, h1, h2⟩ := now1 hc ht hd hk hen.1.1 e1
    obtain ⟨b', h3, h4⟩ := eq1_true hc hk hen.1.1 e1
    have hp := prim_of1 hc hk e1
    cases b with
    | true =>
      refine ⟨some (i, x0.val), by simp [Instr.findNow, h1], .inr ⟨0, e0, x0, rfl, rfl, rfl, h2, ?_, ?_⟩⟩
      · have : Instr.sameNow d key x0.key = some true := h1
        rcases hc with rfl | rfl | rfl
        · obtain ⟨kd, ht⟩ := ht; rw [ht] at hd; cases hd
          cases key <;> simp only [Instr.sameNow, reduceCtorEq] at this
          generalize x0.key = q at this
          cases q <;> simp only [Instr.sameNow, reduceCtorEq] at this
          split at this
          · rename_i hkk
            subst hkk
            simp at this
            rw [this]
          · cases this
        · have ht : P.underlying t = some .string := ht
          rw [ht] at hd; cases hd
          cases key <;> simp only [Instr.sameNow, reduceCtorEq] at this
          generalize x0.key = q at this
          cases q <;> simp only [Instr.sameNow, reduceCtorEq, Option.some.injEq] at this
          rename_i s s'
          obtain ⟨⟨x⟩⟩ := s
          obtain ⟨⟨y⟩⟩ := s'
          have : ((⟨x⟩ : Array UInt8) == ⟨y⟩) = true := this
          simp at this
          rw [this]
        · have ht : P.underlying t = some .bool := ht
          rw [ht] at hd; cases hd
          cases key <;> simp only [Instr.sameNow, reduceCtorEq] at this
          generalize x0.key = q at this
          cases q <;> simp only [Instr.sameNow, reduceCtorEq, Option.some.injEq] at this
          simp at this
          rw [this]
      · rcases hc with rfl | rfl | rfl <;> exact hp
    | false =>
      have h2 : natK (Nat.add i 1) (fun i => findK c kv es i no yes) = some r := h2
      rw [natK_eq] at h2
      obtain ⟨res, q1, q2⟩ := find_now hc ht hd hk es xs (i + 1) hen.2 h2
      exact ⟨res, by simp [Instr.findNow, h1, q1], q2.step e0 x0⟩
theorem eq1K_val {c : EqC} {x y : V} {k : Bool → O C} {r : C} (e : eq1K c x y k = some r) : ∃ b, (∀ k' : Bool → O C, eq1K c x y k' = k' b) ∧ k b = some r := by
  cases c <;> cases x <;> simp only [eq1K, reduceCtorEq] at e <;> cases y <;> (try simp only [reduceCtorEq] at e)
  · obtain ⟨h1, e2⟩ := boolK_inv e
    exact ⟨_, fun k' => by simp only [eq1K, h1]; rfl, e2⟩
  · exact ⟨_, fun k' => rfl, e⟩
  · rename_i a b
    cases a with
    | true => exact ⟨b, fun k' => rfl, e⟩
    | false => exact ⟨_, fun k' => rfl, e⟩
  all_goals first
    | exact ⟨_, fun k' => rfl, e⟩
    | (split at e
       · rename_i hid
         exact ⟨_, fun k' => by simp only [eq1K, if_pos hid], e⟩
       · cases e)
theorem eqLK_val : ∀ (l : List EqC) (xs ys : List V) {k : Bool → O C} {r : C}, eqLK l xs ys k = some r → ∃ b, (∀ k' : Bool → O C, eqLK l xs ys k' = k' b) ∧ k b = some r
  | [], xs, ys, k, r, e => by
    match xs, ys, e with
    | [], [], e => exact ⟨true, fun _ => rfl, e⟩
    | [], _ :: _, e => cases e
    | _ :: _, _, e => cases e
  | c :: l, xs, ys, k, r, e => by
    match xs, ys, e with
    | [], _, e => cases e
    | _ :: _, [], e => cases e
    | x :: xs, y :: ys, e =>
      replace e : eq1K c x y (fun b => boolK b (eqLK l xs ys k) (k false)) = some r := e
      obtain ⟨b, h1, h2⟩ := eq1K_val e
      cases b with
      | false => exact ⟨false, fun k' => (h1 (fun b => boolK b (eqLK l xs ys k') (k' false))), h2⟩
      | true =>
        obtain ⟨b, h3, h4⟩ := eqLK_val l xs ys (k := k) h2
        exact ⟨b, fun k' => (h1 (fun b => boolK b (eqLK l xs ys k') (k' false))).trans (h3 k'), h4⟩
theorem eqK_val {c : EqC} {x y : V} {k : Bool → O C} {r : C} (e : eqK c x y k = some r) : ∃ b, (∀ k' : Bool → O C, eqK c x y k' = k' b) ∧ k b = some r := by
  cases c with
  | flat l =>
    cases x <;> simp only [eqK, reduceCtorEq] at e <;> cases y <;> simp only [reduceCtorEq] at e
    exact eqLK_val l _ _ e
  | int => exact eq1K_val (c := .int) e
  | str => exact eq1K_val (c := .str) e
  | bool => exact eq1K_val (c := .bool) e
  | ptr => exact eq1K_val (c := .ptr) e
  | slc => exact eq1K_val (c := .slc) e
  | ifc => exact eq1K_val (c := .ifc) e
  | fnc => exact eq1K_val (c := .fnc) e
theorem find_asking {c : EqC} {t : TypeId} {kv : V} {key : Value} (hc : KeyC c) (ht : EqT P c t) (hk : VR ml σ kv key) {no : O C} {yes : Nat → V × V × Nat → O C} {r : C} : ∀ (es : List (V × V × Nat)) (xs : List MapEntry) (i : Nat), EnR ml σ es xs →
    findK c kv es i no yes = some r → ∀ {Q : Option (Nat × Value) → World → Prop}, (∀ res, Found ml σ c key es xs i no yes r res → Q res w) → SW P N0 own n0 (Instr.findAsking t key xs i) w Q
  | [], [], i, _, e, Q, hq => hq none (.inl ⟨rfl, e⟩)
  | e0 :: es, x0 :: xs, i, hen, e, Q, hq => by
    rw [findK_cons] at e
    unfold Instr.findAsking
    rw [SW_bind]
    obtain ⟨b, hb, e2⟩ := eqK_val e
    have hkb : eqK c kv e0.1 (fun b' => if b' = b then some r else none) = some r := by rw [hb]; simp
    obtain ⟨b', h3, h4⟩ := eqK_true hc ht hk hen.1.1 hkb
    have h4 : b = true → key = x0.key ∧ KeyV c key := by
      intro hbt
      refine h4 ?_
      by_cases hbb : b' = b
      · rw [hbb]; exact hbt
      · rw [if_neg hbb] at h3; cases h3
    refine eq_rel (d := 9998) hk hen.1.1 ht hkb fun b'' hb'' => ?_
    have hbb : b'' = b := by
      by_cases hbb : b'' = b
      · exact hbb
      · rw [if_neg hbb] at hb''; cases hb''
    rw [hbb]
    cases b with
    | true =>
      simp only [if_true, SW_pure]
      have := h4 rfl
      exact hq _ (.inr ⟨0, e0, x0, rfl, rfl, rfl, e2, this.1.symm, this.2⟩)
    | false =>
      simp only [Bool.false_eq_true, if_false]
      have e3 : natK (Nat.add i 1) (fun i => findK c kv es i no yes) = some r := e2
      rw [natK_eq] at e3
      exact find_asking hc ht hk es xs (i + 1) hen.2 e3 fun res hr => hq res (hr.step e0 x0)
theorem find_rel {c : EqC} {t : TypeId} {kv : V} {key : Value} (hc : KeyC c) (ht : EqT P c t) (hk : VR ml σ kv key) {no : O C} {yes : Nat → V × V × Nat → O C} {r : C} {es : List (V × V × Nat)} {xs : List MapEntry} (hen : EnR ml σ es xs)
    (e : findK c kv es 0 no yes = some r) {Q : Option (Nat × Value) → World → Prop} (hq : ∀ res, Found ml σ c key es xs 0 no yes r res → Q res w) : SW P N0 own n0 (Instr.findKey t key xs) w Q := by
  have now : ∀ d, P.underlying t = some d → (c = .int ∨ c = .str ∨ c = .bool) → EqT1 P c t → SW P N0 own n0 (Instr.findKey t key xs) w Q := by
    intro d hd hc' ht'
    obtain ⟨res, h1, h2⟩ := find_now hc' ht' hd hk es xs 0 hen e
    unfold Instr.findKey
    rw [SW_bind, SW_underlying hd, h1]
    exact hq res h2
  cases c with
  | int => obtain ⟨kd, h⟩ := id ht; exact now _ h (.inl rfl) ht
  | str => exact now _ ht (.inr (.inl rfl)) ht
  | bool => exact now _ ht (.inr (.inr rfl)) ht
  | flat l =>
    have ask := find_asking (P := P) (N0 := N0) (own := own) (n0 := n0) (w := w) hc ht hk es xs 0 hen e hq
    obtain ⟨fs, hfs, _⟩ := id ht
    unfold Instr.findKey
    rw [SW_bind, SW_underlying hfs]
    cases xs with
    | nil =>
      unfold Instr.findAsking at ask
      exact ask
    | cons x xs =>
      have : Instr.findNow (.struct fs) key (x :: xs) 0 = none := by simp [Instr.findNow, Instr.sameNow]
      rw [this]
      exact ask
  | _ => exact hc.elim
/-- A key that can be held against others. -/
theorem keyK_inv {c : EqC} {v : V} {k : O C} {r : C} (e : keyK c v k = some r) : k = some r ∧ KeyC c ∧ (∀ l, c = .flat l → ∃ cs, v = .agg cs ∧ cs.length = l.length) := by
  cases c <;> simp only [keyK, reduceCtorEq] at e
  · cases v <;> simp only [reduceCtorEq] at e; exact ⟨e, trivial, fun l h => by cases h⟩
  · cases v <;> simp only [reduceCtorEq] at e; exact ⟨e, trivial, fun l h => by cases h⟩
  · cases v <;> simp only [reduceCtorEq] at e; exact ⟨e, trivial, fun l h => by cases h⟩
  · cases v <;> simp only [reduceCtorEq] at e
    obtain ⟨h1, e2⟩ := boolK_inv e
    have h1 := Nat.eq_of_beq_eq_true h1
    rw [llen_eq, llen_eq, Nat.zero_add, Nat.zero_add] at h1
    exact ⟨e2, trivial, fun l h => by cases h; exact ⟨_, rfl, h1⟩⟩
theorem check1 {c : EqC} {t : TypeId} (hc : c = .int ∨ c = .str ∨ c = .bool) (ht : EqT1 P c t) {em : Bool} {n : Nat} {v : Value} {Q : Unit → World → Prop} (hq : Q () w) : SW P N0 own n0 (Instr.checkKey em (n + 1) t v) w Q := by
  unfold Instr.checkKey
  rcases hc with rfl | rfl | rfl
  · obtain ⟨kd, ht⟩ := ht
    rw [SW_bind, SW_underlying ht]
    cases v <;> exact hq
  · rw [SW_bind, SW_underlying ht]
    cases v <;> exact hq
  · rw [SW_bind, SW_underlying ht]
    cases v <;> exact hq
theorem checkL {em : Bool} {n : Nat} {X : Array Value} : ∀ (l : List EqC) (fs : List Field) (i : Nat), FlatF P l fs i → i + l.length ≤ X.size → ∀ {Q : Unit → World → Prop}, Q () w →
    SW P N0 own n0 (forIn fs () (fun f _ => do
      if f.name ≠ "_" then
        Instr.checkKey em (n + 1) f.type (← part f.type X f.offset)
        pure (ForInStep.yield ())
      else pure (ForInStep.yield ()))) w Q
  | [], [], i, _, _, Q, hq => by simp only [List.forIn_nil]; exact hq
  | c :: l, f :: fs, i, hf, hl, Q, hq => by
    obtain ⟨h1, h2, ⟨dd, h3, h4⟩, h5, h6, h7⟩ := hf
    simp only [List.length_cons] at hl
    simp only [List.forIn_cons, if_pos h1, SW_bind]
    rw [h2]
    refine SW_part1 h3 h4 (x := X[i]) (by simp [show i < X.size by omega]) ?_
    refine check1 h6 h5 ?_
    simp only [SW_pure]
    exact checkL l fs (i + 1) h7 (by omega) hq
theorem check_rel {c : EqC} {t : TypeId} {kv : V} {key : Value} (hc : KeyC c) (ht : EqT P c t) (hk : VR ml σ kv key) (hl : ∀ l, c = .flat l → ∃ cs, kv = .agg cs ∧ cs.length = l.length) {em : Bool} {Q : Unit → World → Prop} (hq : Q () w) :
    SW P N0 own n0 (Instr.checkKey em 10000 t key) w Q := by
  cases c with
  | int => exact check1 (c := .int) (.inl rfl) ht hq
  | str => exact check1 (c := .str) (.inr (.inl rfl)) ht hq
  | bool => exact check1 (c := .bool) (.inr (.inr rfl)) ht hq
  | flat l =>
    obtain ⟨fs, h1, _, _, h3⟩ := ht
    obtain ⟨cs, rfl, hcs⟩ := hl l rfl
    cases key <;> simp only [VR] at hk
    rename_i X
    unfold Instr.checkKey
    rw [SW_bind, SW_underlying h1]
    have := checkL (P := P) (N0 := N0) (own := own) (n0 := n0) (w := w) (em := em) (n := 9998) (X := X) l fs.toList 0 h3 (by have := hk.1.length; rw [hcs] at this; simp at this; omega) hq
    simp only
    rw [← Array.forIn_toList, SW_bind]
    exact SW.mono this fun _ _ h => h
  | _ => exact hc.elim
end
end Go.Gb
end
