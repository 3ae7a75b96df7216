/- A part of the proof of the statement Rows.TopMissingCardSaid (at every argument the law returns true on every schedule, and its argument reads as before; the listed variables as laid). This text: a stepper over symbolic states of the translated program and its soundness, part 18 of 41. -/
import Derived.Test.YtgabhijnigpbdaaGreatDoorM17
section
/-! The evaluator's frames and the model's. -/
set_option linter.unusedSimpArgs false
set_option linter.unusedVariables false
set_option linter.unusedSectionVars false
namespace Go.Gb
open Go.Conc
def ArgsR (args : List Opd) (xs : Array Operand) : Prop := args.length = xs.size ∧ ∀ (i : Nat) x y, args[i]? = some x → xs.toList[i]? = some y → OpdR x y
def ZeroR (P : Program) (t : TypeId) (z : V) : Prop := ∃ i z', P.info? t = some i ∧ i.zero = some z' ∧ ∀ ml σ, VR ml σ z z'
inductive FxR (P : Program) : Op → Fx → Prop
  | call {c : Call} {f : Opd} {f' : Operand} {args : List Opd} (hc : c.callee = .value f') (hf : OpdR f f') (ha : ArgsR args c.args) : FxR P (.call c) (.call f args)
  | go {c : Call} {f : Opd} {f' : Operand} {args : List Opd} (hc : c.callee = .value f') (hf : OpdR f f') (ha : ArgsR args c.args) : FxR P (.go c) (.go f args)
  | defer {c : Call} {f : Opd} {f' : Operand} {args : List Opd} (hc : c.callee = .value f') (hf : OpdR f f') (ha : ArgsR args c.args) : FxR P (.defer c) (.defer f args)
  | close {c : Call} {x : Opd} {x' : Operand} (hc : c.callee = .builtin .close) (ha : c.args = #[x']) (hx : OpdR x x') : FxR P (.defer c) (.close x)
  | panic {x : Opd} {x' : Operand} (hx : OpdR x x') : FxR P (.panic x') (.panic x)
  | recov {c : Call} (hc : c.callee = .builtin .recover) : FxR P (.call c) .recov
  | recv {t el : TypeId} {c : Opd} {c' : Operand} {d : ChanDir} {z : V} {ok : Bool} (ht : P.underlying t = some (.chan d el)) (hz : ZeroR P el z) (hc : OpdR c c') : FxR P (.recv t c' ok) (.recv c z ok)
  | send1 {c x : Opd} {c' x' : Operand} {t : TypeId} {z : V} (hz : ZeroR P t z) (hc : OpdR c c') (hx : OpdR x x') : FxR P (.select #[⟨c', some x', t⟩] false) (.send1 c x)
  | take1 {c : Opd} {c' : Operand} {t : TypeId} {z : V} (hz : ZeroR P t z) (hc : OpdR c c') : FxR P (.select #[⟨c', none, t⟩] false) (.take1 c z)
  | send2 {c x e : Opd} {c' x' e' : Operand} {t t' : TypeId} {z0 z : V} (hz0 : ZeroR P t z0) (hz : ZeroR P t' z) (hc : OpdR c c') (hx : OpdR x x') (he : OpdR e e') : FxR P (.select #[⟨c', some x', t⟩, ⟨e', none, t'⟩] true) (.send2 c x e z)
  | nextM {it : Opd} {it' : Operand} (hi : OpdR it it') : FxR P (.next it' false) (.nextM it)
structure TopR (P : Program) (N0 : Nat) (mla : Addr) (ml : Gl) (nt : Nat) (ops : List Oper) (o : Oper) (t : TOp) : Prop where
  dst : (o.dst = none ∧ t.dst = none) ∨ ∃ p : Gb.P, o.dst = some p.toNat ∧ t.dst = some p ∧ p.toNat < nt
  g : (o.guard = none ∧ t.g = none) ∨ ∃ j b oj, ∃ p : Gb.P, o.guard = some (j, b) ∧ ops[j]? = some oj ∧ oj.dst = some p.toNat ∧ t.g = some (p, b)
  wh : (∃ i, t.wh = .i i ∧ SndOp P N0 mla ml o.op i ∧ ∀ c, o.op ≠ .defer c) ∨ (∃ x, t.wh = .f x ∧ FxR P o.op x)
section
variable {C : Type} {E : Env} {P : Program} {N0 : Nat} {mla : Addr} {ml : Gl} {r : C}
theorem callIns_inv {c : Call} {k : Opd → List Opd → O C} (e : callIns c k = some r) : ∃ f f' args, c.callee = .value f' ∧ OpdR f f' ∧ ArgsR args c.args ∧ k f args = some r := by
  unfold callIns at e
  cases hc : c.callee with
  | value f' =>
    rw [hc] at e
    obtain ⟨f, hf, e⟩ := oK_inv e
    obtain ⟨args, h1, h2, e⟩ := osK_inv _ e
    exact ⟨f, f', args, rfl, hf, ⟨by simpa using h1, h2⟩, e⟩
  | _ => rw [hc] at e; cases e
theorem zeroVK_R (hE : EnvOk P E mla ml) {t : Nat} {k : V → O C} {r : C} (e : zeroVK E t k = some r) : ∃ z, ZeroR P t z ∧ k z = some r := by
  obtain ⟨i, z, zv, h1, h2, h3, e⟩ := zeroVK_inv hE.tys e
  exact ⟨zv, ⟨i, z, h1, h2, h3⟩, e⟩
theorem selIns_inv (hE : EnvOk P E mla ml) {cs : Array SelectCase} {b : Bool} {k : Fx → O C} (e : selIns E cs.toList b k = some r) : ∃ x, FxR P (.select cs b) x ∧ k x = some r := by
  generalize hcs : cs.toList = l at e
  unfold selIns at e
  split at e
  · have := one_list hcs
    subst this
    obtain ⟨z, hz, e⟩ := zeroVK_R hE e
    obtain ⟨c', hc, e⟩ := oK_inv e
    obtain ⟨x', hx, e⟩ := oK_inv e
    exact ⟨_, .send1 hz hc hx, e⟩
  · have := one_list hcs
    subst this
    obtain ⟨c', hc, e⟩ := oK_inv e
    obtain ⟨z, hz, e⟩ := zeroVK_R hE e
    exact ⟨_, .take1 hz hc, e⟩
  · have := two_list hcs
    subst this
    obtain ⟨z, hz, e⟩ := zeroVK_R hE e
    obtain ⟨c', hc, e⟩ := oK_inv e
    obtain ⟨x', hx, e⟩ := oK_inv e
    obtain ⟨e', he, e⟩ := oK_inv e
    obtain ⟨z', hz', e⟩ := zeroVK_R hE e
    exact ⟨_, .send2 hz hz' hc hx he, e⟩
  · cases e
theorem compW_inv (hE : EnvOk P E mla ml) (op : Op) {k : Wh → O C} (e : compW E op k = some r) : ∃ w, ((∃ i, w = .i i ∧ SndOp P N0 mla ml op i ∧ ∀ c, op ≠ .defer c) ∨ (∃ x, w = .f x ∧ FxR P op x)) ∧ k w = some r := by
  have gen : ∀ {op : Op}, compI E op (fun i => k (.i i)) = some r → ∃ w, ((∃ i, w = .i i ∧ SndOp P N0 mla ml op i ∧ ∀ c, op ≠ .defer c) ∨ (∃ x, w = .f x ∧ FxR P op x)) ∧ k w = some r := by
    intro op e0
    have e := e0
    obtain ⟨i, h1, e⟩ := compI_snd (N0 := N0) hE op e
    exact ⟨_, .inl ⟨i, rfl, h1, fun c hc => by subst hc; cases e0⟩, e⟩
  cases op
  case call c =>
    simp only [compW] at e
    cases hc : c.callee with
    | value f =>
      rw [hc] at e
      obtain ⟨f, f', args, h1, h2, h3, e⟩ := callIns_inv e
      exact ⟨_, .inr ⟨_, rfl, .call h1 h2 h3⟩, e⟩
    | builtin b =>
      rw [hc] at e
      by_cases hb : b = .recover
      · subst hb; exact ⟨_, .inr ⟨_, rfl, .recov hc⟩, e⟩
      · refine gen ?_
        cases b <;> first | exact e | exact absurd rfl hb
    | invoke x m => rw [hc] at e; exact gen e
  case go c =>
    obtain ⟨f, f', args, h1, h2, h3, e⟩ := callIns_inv (k := fun f args => k (.f (.go f args))) e
    exact ⟨_, .inr ⟨_, rfl, .go h1 h2 h3⟩, e⟩
  case defer c =>
    simp only [compW] at e
    cases hc : c.callee with
    | value f =>
      rw [hc] at e
      obtain ⟨f, f', args, h1, h2, h3, e⟩ := callIns_inv e
      exact ⟨_, .inr ⟨_, rfl, .defer h1 h2 h3⟩, e⟩
    | builtin b =>
      rw [hc] at e
      cases b <;> simp only [reduceCtorEq] at e
      generalize ha : c.args.toList = l at e
      match l, ha, e with
      | [x], ha, e =>
        obtain ⟨x', hx, e⟩ := oK_inv e
        exact ⟨_, .inr ⟨_, rfl, .close hc (one_list ha) hx⟩, e⟩
    | invoke x m => rw [hc] at e; cases e
  case panic x =>
    obtain ⟨x', hx, e⟩ := oK_inv (k := fun x => k (.f (.panic x))) e
    exact ⟨_, .inr ⟨_, rfl, .panic hx⟩, e⟩
  case recv t c ok =>
    simp only [compW] at e
    obtain ⟨d, hd, e⟩ := undK_inv hE.tys e
    cases d <;> simp only [reduceCtorEq] at e
    obtain ⟨z, hz, e⟩ := zeroVK_R hE e
    obtain ⟨c', hc, e⟩ := oK_inv e
    cases ok
    · exact ⟨_, .inr ⟨_, rfl, .recv hd hz hc⟩, e⟩
    · exact ⟨_, .inr ⟨_, rfl, .recv hd hz hc⟩, e⟩
  case select cs b =>
    obtain ⟨x, hx, e⟩ := selIns_inv hE (k := fun x => k (.f x)) e
    exact ⟨_, .inr ⟨x, rfl, hx⟩, e⟩
  case next it b =>
    cases b
    · obtain ⟨x', hx, e⟩ := oK_inv (k := fun it => k (.f (.nextM it))) e
      exact ⟨_, .inr ⟨_, rfl, .nextM hx⟩, e⟩
    · exact gen e
  all_goals exact gen e
theorem compT_dg {nt : Nat} {ops : List Oper} {o : Oper} {k : TOp → O C} (e : compT E nt ops o k = some r) : ∃ d g, ((o.dst = none ∧ d = none) ∨ ∃ p : Gb.P, o.dst = some p.toNat ∧ d = some p ∧ p.toNat < nt) ∧
    ((o.guard = none ∧ g = none) ∨ ∃ j b oj, ∃ p : Gb.P, o.guard = some (j, b) ∧ ops[j]? = some oj ∧ oj.dst = some p.toNat ∧ g = some (p, b)) ∧ (compW E o.op fun w => k ⟨d, g, w⟩) = some r := by
  unfold compT at e
  have hd : ∃ d, ((o.dst = none ∧ d = none) ∨ ∃ p : Gb.P, o.dst = some p.toNat ∧ d = some p ∧ p.toNat < nt) ∧ (gK ops o.guard fun g => compW E o.op fun w => k ⟨d, g, w⟩) = some r := by
    cases ho : o.dst with
    | none => rw [ho] at e; exact ⟨none, .inl ⟨rfl, rfl⟩, e⟩
    | some d =>
      rw [ho] at e
      obtain ⟨h1, e⟩ := boolK_inv e
      obtain ⟨p, h2, e⟩ := pK_inv e
      exact ⟨some p, .inr ⟨p, by rw [h2], rfl, by rw [h2]; exact Nat.le_of_ble_eq_true h1⟩, e⟩
  obtain ⟨d, hd, e⟩ := hd
  have hg : ∃ g, ((o.guard = none ∧ g = none) ∨ ∃ j b oj, ∃ p : Gb.P, o.guard = some (j, b) ∧ ops[j]? = some oj ∧ oj.dst = some p.toNat ∧ g = some (p, b)) ∧ (compW E o.op fun w => k ⟨d, g, w⟩) = some r := by
    cases hg : o.guard with
    | none => rw [hg] at e; exact ⟨none, .inl ⟨rfl, rfl⟩, e⟩
    | some jb =>
      obtain ⟨j, b⟩ := jb
      rw [hg] at e
      obtain ⟨oj, h1, e⟩ := optK_inv e
      obtain ⟨dj, h2, e⟩ := optK_inv e
      obtain ⟨p, h3, e⟩ := pK_inv e
      have : ops[j]? = some oj := h1
      cases b
      · exact ⟨some (p, false), .inr ⟨j, false, oj, p, rfl, this, by rw [h2, h3], rfl⟩, e⟩
      · exact ⟨some (p, true), .inr ⟨j, true, oj, p, rfl, this, by rw [h2, h3], rfl⟩, e⟩
  obtain ⟨g, hg, e⟩ := hg
  exact ⟨d, g, hd, hg, e⟩
theorem compT_inv (hE : EnvOk P E mla ml) {nt : Nat} {ops : List Oper} {o : Oper} {k : TOp → O C} (e : compT E nt ops o k = some r) : ∃ t, TopR P N0 mla ml nt ops o t ∧ k t = some r := by
  obtain ⟨d, g, hd, hg, e⟩ := compT_dg e
  obtain ⟨w, hw, e⟩ := compW_inv (N0 := N0) hE o.op e
  exact ⟨_, ⟨hd, hg, hw⟩, e⟩
end
end Go.Gb
end
section
/-! The evaluator's states and the model's. -/
set_option linter.unusedSimpArgs false
set_option linter.unusedVariables false
set_option linter.unusedSectionVars false
namespace Go.Gb
open Go.Conc
section
variable (P : Program) (N0 : Nat) (mla : Addr) (ml : Gl)
/-- A region in the text's order, from an operation on. -/
def TextR (nt : Nat) (ops : List Oper) : List TOp → List Nat → Prop
  | [], [] => True
  | t :: l, i :: is => (∃ o, ops[i]? = some o ∧ TopR P N0 mla ml nt ops o t) ∧ TextR nt ops l is
  | _, _ => False
end
/-! regions whose order is drawn -/
def idxD : List DOp → List Nat
  | [] => []
  | .fl n :: l => n.i :: idxD l
  | .mk n :: l => n.i :: idxD l
  | .ef n :: l => n.i :: idxD l
  | .sync _ :: l => idxD l
/-- i stands ahead of j in every order. -/
inductive Prec (ops : List Oper) : Nat → Nat → Prop
  | one {i j : Nat} {o : Oper} {e : Edge} (h : ops[j]? = some o) (he : e ∈ o.after.toList) (hb : Region.binds .any e = true) (hi : e.on = i) : Prec ops i j
  | more {i k j : Nat} {o : Oper} {e : Edge} (h : ops[j]? = some o) (he : e ∈ o.after.toList) (hb : Region.binds .any e = true) (hi : e.on = k) (hp : Prec ops i k) : Prec ops i j
structure Lin (ops : List Oper) (τ : List Nat) : Prop where
  nodup : τ.Nodup
  rng : ∀ i ∈ τ, i < ops.length
  ord : ∀ a i b, τ = a ++ i :: b → ∀ o, ops[i]? = some o → ∀ e ∈ o.after.toList, Region.binds .any e = true → e.on ∉ i :: b
  done : ∀ k o, ops[k]? = some o → k ∉ τ → ∀ e ∈ o.after.toList, Region.binds .any e = true → e.on ∉ τ
theorem Lin.prec {ops : List Oper} {τ : List Nat} (H : Lin ops τ) {p j : Nat} (h : Prec ops p j) (hj : j ∉ τ) : p ∉ τ := by
  induction h with
  | one h he hb hi => subst hi; exact H.done _ _ h hj _ he hb
  | more h he hb hi hp ih => subst hi; exact ih (H.done _ _ h hj _ he hb)
theorem Lin.tail {ops : List Oper} {i : Nat} {τ : List Nat} (H : Lin ops (i :: τ)) : Lin ops τ := by
  refine ⟨(List.nodup_cons.1 H.nodup).2, fun k hk => H.rng k (by simp [hk]), fun a k b e o ho ed he hb => H.ord (i :: a) k b (by simp [e]) o ho ed he hb, fun k o ho hk ed he hb hm => ?_⟩
  by_cases hki : k = i
  · subst hki; exact H.ord [] k τ rfl o ho ed he hb (by simp [hm])
  · exact H.done k o ho (by simp [hki, hk]) ed he hb (by simp [hm])
theorem Lin.head {ops : List Oper} {i : Nat} {τ : List Nat} (H : Lin ops (i :: τ)) {p : Nat} (h : Prec ops p i) : p ∉ i :: τ := by
  cases h with
  | one h he hb hi => subst hi; exact H.ord [] i τ rfl _ h _ he hb
  | more h he hb hi hp => subst hi; exact H.prec hp (H.ord [] i τ rfl _ h _ he hb)
/-- Who makes, and what. -/
inductive MkR (P : Program) (op : Op) : Ins → Prop
  | alloc {el : TypeId} {i : TypeInfo} {z : Value} {zs : List V} (ho : op = .alloc el) (hi : P.info? el = some i) (hz : i.zero = some z) (hzs : ∀ ml σ, VRL ml σ zs z.cells.toList) (h1 : ∀ x ∈ z.cells.toList, OneCell x) : MkR P op (.alloc el zs)
  | chan {t el : TypeId} {c : Opd} {c' : Operand} {i : TypeInfo} {dr : ChanDir} (ho : op = .makeChan t c') (hc : OpdR c c') (ht : P.underlying t = some (.chan dr el)) (hi : P.info? el = some i) (hb : ∀ n : Nat, n ≤ 1048576 → (i.bytes : Int) * n ≤ 2 ^ 48 - 112) : MkR P op (.mkchan c)
section
variable (P : Program) (N0 : Nat) (mla : Addr) (ml : Gl)
def OpAt (nt : Nat) (ops : List Oper) (i : Nat) (t : TOp) : Prop := ∃ o, ops[i]? = some o ∧ TopR P N0 mla ml nt ops o t
/-- An operation of the region, with what is known of it. -/
structure NodeR (nt : Nat) (ops : List Oper) (n : Nd) : Prop where
  at' : OpAt P N0 mla ml nt ops n.i n.t
  prec : ∀ k, bitM k n.pr = true → Prec ops k n.i
  mkr : n.kd = 1 → ∀ o, ops[n.i]? = some o → ∀ i, n.t.wh = .i i → MkR P o.op i
  fls : n.kd ≠ 1 → n.kd ≠ 2 → ∃ i, n.t.wh = .i i ∧ isStill i = true
/-- All operations of the region. -/
structure NsOk (nt : Nat) (ops : List Oper) (ns : List Nd) : Prop where
  node : ∀ n ∈ ns, NodeR P N0 mla ml nt ops n
  uniq : ∀ n ∈ ns, ∀ m ∈ ns, n.i = m.i → n = m
  sep : ∀ n ∈ ns, n.kd ≠ 2 → ∀ d, n.t.dst = some d → ∀ m ∈ ns, (m.i = n.i → usesB m.t d = false) ∧ (m.i ≠ n.i → setsB m.t d = false ∧ (usesB m.t d = true → bitM n.i m.pr = true))
end
def NoEf : List DOp → Prop
  | .ef _ :: _ => False
  | _ => True
/-- What is looked at again ahead of the next effect. -/
def sync1 : List DOp → List Nd
  | [] => []
  | .fl _ :: l => sync1 l
  | .mk _ :: l => sync1 l
  | .ef _ :: _ => []
  | .sync s :: _ => s
def PlanS (ns : List Nd) : List DOp → Prop
  | [] => True
  | .fl n :: l => n ∈ ns ∧ n.kd ≠ 1 ∧ n.kd ≠ 2 ∧ n ∈ sync1 l ∧ PlanS ns l
  | .mk n :: l => n ∈ ns ∧ n.kd = 1 ∧ n ∈ sync1 l ∧ PlanS ns l
  | .ef n :: l => n ∈ ns ∧ n.kd = 2 ∧ (∀ m ∈ ns, m.i ∈ idxD l → bitM n.i m.pr = true) ∧ NoEf l ∧ PlanS ns l
  | .sync s :: l => (∀ n ∈ s, n ∈ ns ∧ n.kd ≠ 2) ∧ (l = [] ∨ ∃ n l', l = .ef n :: l' ∧ ∀ m ∈ s, bitM m.i n.pr = true ∨ m ∈ sync1 l') ∧ PlanS ns l
structure DgR (ns : List Nd) (ops : List Oper) (l : List DOp) (τ : List Nat) : Prop where
  lin : Lin ops τ
  plan : PlanS ns l
  node : ∀ j ∈ τ, ∃ n ∈ ns, n.i = j
  cov : ∀ j ∈ τ, j ∈ idxD l ∨ ∃ n ∈ sync1 l, n.i = j
  sub : ∀ j ∈ idxD l, j ∈ τ
  nodup : (idxD l).Nodup
/-- A region that has been left at an effect for a call. -/
def DgI (ns : List Nd) (ops : List Oper) (l : List DOp) (τ : List Nat) : Prop := match l with
  | .ef n :: rest => ∃ τ', τ = n.i :: τ' ∧ Lin ops (n.i :: τ') ∧ n ∈ ns ∧ n.kd = 2 ∧ NoEf rest ∧ DgR ns ops rest τ'
  | l => DgR ns ops l τ
section
variable (P : Program) (N0 : Nat) (mla : Addr) (ml : Gl)
def ItR (σ : Sg) (nt : Nat) : AIt → Item → Prop
  | .code a, .code c => c = a
  | .inBlock i, .inBlock j => j = i
  | .inLoop a, .inLoop c => c = a
  | .inScope a, .inScope c => c = a
  | .rg ops l, .inRegion ops' τ => ops' = ops ∧ TextR P N0 mla ml nt ops.toList l τ
  | .dg ops l, .inRegion ops' τ => ops' = ops ∧ ∃ ns, NsOk P N0 mla ml nt ops.toList ns ∧ DgI ns ops.toList l τ
  | .inRF l, .inRangeFunc l' => ∃ p, σ l = some p ∧ l' = p.bl
  | .endRF l, .endRangeFunc l' => ∃ p, σ l = some p ∧ l' = p.bl
  | .begR, .beginRound => True
  | _, _ => False
def ItsR (σ : Sg) (nt : Nat) : List AIt → List Item → Prop
  | [], [] => True
  | a :: l, b :: k => ItR P N0 mla ml σ nt a b ∧ ItsR σ nt l k
  | _, _ => False
end
/-- Not yet carried out in the model. -/
def PendN (l : List DOp) (τ : List Nat) (n : Nd) : Prop := n ∈ sync1 l ∧ n.i ∈ τ ∧ n.i ∉ idxD l
def Pend (l : List DOp) (τ : List Nat) (p : Gb.P) : Prop := ∃ n, PendN l τ n ∧ n.t.dst = some p
def PndI (l : List DOp) (τ : List Nat) (p : Gb.P) : Prop := match l, τ with
  | .ef _ :: rest, _ :: τ' => Pend rest τ' p
  | l, τ => Pend l τ p
def Pnd (todo : List AIt) (k : List Item) (p : Gb.P) : Prop := match todo, k with
  | .dg _ l :: _, .inRegion _ τ :: _ => PndI l τ p
  | _, _ => False
def vid : V → Option Gb.P
  | .ptr id _ => some id
  | .sl id _ _ _ => some id
  | .chan id => some id
  | _ => none
/-- What n has made. -/
def Made (regs : Regs) (n : Nd) (id : Gb.P) : Prop := n.kd = 1 ∧ ∃ p v, n.t.dst = some p ∧ T.get p regs = some v ∧ vid v = some id
/-- What is made and not yet laid in the model: these numbers. -/
structure VidsI (l : List DOp) (τ : List Nat) (regs : Regs) (vs : List Gb.P) : Prop where
  all : ∀ n, PendN l τ n → n.kd = 1 → ∃ id ∈ vs, Made regs n id
  only : ∀ id ∈ vs, ∃ n, PendN l τ n ∧ Made regs n id
  inj : ∀ n m id, PendN l τ n → PendN l τ m → Made regs n id → Made regs m id → n.i = m.i
def Vids (todo : List AIt) (k : List Item) (regs : Regs) (vs : List Gb.P) : Prop := match todo, k with
  | .dg _ (.ef _ :: rest) :: _, .inRegion _ (_ :: τ) :: _ => VidsI rest τ regs vs
  | .dg _ l :: _, .inRegion _ τ :: _ => VidsI l τ regs vs
  | _, _ => vs = []
def NotDg : AIt → Prop
  | .dg _ _ => False
  | _ => True
def TgtR (ml : Gl) (σ : Sg) : ATgt → Deferred → Prop
  | .fn g args, d => ∃ caps, d.target = .fn (.func g.toNat) caps ∧ VRL ml σ args (d.args ++ caps).toList
  | .close c, d => ∃ p ats ty cs, σ c = some p ∧ d.target = .builtin .close ats ty cs ∧ d.args = #[.chan (some p.bl)]
  | .coll id, d => ∃ p, σ id = some p ∧ d.target = .collected p.bl
def DfsR (ml : Gl) (σ : Sg) : List ATgt → List Deferred → Prop
  | [], [] => True
  | a :: l, b :: k => TgtR ml σ a b ∧ DfsR ml σ l k
  | _, _ => False
def ChR (ml : Gl) (σ : Sg) : List PE → List PanicEntry → Prop
  | [], [] => True
  | a :: l, b :: k => (VR ml σ a.v b.v ∧ b.recovered = a.recovered ∧ b.goexit = false) ∧ ChR ml σ l k
  | _, _ => False
def MdR (ml : Gl) (σ : Sg) : Md → FrameMode → Prop
  | .run, .run => True
  | .returning, .returning => True
  | .panicking c, .panicking c' => ChR ml σ c c'
  | _, _ => False
section
variable (P : Program) (N0 : Nat) (mla : Addr) (ml : Gl)
structure FrR (σ : Sg) (vs : List Gb.P) (fr : Fr) (f : Frame) : Prop where
  fn : f.fn = fr.fn.toNat
  nt : f.tmps.size = fr.nt
  regs : ∀ p v, T.get p fr.regs = some v → ¬ Pnd fr.todo f.todo p → VR ml σ v (f.tmps.getD p.toNat undef)
  todo : ItsR P N0 mla ml σ fr.nt fr.todo f.todo
  tail : ∀ x ∈ fr.todo.tail, NotDg x
  vids : Vids fr.todo f.todo fr.regs vs
  defers : DfsR ml σ fr.defers f.defers
  md : MdR ml σ fr.md f.mode
  kind : f.kind = if fr.dfd then .deferred else .normal
  round : (fr.round = none ∧ f.roundOf = none) ∨ ∃ l p, fr.round = some l ∧ σ l = some p ∧ f.roundOf = some p.bl
def FrsR (σ : Sg) : List (List Gb.P) → List Fr → List Frame → Prop
  | [], [], [] => True
  | vs :: vss, a :: l, b :: k => FrR P N0 mla ml σ vs a b ∧ FrsR σ vss l k
  | _, _, _ => False
end
theorem TgtR.mono {ml : Gl} {σ σ' : Sg} (hs : Sub σ σ') {a : ATgt} {d : Deferred} (h : TgtR ml σ a d) : TgtR ml σ' a d := by
  cases a with
  | fn g args => obtain ⟨c, h1, h2⟩ := h; exact ⟨c, h1, VRL.mono hs _ _ h2⟩
  | close c => obtain ⟨p, a, b, d, h1, h2⟩ := h; exact ⟨p, a, b, d, hs _ _ h1, h2⟩
  | coll id => obtain ⟨p, h1, h2⟩ := h; exact ⟨p, hs _ _ h1, h2⟩
theorem DfsR.mono {ml : Gl} {σ σ' : Sg} (hs : Sub σ σ') : ∀ {a : List ATgt} {d : List Deferred}, DfsR ml σ a d → DfsR ml σ' a d
  | [], [], _ => trivial
  | _ :: _, _ :: _, h => ⟨h.1.mono hs, DfsR.mono hs h.2⟩
theorem ChR.mono {ml : Gl} {σ σ' : Sg} (hs : Sub σ σ') : ∀ {a : List PE} {d : List PanicEntry}, ChR ml σ a d → ChR ml σ' a d
  | [], [], _ => trivial
  | _ :: _, _ :: _, h => ⟨⟨VR.mono hs _ _ h.1.1, h.1.2⟩, ChR.mono hs h.2⟩
theorem MdR.mono {ml : Gl} {σ σ' : Sg} (hs : Sub σ σ') {a : Md} {m : FrameMode} (h : MdR ml σ a m) : MdR ml σ' a m := by
  cases a <;> cases m <;> first | exact h | exact ChR.mono hs h
theorem ItR.mono {P : Program} {N0 : Nat} {mla : Addr} {ml : Gl} {σ σ' : Sg} (hs : Sub σ σ') {nt : Nat} {a : AIt} {b : Item} (h : ItR P N0 mla ml σ nt a b) : ItR P N0 mla ml σ' nt a b := by
  cases a <;> cases b <;> first | exact h | (obtain ⟨p, h1, h2⟩ := h; exact ⟨p, hs _ _ h1, h2⟩)
theorem ItsR.mono {P : Program} {N0 : Nat} {mla : Addr} {ml : Gl} {σ σ' : Sg} (hs : Sub σ σ') {nt : Nat} : ∀ {a : List AIt} {b : List Item}, ItsR P N0 mla ml σ nt a b → ItsR P N0 mla ml σ' nt a b
  | [], [], _ => trivial
  | _ :: _, _ :: _, h => ⟨h.1.mono hs, ItsR.mono hs h.2⟩
theorem FrR.mono {P : Program} {N0 : Nat} {mla : Addr} {ml : Gl} {σ σ' : Sg} (hs : Sub σ σ') {vs : List Gb.P} {fr : Fr} {f : Frame} (h : FrR P N0 mla ml σ vs fr f) : FrR P N0 mla ml σ' vs fr f :=
  ⟨h.fn, h.nt, fun p v hv hp => VR.mono hs _ _ (h.regs p v hv hp), h.todo.mono hs, h.tail, h.vids, h.defers.mono hs, h.md.mono hs, h.kind, h.round.imp id fun ⟨l, p, h1, h2, h3⟩ => ⟨l, p, h1, hs _ _ h2, h3⟩⟩
theorem FrsR.mono {P : Program} {N0 : Nat} {mla : Addr} {ml : Gl} {σ σ' : Sg} (hs : Sub σ σ') : ∀ {vss : List (List Gb.P)} {a : List Fr} {b : List Frame}, FrsR P N0 mla ml σ vss a b → FrsR P N0 mla ml σ' vss a b
  | [], [], [], _ => trivial
  | _ :: _, _ :: _, _ :: _, h => ⟨h.1.mono hs, FrsR.mono hs h.2⟩
end Go.Gb
end
