/- A part of the proof of the statement Rows.TopMissingCardSaid (at every argument the law returns true on every schedule, and its argument reads as before; the listed variables as laid). This text: a stepper over symbolic states of the translated program and its soundness, part 24 of 41. -/
import Derived.Test.YtgabhijnigpbdaaGreatDoorM23
import Derived.Conc.Own4
section
/-! Operations that turn frames: what they need, what a step of them is. -/
set_option linter.unusedSimpArgs false
set_option linter.unusedVariables false
set_option linter.unusedSectionVars false
namespace Go.Gb
open Go.Conc
theorem after_none (s : GStep) : GStep.after #[] s = s := by cases s <;> simp [GStep.after]
theorem after_after (es es' : Array Event) (s : GStep) : GStep.after es (GStep.after es' s) = GStep.after (es ++ es') s := by cases s <;> simp [GStep.after]
section
variable {P : Program} {N0 : Nat} {mla : Addr} {ml : Gl} {θ : Th} {Post : Value → World → Prop}
/-- What is left when an operation has told what is next. -/
theorem step_nx {own : Own} {main : Bool} {f : Frame} {cs : List Frame} {w : World} {ops : Array Oper} {i : Nat} {τ : List Nat} {k' : List Item} {o : Oper} (hm : f.mode = .run) (ht : f.todo = .inRegion ops (i :: τ) :: k') (ho : ops[i]? = some o)
    (hw : Region.wanted o (yielded ops f.tmps) = true) (hnd : f.roundOf = none ∨ ∀ c, o.op ≠ .defer c) (hk : f.kind ≠ .early) {Q : Next → World → Prop} (hs : SW P N0 own w.heap.size (execOp (Act.eval ⟨f.tmps, f.defers⟩) o) w Q) :
    ∃ nx w' es, stepG P main (G f cs) w = GStep.after es (stepG.apply P true f cs none (.pure nx) w') ∧ Does N0 own (mine own w.heap.size w') w w' es ∧ Q nx w' := by
  obtain ⟨nx, w', es, h1, h2, h3⟩ := SW.sound _ #[] hs
  have hk' : (f.kind == CallKind.early) = false := by simpa using hk
  refine ⟨nx, w', seen P f.fn (#[] ++ es), ?_, (by rw [Array.empty_append]; exact h2.does), h3⟩
  rw [step_oper hm ht ho hw hnd]
  unfold stepG.apply
  simp only [if_true, h1, hk', Bool.false_eq_true, if_false, Sem.runT, seen_none, after_none]
section
variable {f : Frame} {cs : List Frame} {w : World} {ops : Array Oper} {i : Nat} {τ : List Nat} {k' : List Item}
theorem apply_value (hk : f.kind ≠ .early) {u : Value} : stepG.apply P true f cs none (.pure (.value u)) w = .go (G (f.finish u) cs) w #[] := by
  have hk' : (f.kind == CallKind.early) = false := by simpa using hk
  unfold stepG.apply
  simp [Sem.runT, seen_none, after_none, hk', G]
theorem apply_enter (hk : f.kind ≠ .early) (ht : f.todo = .inRegion ops (i :: τ) :: k') {g : FuncId} {args : Array Value} : stepG.apply P true f cs none (.pure (.enter g args)) w = .go (G (Frame.enter P g args .normal) (f :: cs)) w #[] := by
  have hk' : (f.kind == CallKind.early) = false := by simpa using hk
  unfold stepG.apply
  simp [Sem.runT, seen_none, after_none, hk', G, ht]
theorem apply_round (hk : f.kind ≠ .early) {l : Nat} {g : FuncId} {tmps : Array Value} {a b : Code} : stepG.apply P true f cs none (.pure (.round l g tmps a b)) w = .go (G (Frame.round l g tmps a b .normal) (f :: cs)) w #[] := by
  have hk' : (f.kind == CallKind.early) = false := by simpa using hk
  unfold stepG.apply
  simp [Sem.runT, seen_none, after_none, hk', G]
theorem apply_defer (hk : f.kind ≠ .early) {d : Deferred} : stepG.apply P true f cs none (.pure (.defer d)) w = .go (G (({ f with defers := d :: f.defers } : Frame).finish undef) cs) w #[] := by
  have hk' : (f.kind == CallKind.early) = false := by simpa using hk
  unfold stepG.apply
  simp [Sem.runT, seen_none, after_none, hk', G]
theorem apply_recover (hk : f.kind ≠ .early) (hr : f.roundOf = none) : stepG.apply P true f cs none (.pure .recover) w = (match tryRecover f cs with | some (v, cs) => .go (G (f.finish v) cs) w #[] | none => .go (G (f.finish .nilIface) cs) w #[]) := by
  have hk' : (f.kind == CallKind.early) = false := by simpa using hk
  unfold stepG.apply
  simp only [Sem.runT, if_true, hk', Bool.false_eq_true, if_false, seen_none, after_none, hr]
  rfl
theorem apply_comm (hk : f.kind ≠ .early) {cases : Array CommCase} {b : Bool} {sh : CommShape} : stepG.apply P true f cs none (.pure (.comm cases b sh)) w = .comm (G f cs) cases b sh w #[] := by
  have hk' : (f.kind == CallKind.early) = false := by simpa using hk
  unfold stepG.apply
  simp [Sem.runT, seen_none, after_none, hk', G]
end
/-- The frame is at an operation that turns frames, and its operands are told. -/
structure At (P : Program) (ml : Gl) (σ : Sg) (top : Fr) (x : Fx) (f : Frame) : Prop where
  mode : f.mode = .run
  at' : ∃ ops i τ k' oo, f.todo = .inRegion ops (i :: τ) :: k' ∧ ops[i]? = some oo ∧ Region.wanted oo (yielded ops f.tmps) = true ∧ FxR P oo.op x
  vals : ∀ y ∈ fxOpds x, ∀ p, y = .r p → ∀ v, T.get p top.regs = some v → VR ml σ v (f.tmps.getD p.toNat undef)
theorem opd_val {C : Type} {σ : Sg} {regs : Regs} {f : Frame} {x : Opd} {y : Operand} {k : V → O C} {r : C} (hr : ∀ p, x = .r p → ∀ v, T.get p regs = some v → VR ml σ v (f.tmps.getD p.toNat undef)) (hx : OpdR x y) {v : V} (hv : opdK x regs some = some v) : VR ml σ v ((⟨f.tmps, f.defers⟩ : Act).eval y) := by
  have : ∃ regs0 : Regs, RegR ml σ regs0 ⟨f.tmps, f.defers⟩ ∧ opdK x regs0 some = some v := by
    cases x with
    | c v' => exact ⟨.nil, fun p v h => (by rw [T.get_nil] at h; cases h), hv⟩
    | r p =>
      simp only [opdK] at hv
      cases hg : T.get p regs with
      | none => rw [hg] at hv; cases hv
      | some u =>
        rw [hg] at hv
        cases hv
        refine ⟨T.put (some v) p .nil, fun q u hu => ?_, by simp only [opdK, T.get_put_same]; rfl⟩
        by_cases hq : p = q
        · subst hq; rw [T.get_put_same] at hu; cases hu; exact hr _ rfl _ hg
        · rw [T.get_put_ne _ _ _ _ hq, T.get_nil] at hu; cases hu
  obtain ⟨regs0, h1, h2⟩ := this
  obtain ⟨v', h3, h4⟩ := opd_rel h1 hx h2
  cases h4; exact h3
theorem opdK_some {C : Type} {x : Opd} {regs : Regs} {k : V → O C} {r : C} (e : opdK x regs k = some r) : ∃ v, opdK x regs some = some v ∧ k v = some r := by
  cases x with
  | c v => exact ⟨v, rfl, e⟩
  | r p =>
    simp only [opdK] at e ⊢
    cases hg : T.get p regs with
    | none => rw [hg] at e; cases e
    | some v => rw [hg] at e; exact ⟨v, rfl, e⟩
theorem opdsK_inv {C : Type} {regs : Regs} : ∀ {xs : List Opd} {k : List V → O C} {r : C}, opdsK xs regs k = some r → ∃ vs, (vs.length = xs.length ∧ ∀ (j : Nat) x v, xs[j]? = some x → vs[j]? = some v → opdK x regs some = some v) ∧ k vs = some r := by
  intro xs
  induction xs with
  | nil => intro k r e; exact ⟨[], ⟨rfl, fun j x v h => by simp at h⟩, e⟩
  | cons x xs ih =>
    intro k r e
    obtain ⟨v, hv, e⟩ := opdK_some (k := fun v => opdsK xs regs fun vs => k (v :: vs)) e
    obtain ⟨vs, ⟨h1, h2⟩, e⟩ := ih e
    refine ⟨v :: vs, ⟨by simp [h1], fun j y u hy hu => ?_⟩, e⟩
    cases j with
    | zero => simp at hy hu; subst hy hu; exact hv
    | succ j => exact h2 j y u (by simpa using hy) (by simpa using hu)
theorem vrl_of_get {σ : Sg} : ∀ {vs : List V} {us : List Value}, vs.length = us.length → (∀ (j : Nat) v u, vs[j]? = some v → us[j]? = some u → VR ml σ v u) → VRL ml σ vs us
  | [], [], _, _ => trivial
  | v :: vs, u :: us, h, g => ⟨g 0 v u rfl rfl, vrl_of_get (by simpa using h) fun j v u hv hu => g (j + 1) v u (by simpa using hv) (by simpa using hu)⟩
theorem args_val {σ : Sg} {regs : Regs} {f : Frame} {xs : List Opd} {ys : Array Operand} {vs : List V} (hr : ∀ y ∈ xs, ∀ p, y = .r p → ∀ v, T.get p regs = some v → VR ml σ v (f.tmps.getD p.toNat undef)) (ha : ArgsR xs ys)
    (hv : vs.length = xs.length ∧ ∀ (j : Nat) x v, xs[j]? = some x → vs[j]? = some v → opdK x regs some = some v) : VRL ml σ vs (ys.map (Act.eval ⟨f.tmps, f.defers⟩)).toList := by
  refine vrl_of_get (by simp [hv.1, ha.1]) fun j v u h1 h2 => ?_
  simp only [Array.toList_map, List.getElem?_map, Option.map_eq_some_iff] at h2
  obtain ⟨y, hy, rfl⟩ := h2
  have hlt : j < xs.length := by rw [← hv.1]; exact (List.getElem?_eq_some_iff.1 h1).1
  have hx : xs[j]? = some xs[j] := List.getElem?_eq_getElem hlt
  exact opd_val (k := (some : V → O V)) (r := v) (hr _ (List.getElem_mem hlt)) (ha.2 j _ y hx hy) (hv.2 j _ v hx h1)
theorem VRL.append {σ : Sg} : ∀ {a b : List V} {x y : List Value}, VRL ml σ a x → VRL ml σ b y → VRL ml σ (a ++ b) (x ++ y)
  | [], _, [], _, _, h => h
  | _ :: _, _, _ :: _, _, h, g => ⟨h.1, VRL.append h.2 g⟩
/-- The functions of the program that are in hand. -/
structure FunOk (P : Program) (E : Env) : Prop where
  funs : ∀ g f, T.get g E.funs = some f → P.funcs[g.toNat]? = some f ∧ (f.name == "runtime.NumGoroutine") = false
/-- The frame entered. -/
theorem argsK_inv {R : Type} : ∀ (vs : List V) (i : Gb.P) (regs : Regs) {k : Regs → OR} {r : Rs}, argsK vs i regs k = some r → ∃ regs', k regs' = some r ∧ ∀ p v, T.get p regs' = some v → (∃ j, p.toNat = i.toNat + j ∧ vs[j]? = some v) ∨ T.get p regs = some v := by
  intro vs
  induction vs with
  | nil => intro i regs k r e; exact ⟨regs, e, fun p v h => .inr h⟩
  | cons v vs ih =>
    intro i regs k r e
    replace e : T.putK (some v) i regs (fun regs => succK i fun i => argsK vs i regs k) = some r := e
    rw [T.putK_eq, succK_eq] at e
    obtain ⟨regs', e2, h⟩ := ih _ _ e
    refine ⟨regs', e2, fun p u hp => ?_⟩
    rcases h p u hp with ⟨j, h1, h2⟩ | h1
    · rw [P.toNat_succ] at h1
      exact .inl ⟨j + 1, by omega, by simpa using h2⟩
    · by_cases hpi : i = p
      · subst hpi; rw [T.get_put_same] at h1; cases h1; exact .inl ⟨0, by simp, rfl⟩
      · rw [T.get_put_ne _ _ _ _ hpi] at h1; exact .inr h1
theorem enter_rel {σ : Sg} {E : Env} (hF : FunOk P E) {g : Gb.P} {fn : Func} (hg : T.get g E.funs = some fn) {b : Code} (hb : fn.body = some b) {vs : List V} {us : Array Value} (hv : VRL ml σ vs us.toList) (hn : vs.length ≤ fn.ntmps) {regs : Regs}
    (hr : ∀ p v, T.get p regs = some v → ∃ j, p.toNat = j ∧ vs[j]? = some v) (dfd : Bool) : FrR P N0 mla ml σ [] ⟨g, fn.ntmps, regs, [.code b], [], .run, dfd, none⟩ (Frame.enter P g.toNat us (if dfd then .deferred else .normal)) := by
  have hp := (hF.funs g fn hg).1
  have hlen : us.size = vs.length := by rw [hv.length]; simp
  refine ⟨rfl, ?_, fun p v hpv _ => ?_, ?_, by simp, vids_nil (show NoDg [AIt.code b] from trivial), trivial, trivial, rfl, .inl ⟨rfl, rfl⟩⟩
  · simp [Frame.enter, hp]; omega
  · obtain ⟨j, rfl, hj⟩ := hr p v hpv
    obtain ⟨u, hu, hvu⟩ := VRL.get hv hj
    have hlt : p.toNat < us.size := by rw [hlen]; exact (List.getElem?_eq_some_iff.1 hj).1
    have : (Frame.enter P g.toNat us (if dfd then .deferred else .normal)).tmps.getD p.toNat undef = u := by
      simp only [Frame.enter]
      rw [Array.getD_eq_getD_getElem?, Array.getElem?_append_left hlt]
      simp at hu; simp [hu]
    rw [this]; exact hvu
  · simp [Frame.enter, hp, hb, ItsR, ItR]
end
end Go.Gb
end
section
/-! Calls. -/
set_option linter.unusedSimpArgs false
set_option linter.unusedVariables false
set_option linter.unusedSectionVars false
namespace Go.Gb
open Go.Conc
theorem extK_inv {big : Nat} {f : EF} {args : List V} {k : V → OR} {r : Rs} (e : extK big f args k = some r) : ∃ v, (∀ k' : V → OR, extK big f args k' = k' v) ∧ k v = some r := by
  unfold extK at e ⊢
  split at e
  · obtain ⟨h1, e⟩ := boolK_inv e
    obtain ⟨h2, e⟩ := boolK_inv e
    obtain ⟨h3, e⟩ := boolK_inv e
    obtain ⟨h4, e⟩ := boolK_inv e
    simp only [h1, h2, h3, h4, boolK]
    rw [natK_eq] at e
    simp only [natK_eq]
    generalize sindex _ _ _ _ _ = o at e ⊢
    cases o with
    | none => exact ⟨_, fun _ => rfl, e⟩
    | some i => exact ⟨_, fun _ => rfl, e⟩
  · obtain ⟨h1, e⟩ := boolK_inv e
    simp only [h1, boolK]
    generalize sfind _ _ _ _ = o at e ⊢
    cases o with
    | none => exact ⟨_, fun _ => rfl, e⟩
    | some i => exact ⟨_, fun _ => rfl, e⟩
  · obtain ⟨h1, e⟩ := boolK_inv e
    simp only [h1, boolK]
    rw [natK_eq] at e
    exact ⟨_, fun k' => natK_eq _ _, e⟩
  · rcases boolK_cases e with ⟨h1, e⟩ | ⟨h1, e⟩
    · simp only [h1, boolK]; exact ⟨_, fun _ => rfl, e⟩
    · simp only [h1]
      rcases boolK_cases e with ⟨h2, e⟩ | ⟨h2, e⟩
      · simp only [h2]; exact ⟨_, fun _ => rfl, e⟩
      · simp only [h2]; exact ⟨_, fun _ => rfl, e⟩
  · exact ⟨_, fun _ => rfl, e⟩
  · cases e
section
variable {P : Program} {N0 : Nat} {mla : Addr} {ml : Gl} {θ : Th} {Post : Value → World → Prop} {E : Env}
structure ExtsOk (P : Program) (E : Env) (mla : Addr) (ml : Gl) : Prop where
  big : (E.big % 3 = 0 → ml.val < (E.big / 3 : Nat)) ∧ (E.big % 3 = 1 → (E.big / 3 : Nat) ≤ ml.val)
  ok : ∀ g x fn, T.get g E.exts = some x → T.get g E.funs = some fn → fn.body = none → ∀ (N0 : Nat) (own : Own) (n0 : Nat) (σ : Sg) (w : World) (args : List V) (us : Array Value) (v : V), mla.block < N0 → w.cell? mla = some (.int .i64 ml.val) → VRL ml σ args us.toList → (∀ k : V → OR, extK E.big x args k = k v) →
    SW P N0 own n0 (callFunc g.toNat us) w fun nxt w' => w' = w ∧ ∃ u, nxt = .value u ∧ VR ml σ v u
def EnterOut (P : Program) (N0 : Nat) (mla : Addr) (ml : Gl) (σ : Sg) (dfd : Bool) (top : Fr) (cs : List Fr) (h : Heap) (nx : Gb.P) (io : AIo) (r : Rs) (w : World) : Next → World → Prop := fun nxt w' =>
  w' = w ∧ ((∃ g us top', nxt = .enter g us ∧ r = .go ⟨top', top :: cs, h, nx, io⟩ ∧ FrR P N0 mla ml σ [] top' (Frame.enter P g us (if dfd then .deferred else .normal))) ∨
    (dfd = false ∧ ∃ l g tmps a b top', nxt = .round l g tmps a b ∧ r = .go ⟨top', top :: cs, h, nx, io⟩ ∧ FrR P N0 mla ml σ [] top' (Frame.round l g tmps a b .normal)) ∨
    (dfd = false ∧ ∃ v u, nxt = .value u ∧ VR ml σ v u ∧ finK v top (fun top => some (.go ⟨top, cs, h, nx, io⟩)) = some r))
variable {vt : Vt} {own : Own} {n0 : Nat} {σ : Sg} {h : Heap} {nx : Gb.P} {w : World} {top : Fr} {cs : List Fr} {io : AIo} {r : Rs}
theorem SW_prog {α : Type} {Q : α → World → Prop} {f : Program → Sem α} : SW P N0 own n0 (program >>= f) w Q ↔ SW P N0 own n0 (f P) w Q := Iff.rfl
theorem enter_sw (hF : FunOk P E) (hX : ExtsOk P E mla ml) (hgl : mla.block < N0 ∧ w.cell? mla = some (.int .i64 ml.val)) {g : Gb.P} {args : List V} {us : Array Value} {dfd : Bool} (hv : VRL ml σ args us.toList) (e : enterK E g args dfd top cs h nx io = some r) : SW P N0 own n0 (callFunc g.toNat us) w (EnterOut P N0 mla ml σ dfd top cs h nx io r w) := by
  unfold enterK at e
  obtain ⟨fn, hg, e⟩ := optK_inv e
  obtain ⟨hp, hname⟩ := hF.funs g fn hg
  split at e
  · rename_i b hb
    obtain ⟨hn, e⟩ := boolK_inv e
    rw [natK_eq] at e
    obtain ⟨regs, e2, hregs⟩ := argsK_inv (R := Unit) _ _ _ e
    cases e2
    have hlen : args.length ≤ fn.ntmps := by have := Nat.le_of_ble_eq_true hn; rw [llen_eq] at this; omega
    unfold callFunc
    rw [SW_prog]
    simp only [hp, hname, Bool.false_eq_true, if_false, hb, Option.isNone_some]
    exact ⟨rfl, .inl ⟨_, _, _, rfl, rfl, enter_rel hF hg hb hv hlen (fun p v hpv => by
      rcases hregs p v hpv with ⟨j, h1, h2⟩ | h1
      · exact ⟨j, h1.trans (Nat.zero_add j), h2⟩
      · rw [T.get_nil] at h1; cases h1) dfd⟩⟩
  · rename_i hb
    rcases boolK_cases e with ⟨_, e⟩ | ⟨hd, e⟩
    · cases e
    obtain ⟨x, hx, e⟩ := optK_inv e
    obtain ⟨v, h1, h2⟩ := extK_inv e
    refine SW.mono (hX.ok g x fn hx hg hb N0 own n0 σ w args us v hgl.1 hgl.2 hv h1) ?_
    rintro nxt w' ⟨rfl, u, rfl, hu⟩
    exact ⟨rfl, .inr (.inr ⟨hd, v, u, rfl, hu, h2⟩)⟩
theorem putsK_inv {nt : Nat} {σ : Sg} : ∀ (ps : List Nat) (vs : List V) (us : List Value) (regs : Regs) (tmps : Array Value) {k : Regs → OR} {r : Rs}, tmps.size = nt → VRL ml σ vs us → (∀ p v, T.get p regs = some v → VR ml σ v (tmps.getD p.toNat undef)) → putsK ps vs nt regs k = some r →
    ∃ regs', k regs' = some r ∧ ps.length = us.length ∧ ((ps.zip us).foldl (fun tmps (x : Nat × Value) => tmps.setIfInBounds x.1 x.2) tmps).size = nt ∧ ∀ p v, T.get p regs' = some v → VR ml σ v (((ps.zip us).foldl (fun tmps (x : Nat × Value) => tmps.setIfInBounds x.1 x.2) tmps).getD p.toNat undef) := by
  intro ps
  induction ps with
  | nil =>
    intro vs us regs tmps k r hn hv hr e
    cases vs with
    | nil => cases us with
      | nil => exact ⟨regs, e, rfl, hn, hr⟩
      | cons u us => exact hv.elim
    | cons v vs => cases e
  | cons p ps ih =>
    intro vs us regs tmps k r hn hv hr e
    cases vs with
    | nil => cases e
    | cons v vs =>
      cases us with
      | nil => exact hv.elim
      | cons u us =>
        replace e : boolK (Nat.blt p nt) (pK p fun p => T.putK (some v) p regs fun regs => putsK ps vs nt regs k) none = some r := e
        obtain ⟨hlt, e⟩ := boolK_inv e
        obtain ⟨q, hq, e3⟩ := pK_inv e
        subst hq
        rw [T.putK_eq] at e3
        have hlt := Nat.le_of_ble_eq_true hlt
        obtain ⟨regs', e2, h1, h2, h3⟩ := ih vs us _ (tmps.setIfInBounds q.toNat u) (by simpa using hn) hv.2 (fun p v' hp => by
          by_cases hpd : q = p
          · subst hpd
            rw [T.get_put_same] at hp
            cases hp
            have : ((tmps.setIfInBounds q.toNat u).getD q.toNat undef) = u := by
              rw [Array.getD_eq_getD_getElem?]; simp [show q.toNat < tmps.size by omega]
            rw [this]; exact hv.1
          · rw [T.get_put_ne _ _ _ _ hpd] at hp
            have hne : q.toNat ≠ p.toNat := fun e => hpd (Gb.P.toNat_inj e)
            have : ((tmps.setIfInBounds q.toNat u).getD p.toNat undef) = tmps.getD p.toNat undef := by
              rw [Array.getD_eq_getD_getElem?, Array.getD_eq_getD_getElem?, Array.getElem?_setIfInBounds_ne hne]
            rw [this]; exact hr p v' hp) e3
        exact ⟨regs', e2, by simp [h1], h2, h3⟩
theorem call_sw (hF : FunOk P E) (hX : ExtsOk P E mla ml) (H : AR N0 mla ml vt σ h nx own n0 w) {fv : V} {args : List V} {uf : Value} {us : Array Value} (hf : VR ml σ fv uf) (hv : VRL ml σ args us.toList) (e : callK E fv args false top cs h nx io = some r) :
    SW P N0 own n0 (do let d ← Deferred.ofValue uf us; invoke d.target d.args) w (EnterOut P N0 mla ml σ false top cs h nx io r w) := by
  unfold callK at e
  split at e
  · -- a round
    rename_i l
    replace e : getOb (C := Rs) l h _ = some r := e
    obtain ⟨ob, hob, e⟩ := getOb_inv e
    cases ob <;> simp only [reduceCtorEq] at e
    rename_i st pend fn nt regs ps a b dfr
    cases uf <;> simp only [VR] at hf
    obtain ⟨p, hp, rfl, rfl, rfl⟩ := hf
    obtain ⟨o, ho, hr⟩ := H.obs l p _ hp hob
    cases o <;> simp only [ObR] at hr
    rename_i L
    obtain ⟨g1, g2, g3, rfl, g5, g6, g7, g8, g9⟩ := hr
    obtain ⟨regs', e2, k1, k2, k3⟩ := putsK_inv (ml := ml) (σ := σ) L.params.toList args us.toList regs L.tmps g7 hv g9 e
    cases e2
    show SW P N0 own n0 (Instr.yield p.bl (#[] ++ us ++ #[])) w _
    unfold Instr.yield Instr.getLoop
    have hus : (#[] ++ us ++ #[] : Array Value) = us := by simp
    rw [hus, SW_bind, SW_bind]
    refine SW_getObj ho trivial (H.has l p _ hp hob) ?_
    have hsz : us.size = L.params.size := by simp at k1; exact k1.symm
    have hfold : (L.params.zip us).foldl (fun tmps (x : Nat × Value) => tmps.setIfInBounds x.1 x.2) L.tmps = (L.params.toList.zip us.toList).foldl (fun tmps (x : Nat × Value) => tmps.setIfInBounds x.1 x.2) L.tmps := by
      rw [← Array.foldl_toList, Array.toList_zip]
    show SW P N0 own n0 (if us.size ≠ L.params.size then _ else _) w _
    rw [if_neg (by simp [hsz])]
    refine ⟨rfl, .inr (.inl ⟨rfl, p.bl, L.fn, _, L.assign, L.body, _, rfl, rfl, ?_⟩)⟩
    show FrR P N0 mla ml σ [] _ (Frame.round p.bl L.fn ((L.params.zip us).foldl (fun tmps (x : Nat × Value) => tmps.setIfInBounds x.1 x.2) L.tmps) L.assign L.body .normal)
    rw [hfold]
    subst g5 g6
    exact ⟨g3, k2, fun p v hpv _ => k3 p v hpv, ⟨rfl, trivial, rfl, trivial⟩, by simp [NotDg], vids_nil (show NoDg [AIt.code L.assign, .begR, .code L.body] from trivial), trivial, trivial, rfl, .inr ⟨l, p, rfl, hp, rfl⟩⟩
  · rename_i g first caps
    cases uf <;> simp only [VR] at hf
    obtain ⟨rfl, _, h1, h2⟩ := hf
    rw [lappK_eq, lappK_eq] at e
    obtain ⟨p, hp, e2⟩ := pK_inv e
    subst hp
    show SW P N0 own n0 (callFunc p.toNat _) w _
    refine enter_sw hF hX H.glob ?_ e2
    simp only [Array.toList_append]
    exact VRL.append (VRL.append h1 hv) h2
  · cases e
end
end Go.Gb
end
section
/-! Operations that turn frames, as steps. -/
set_option linter.unusedSimpArgs false
set_option linter.unusedVariables false
set_option linter.unusedSectionVars false
namespace Go.Gb
open Go.Conc
theorem pKf_det {C : Type} (f : Nat) : ∀ (n : Nat) {k : P → O C} {r : C}, pKf f n k = some r → ∃ p, p.toNat = n ∧ (∀ k' : P → O C, pKf f n k' = k' p) ∧ k p = some r := by
  induction f with
  | zero =>
    intro n k r e
    cases n with
    | zero => exact ⟨.z, rfl, fun _ => rfl, e⟩
    | succ n => cases e
  | succ f ih =>
    intro n k r e
    cases n with
    | zero => exact ⟨.z, rfl, fun _ => rfl, e⟩
    | succ m =>
      have hk : ∀ k : P → O C, pKf (f + 1) (m + 1) k = natK (Nat.div m 2) (fun d => Nat.rec (motive := fun _ => O C) (pKf f d fun p => k (.o p)) (fun _ _ => pKf f d fun p => k (.e p)) (Nat.mod m 2)) := fun _ => rfl
      rw [hk, natK_eq] at e
      have hm : Nat.mod m 2 = m % 2 := rfl
      have hd : Nat.div m 2 = m / 2 := rfl
      rw [hm, hd] at e
      rcases Nat.mod_two_eq_zero_or_one m with h | h
      · rw [h] at e
        obtain ⟨p, h1, h2, h3⟩ := ih _ (k := fun p => k (.o p)) e
        refine ⟨.o p, by simp only [P.toNat, h1]; omega, fun k' => ?_, h3⟩
        rw [hk, natK_eq, hm, hd, h]; exact h2 fun p => k' (.o p)
      · rw [h] at e
        obtain ⟨p, h1, h2, h3⟩ := ih _ (k := fun p => k (.e p)) e
        refine ⟨.e p, by simp only [P.toNat, h1]; omega, fun k' => ?_, h3⟩
        rw [hk, natK_eq, hm, hd, h]; exact h2 fun p => k' (.e p)
theorem pK_det {C : Type} {n : Nat} {k : P → O C} {r : C} (e : pK n k = some r) : ∃ p, p.toNat = n ∧ (∀ k' : P → O C, pK n k' = k' p) ∧ k p = some r := pKf_det _ _ e
theorem opdK_of {C : Type} {x : Opd} {regs : Regs} {v : V} (h : opdK x regs some = some v) {k : V → O C} : opdK x regs k = k v := by
  cases x with
  | c u => cases h; rfl
  | r p =>
    simp only [opdK] at h ⊢
    cases hg : T.get p regs with
    | none => rw [hg] at h; cases h
    | some u => rw [hg] at h; cases h; rfl
theorem opdsK_of {C : Type} {regs : Regs} : ∀ {xs : List Opd} {vs : List V}, (vs.length = xs.length ∧ ∀ (j : Nat) x v, xs[j]? = some x → vs[j]? = some v → opdK x regs some = some v) → ∀ {k : List V → O C}, opdsK xs regs k = k vs := by
  intro xs
  induction xs with
  | nil => intro vs h k; cases vs with | nil => rfl | cons => cases h.1
  | cons x xs ih =>
    intro vs h k
    cases vs with
    | nil => cases h.1
    | cons v vs =>
      show opdK x regs (fun v => opdsK xs regs fun vs => k (v :: vs)) = _
      rw [opdK_of (h.2 0 x v rfl rfl), ih ⟨by simpa using h.1, fun j y u hy hu => h.2 (j + 1) y u (by simpa using hy) (by simpa using hu)⟩]
section
variable {P : Program} {N0 : Nat} {mla : Addr} {ml : Gl} {θ : Th} {Post : Value → World → Prop} {E : Env}
/-- A run has come to its last step. -/
def Tells (P : Program) (N0 : Nat) (mla : Addr) (ml : Gl) (f : Func) (regs : Regs) (h : Heap) (v : V) : Prop := ∀ (σ : Sg) (vt : Vt) (nx : Gb.P) (own : Own) (n0 : Nat) (w : World) (tmps : Array Value), AR N0 mla ml vt σ h nx own n0 w → (∀ p v, T.get p regs = some v → VR ml σ v (tmps.getD p.toNat undef)) → SW P N0 own n0 (results f tmps) w fun u w' => w' = w ∧ VR ml σ v u
def DoneIs (P : Program) (N0 : Nat) (mla : Addr) (ml : Gl) (E : Env) (v : V) (c : Cfg) : Prop := NoDg c.top.todo ∧ c.cs = [] ∧ c.top.md = .returning ∧ c.top.defers = [] ∧ c.top.round = none ∧ ∃ f, T.get c.top.fn E.funs = some f ∧ Tells P N0 mla ml f c.top.regs c.h v
def FinIs (E : Env) (c : Cfg) : Prop := ∃ fn nt regs todo ch dfd rd h nx e f, c = ⟨⟨fn, nt, regs, todo, [.close ch], .returning, dfd, rd⟩, [], h, nx, .work ch e⟩ ∧ dfd = true ∧ T.get fn E.funs = some f ∧ f.results.toList = []
variable (P N0 mla ml θ Post E) in
def Suc : Rs → Prop
  | .go c => Okay P N0 mla ml θ Post c
  | .fork l => ∀ c ∈ l, Okay P N0 mla ml θ Post c
  | .done v c => DoneIs P N0 mla ml E v c → Okay P N0 mla ml θ Post c
  | .fin c => FinIs E c → Okay P N0 mla ml θ Post c
  | .sent m c => ∃ ms, θ.total = m :: ms ∧ Okay P N0 mla ml { θ with total := ms } Post c
/-- The frame whose operation turns frames: told in every relation. -/
def Ats (P : Program) (N0 : Nat) (mla : Addr) (ml : Gl) (top : Fr) (x : Fx) : Prop := ∀ σ vs f, FrR P N0 mla ml σ vs top f → At P ml σ top x f
variable {top : Fr} {cs : List Fr} {h : Heap} {nx : Gb.P} {io : AIo} {r : Rs}
/-- What an operation of this frame may tell; a step of it. -/
theorem okay_fx {x : Fx} (hat : Ats P N0 mla ml top x)
    (hs : ∀ σ vt vs vss f fs ops i τ k' oo own w, FrR P N0 mla ml σ vs top f → FrsR P N0 mla ml σ vss cs fs → AR N0 mla ml vt σ h nx own w.heap.size w → f.mode = .run → f.todo = .inRegion ops (i :: τ) :: k' → f.kind ≠ .early →
      (∀ y ∈ fxOpds x, ∀ p, y = .r p → ∀ v, T.get p top.regs = some v → VR ml σ v (f.tmps.getD p.toNat undef)) → FxR P oo.op x →
      ((f.roundOf = none ∨ ∀ c, oo.op ≠ .defer c) ∧ ∃ Q : Next → World → Prop, SW P N0 own w.heap.size (execOp (Act.eval ⟨f.tmps, f.defers⟩) oo) w Q ∧
        ∀ nxt w', Q nxt w' → ∃ (c' : Cfg) (σ' : Sg) (vs' : List Gb.P) (vss' : List (List Gb.P)) (f' : Frame) (fs' : List Frame), stepG.apply P true f (fs ++ θ.outer) none (.pure nxt) w' = .go (G f' (fs' ++ θ.outer)) w' #[] ∧ vs' ++ vss'.flatten = vs ++ vss.flatten ∧
          Sub σ σ' ∧ FrR P N0 mla ml σ' vs' c'.top f' ∧ FrsR P N0 mla ml σ' vss' c'.cs fs' ∧ c'.io = io ∧ AR N0 mla ml vt σ' c'.h c'.nx own w.heap.size w' ∧ Okay P N0 mla ml θ Post c')) : Okay P N0 mla ml θ Post ⟨top, cs, h, nx, io⟩ := by
  rintro io' own g w ⟨σ, vt, vs, vss, ids, f, fs, rfl, S⟩
  refine beh_go fun w1 a => ?_
  have S1 := S.agree a
  obtain ⟨hm, ⟨ops, i, τ, k', oo, ht, ho, hw, hx⟩, hvals⟩ := hat σ vs f S1.top
  have hk := dfd_kind S1.top.kind
  obtain ⟨hnd, Q, hq, hgo⟩ := hs σ vt vs vss f fs ops i τ k' oo own w1 S1.top S1.cs S1.ar hm ht hk hvals hx
  obtain ⟨nxt, w', es, h1, h2, h3⟩ := step_nx (P := P) (N0 := N0) (main := io'.main) (cs := fs ++ θ.outer) hm ht ho hw hnd hk hq
  obtain ⟨c', σ', vs', vss', f', fs', g1, k3, g2, g3, g4, g6, g7, g8⟩ := hgo nxt w' h3
  refine ⟨_, f', fs' ++ θ.outer, w', es, by rw [h1, g1]; simp [GStep.after], h2, g8 io' _ _ _ ⟨σ', vt, vs', vss', ids, f', fs', rfl, g7.shift, g3, g4, by rw [g6]; exact S1.io.mono g2, ?_, S1.nodup, S1.hf, S1.kept.does S1.ar.n0le.1 S1.ar.apart h2, mine_lt S1.lt h2.size⟩⟩
  rw [S1.vids, ← List.append_assoc vs', k3, List.append_assoc]
theorem SW_call {own : Own} {n0 : Nat} {w : World} {a : Act} {oo : Oper} {c : Call} {f' : Operand} {Q : Next → World → Prop} (ho : oo.op = .call c) (hc : c.callee = .value f') (h : SW P N0 own n0 (do let d ← Deferred.ofValue (a.eval f') (c.args.map a.eval); invoke d.target d.args) w Q) : SW P N0 own n0 (execOp a.eval oo) w Q := by
  unfold execOp
  simp only [ho, resolve, hc]
  exact h
/-- Calls, step by step. -/
theorem okay_call0 (hF : FunOk P E) (hX : ExtsOk P E mla ml) {f : Opd} {args : List Opd} (hat : Ats P N0 mla ml top (.call f args)) (e : (opdK f top.regs fun f => opdsK args top.regs fun args => callK E f args false top cs h nx io) = some r) (hr : Suc P N0 mla ml θ Post E r) : Okay P N0 mla ml θ Post ⟨top, cs, h, nx, io⟩ := by
  obtain ⟨fv, hfv, e⟩ := opdK_some e
  obtain ⟨vs0, hvs, e⟩ := opdsK_inv e
  refine okay_fx hat fun σ vt vs vss fr fs ops i τ k' oo own w hF' hfs H hm ht hk hv hx => ?_
  generalize hop : oo.op = op at hx
  cases hx with
  | @call c _ f' _ hc hf ha =>
    refine ⟨.inr fun c h => (by cases h), _, SW_call hop hc (call_sw hF hX H (opd_val (k := (some : V → O V)) (r := fv) (hv f (by simp [fxOpds])) hf hfv) (args_val (fun y hy => hv y (by simp [fxOpds, hy])) ha hvs) e), ?_⟩
    rintro nxt w' ⟨rfl, ⟨g, us, top', rfl, rfl, hT⟩ | ⟨_, l, g, tmps, x, y, top', rfl, rfl, hT⟩ | ⟨_, v, u, rfl, hu, e2⟩⟩
    · exact ⟨⟨top', top :: cs, h, nx, io⟩, σ, [], vs :: vss, _, fr :: fs, apply_enter hk ht, by simp, Sub.refl _, hT, ⟨hF', hfs⟩, rfl, H, hr⟩
    · exact ⟨⟨top', top :: cs, h, nx, io⟩, σ, [], vs :: vss, _, fr :: fs, apply_round hk, by simp, Sub.refl _, hT, ⟨hF', hfs⟩, rfl, H, hr⟩
    · obtain ⟨fr', e3, hfin, _⟩ := fin_rel hF' hu e2
      cases e3
      exact ⟨⟨fr', cs, h, nx, io⟩, σ, vs, vss, _, fs, apply_value hk, rfl, Sub.refl _, hfin, hfs, rfl, H, hr⟩
theorem finK_det {v : V} {fr : Fr} {k : Fr → OR} {r : Rs} (e : finK v fr k = some r) : ∃ fr', (∀ k' : Fr → OR, finK v fr k' = k' fr') ∧ k fr' = some r := by
  obtain ⟨fn, nt, regs, todo, ds, md, dfd, rd⟩ := fr
  unfold finK at e ⊢
  simp only at e ⊢
  split at e
  · split at e
    · rename_i d hd
      rw [T.putK_eq] at e
      exact ⟨_, fun k' => T.putK_eq .., e⟩
    · rename_i hd
      exact ⟨_, fun k' => rfl, e⟩
  · split at e
    · rename_i d hd
      rw [T.putK_eq] at e
      exact ⟨_, fun k' => T.putK_eq .., e⟩
    · rename_i hd
      exact ⟨_, fun k' => rfl, e⟩
  · exact ⟨_, fun k' => rfl, e⟩
  · cases e
/-- Calls followed apart. -/
structure SubOk (P : Program) (N0 : Nat) (mla : Addr) (ml : Gl) (Post : Value → World → Prop) (E : Env) (sub : Gb.P → List V → Heap → Gb.P → OR → (V → Heap → Gb.P → OR) → OR) : Prop where
  ok : ∀ (g : Gb.P) (args : List V) (h : Heap) (nx : Gb.P) (no : OR) (k : V → Heap → Gb.P → OR) (r : Rs), sub g args h nx no k = some r → no = some r ∨ ∃ v h' nx', k v h' nx' = some r ∧ ∃ fd b regs, T.get g E.funs = some fd ∧ fd.body = some b ∧ args.length ≤ fd.ntmps ∧ (∀ k : Regs → OR, argsK args .z .nil k = k regs) ∧
    ∀ (θ : Th) (top : Fr) (cs : List Fr) (io : AIo) (top2 : Fr), θ.hf = .nil → (∀ k : Fr → OR, finK v top k = k top2) → Okay P N0 mla ml θ Post ⟨top2, cs, h', nx', io⟩ → Okay P N0 mla ml θ Post ⟨⟨g, fd.ntmps, regs, [.code b], [], .run, false, none⟩, top :: cs, h, nx, io⟩
theorem okay_call (hF : FunOk P E) (hX : ExtsOk P E mla ml) {gk : GK} (hS : SubOk P N0 mla ml Post E gk.sub) (hz : θ.hf = .nil) {f : Opd} {args : List Opd} (hat : Ats P N0 mla ml top (.call f args)) (e : fxK E gk (.call f args) top cs h nx io = some r) (hr : Suc P N0 mla ml θ Post E r) : Okay P N0 mla ml θ Post ⟨top, cs, h, nx, io⟩ := by
  simp only [fxK] at e
  obtain ⟨fv, hfv, e⟩ := opdK_some e
  obtain ⟨vs0, hvs, e⟩ := opdsK_inv e
  have back : ∀ r', callK E fv vs0 false top cs h nx io = some r' → (opdK f top.regs fun f => opdsK args top.regs fun args => callK E f args false top cs h nx io) = some r' := by
    intro r' h1
    rw [opdK_of hfv, opdsK_of hvs]
    exact h1
  split at e
  · rename_i g0 first caps
    rw [lappK_eq, lappK_eq] at e
    obtain ⟨g, hg, hdet, e⟩ := pK_det e
    rcases hS.ok g _ h nx _ _ r e with e | ⟨v, h', nx', e, fd, b, regs, h1, h2, h3, h4, h5⟩
    · exact okay_call0 hF hX hat (back r (by simp only [callK]; rw [lappK_eq, lappK_eq, hdet]; exact e)) hr
    · obtain ⟨top2, h6, h7⟩ := finK_det e
      cases h7
      refine okay_call0 hF hX hat (back (.go ⟨⟨g, fd.ntmps, regs, [.code b], [], .run, false, none⟩, top :: cs, h, nx, io⟩) ?_) (h5 θ top cs io top2 hz h6 hr)
      simp only [callK]
      rw [lappK_eq, lappK_eq, hdet]
      unfold enterK
      rw [h1]
      show (match fd.body with
        | some b => _
        | none => _) = _
      rw [h2]
      simp only
      rw [boolK_eq, if_pos (by rw [llen_eq, Nat.zero_add]; exact Nat.ble_eq_true_of_le h3), natK_eq, h4]
  · exact okay_call0 hF hX hat (back r e) hr
/-- Calls put off. -/
theorem okay_defer {f : Opd} {args : List Opd} (hat : Ats P N0 mla ml top (.defer f args)) {gk : GK} (e : fxK E gk (.defer f args) top cs h nx io = some r) (hr : Suc P N0 mla ml θ Post E r) : Okay P N0 mla ml θ Post ⟨top, cs, h, nx, io⟩ := by
  simp only [fxK] at e
  obtain ⟨fv, hfv, e⟩ := opdK_some e
  obtain ⟨vs0, hvs, e⟩ := opdsK_inv e
  split at e
  case h_2 => cases e
  rename_i g0 first caps e0
  clear e0
  split at e
  case h_2 => cases e
  rename_i hrd
  rw [lappK_eq, lappK_eq] at e
  obtain ⟨g, hg, e2⟩ := pK_inv e
  subst hg
  refine okay_fx hat fun σ vt vs vss fr fs ops i τ k' oo own w hF' hfs H hm ht hk hv hx => ?_
  generalize hop : oo.op = op at hx
  cases hx with
  | @defer c _ f' _ hc hf ha =>
    have h1 := opd_val (k := (some : V → O V)) (r := .nili) (hv f (by simp [fxOpds])) hf hfv
    have h2 := args_val (fun y hy => hv y (by simp [fxOpds, hy])) ha hvs
    obtain ⟨fn, nt, regs, todo, ds, md, dfd, rd⟩ := top
    have hrn : fr.roundOf = none := by
      rcases hF'.round with h | ⟨_, _, h, _⟩
      · exact h.2
      · simp only at hrd; rw [hrd] at h; cases h
    generalize hff : (⟨fr.tmps, fr.defers⟩ : Act).eval f' = uf at h1
    cases uf <;> simp only [VR] at h1
    rename_i g1 first1 caps1
    obtain ⟨rfl, _, h3, h4⟩ := h1
    let d : Deferred := { target := .fn (.func g.toNat) caps1, args := first1 ++ c.args.map (Act.eval ⟨fr.tmps, fr.defers⟩) }
    refine ⟨.inl hrn, fun nxt w' => nxt = .defer d ∧ w' = w, ?_, ?_⟩
    · unfold execOp
      simp only [hop, resolve, hc, hff, Deferred.ofValue]
      exact ⟨rfl, rfl⟩
    · rintro nxt w' ⟨rfl, rfl⟩
      have hF2 : FrR P N0 mla ml σ vs ⟨fn, nt, regs, todo, .fn g (first ++ vs0 ++ caps) :: ds, md, dfd, rd⟩ { fr with defers := d :: fr.defers } :=
        ⟨hF'.fn, hF'.nt, hF'.regs, hF'.todo, hF'.tail, hF'.vids, ⟨⟨caps1, rfl, by
          show VRL ml σ _ (first1 ++ c.args.map (Act.eval ⟨fr.tmps, fr.defers⟩) ++ caps1).toList
          simp only [Array.toList_append]
          exact VRL.append (VRL.append h3 h2) h4⟩, hF'.defers⟩, hF'.md, hF'.kind, hF'.round⟩
      obtain ⟨fr', e3, hfin, _⟩ := fin_rel hF2 (v := .tup []) (u := undef) trivial e2
      cases e3
      exact ⟨⟨fr', cs, h, nx, io⟩, σ, vs, vss, _, fs, apply_defer hk, rfl, Sub.refl _, hfin, hfs, rfl, H, hr⟩
theorem okay_close {c : Opd} (hat : Ats P N0 mla ml top (.close c)) {gk : GK} (e : fxK E gk (.close c) top cs h nx io = some r) (hr : Suc P N0 mla ml θ Post E r) : Okay P N0 mla ml θ Post ⟨top, cs, h, nx, io⟩ := by
  simp only [fxK] at e
  obtain ⟨fv, hfv, e⟩ := opdK_some e
  split at e
  case h_2 => cases e
  rename_i id hrd
  refine okay_fx hat fun σ vt vs vss fr fs ops i τ k' oo own w hF' hfs H hm ht hk hv hx => ?_
  generalize hop : oo.op = op at hx
  cases hx with
  | @close cl _ x' hc hargs hx =>
    have h1 := opd_val (k := (some : V → O V)) (r := .nili) (hv c (by simp [fxOpds])) hx hfv
    obtain ⟨fn, nt, regs, todo, ds, md, dfd, rd⟩ := top
    have hrn : fr.roundOf = none := by
      rcases hF'.round with h | ⟨_, _, h, _⟩
      · exact h.2
      · simp only at hrd; rw [hrd] at h; cases h
    generalize hff : (⟨fr.tmps, fr.defers⟩ : Act).eval x' = uf at h1
    cases uf <;> (try simp only [VR] at h1)
    rename_i o
    cases o <;> (try simp only [VR] at h1)
    obtain ⟨p, hp, rfl⟩ := h1
    let d : Deferred := { target := .builtin .close cl.argTypes oo.type (cl.args.map fun | .const _ => true | _ => false), args := #[.chan (some p.bl)] }
    refine ⟨.inl hrn, fun nxt w' => nxt = .defer d ∧ w' = w, ?_, ?_⟩
    · unfold execOp
      simp only [hop, resolve, hc, hargs, map_one, hff]
      exact ⟨by simp only [d, hargs]; rfl, rfl⟩
    · rintro nxt w' ⟨rfl, rfl⟩
      have hF2 : FrR P N0 mla ml σ vs ⟨fn, nt, regs, todo, .close id :: ds, md, dfd, rd⟩ { fr with defers := d :: fr.defers } :=
        ⟨hF'.fn, hF'.nt, hF'.regs, hF'.todo, hF'.tail, hF'.vids, ⟨⟨p, _, _, _, hp, rfl, rfl⟩, hF'.defers⟩, hF'.md, hF'.kind, hF'.round⟩
      obtain ⟨fr', e3, hfin, _⟩ := fin_rel hF2 (v := .tup []) (u := undef) trivial e
      cases e3
      exact ⟨⟨fr', cs, h, nx, io⟩, σ, vs, vss, _, fs, apply_defer hk, rfl, Sub.refl _, hfin, hfs, rfl, H, hr⟩
end
end Go.Gb
end
