/- A part of the proof of the statement Rows.TopMissingCardSaid (at every argument the law returns true on every schedule, and its argument reads as before; the listed variables as laid). This text: a stepper over symbolic states of the translated program and its soundness, part 40 of 41. -/
import Derived.Test.YtgabhijnigpbdaaGreatDoorM38
import Derived.Test.YtgabhijnigpbdaaGreatDoorM39
import Derived.Conc.LeavingOf
import Derived.Shelf.Vars
section
/-! From the evaluator's run to the row. -/
set_option linter.unusedVariables false
set_option linter.unusedSimpArgs false
namespace Go.Gb
open Go Go.Conc
section
variable {H : Type} {enc : TypeId × Value → H}
/-- A call that starts goroutines, under listed variables; the world's shape is kept. -/
theorem leaving_of_runs {a : Assume} {C : Checked} {os : Os} {f : FuncId} {fn : Func} {s : ChangeSpec} {conds : List PathCond} {apart fresh handsOn again : Bool} {X : World → Array Value → Prop}
    (own : ownKnob C.prog.godebug = none) (started : os.Started) (hfn : C.prog.funcs[f]? = some fn)
    (witness : ∃ (w : World) (tape : Tape) (i : Input), w.os = os ∧ (w.forCall tape i).Shaped C.prog ∧ i.vars = [] ∧ Input.okWide C.prog (w.forCall tape i) .any w.heap.size f i ∧
      ((s.pre enc C.prog fn conds apart (w.forCall tape i).memory i.args ∧ X (w.forCall tape i).memory i.args) ∧ sizedMet enc C.prog fn (OpenSpec.ofChange s) apart (w.forCall tape i).memory i.args) ∧ a.holds C.prog (lone (Frame.enter C.prog f i.args .normal) [] (w.forCall tape i)))
    (runs : ∀ (W : World) (base : Nat) (args : Array Value) (ds gs : List (DataW H)) (before : List MemPlace),
      (∀ (j : Nat) t v, fn.params[j]? = some t → args[j]? = some v → Value.okWide C.prog W .any base t v) →
      DataW.Whole enc C.prog fn.params.toList s.vars apart W args.toList ds gs before →
      W.ShapedOpen C.prog →
      ∃ M last o w' t', runNT C.prog (M + 1) (solo (G (Frame.enter C.prog f args .normal) []) W) #[] = (.ended o w', t') ∧ runN C.prog M (solo (G (Frame.enter C.prog f args .normal) []) W) = .next last ∧
        step C.prog last = .ended o w' ∧ Conc.Good C.prog (fun v W' => s.post enc C.prog fn apart fresh handsOn again W args v W') last o w' t') :
    ReturnsInLeavingWide a C os f .any (fun w args => (s.pre enc C.prog fn conds apart w args ∧ X w args) ∧ sizedMet enc C.prog fn (OpenSpec.ofChange s) apart w args) (s.post enc C.prog fn apart fresh handsOn again) := by
  refine returnsInLeavingWide_of_good own started witness ?_
  intro w tape i _ hsh _ hok hpre hholds
  obtain ⟨_, _, _, fn', hfn', _, _, _, _, hval⟩ := hok
  have e : fn' = fn := Option.some.inj (hfn'.symm.trans hfn)
  subst e
  obtain ⟨⟨⟨ds, gs, before, hw, hc⟩, hx⟩, hz⟩ := hpre
  have hw' := DataW.Whole.of_heap (w' := w.forCall tape i) (by rfl) hw
  obtain ⟨M, last, o, w', t', h1, h2, h3, h4⟩ := runs (w.forCall tape i) w.heap.size i.args ds gs before hval hw' hsh
  exact ⟨M, last, o, w', t', h1, h2, h3, h4.mono fun v hp => ChangeSpec.post_blind hp⟩
end
theorem Kept.but {w w' : World} (h : Kept w.heap.size w w') (may : MemPlace → Prop) : w.keptBut w' may := by
  refine ⟨h.os, h.output, fun i hi => ?_⟩
  rw [h.base i hi]
  split
  · rename_i e1 e2; rw [e1] at e2; cases e2; exact ⟨rfl, rfl, rfl, fun _ _ => rfl⟩
  · rename_i e1 e2; rw [e1] at e2; cases e2; exact .inr ⟨rfl, rfl⟩
  · rfl
/-! tables out of lists -/
theorem succP_eq {R : Type} : ∀ (i : P) (k : P → R), P.rec (motive := fun _ => (P → R) → R) (fun k => k (.o .z)) (fun p _ k => k (.e p)) (fun _ ih k => ih fun q => k (.o q)) i k = k i.succ
  | .z, _ => rfl
  | .o _, _ => rfl
  | .e p, k => succP_eq p fun q => k (.o q)
theorem ofLK_inv {α R : Type} : ∀ (l : List α) (i : P) (t : T α), ∃ t', (∀ k : T α → R, ofLK l i t k = k t') ∧ ∀ p x, T.get p t' = some x → (∃ j, p.toNat = i.toNat + j ∧ l[j]? = some x) ∨ T.get p t = some x := by
  intro l
  induction l with
  | nil => intro i t; exact ⟨t, fun k => rfl, fun p x h => .inr h⟩
  | cons a l ih =>
    intro i t
    obtain ⟨t', h1, h2⟩ := ih i.succ (T.put (some a) i t)
    refine ⟨t', fun k => ?_, fun p x hp => ?_⟩
    · show T.putK (some a) i t (fun t => P.rec (motive := fun _ => (P → R) → R) (fun k => k (.o .z)) (fun p _ k => k (.e p)) (fun _ ih k => ih fun q => k (.o q)) i fun i => ofLK l i t k) = _
      rw [T.putK_eq, succP_eq]
      exact h1 k
    · rcases h2 p x hp with ⟨j, h3, h4⟩ | h3
      · exact .inl ⟨j + 1, by rw [P.toNat_succ] at h3; omega, by simpa using h4⟩
      · by_cases hpi : i = p
        · subst hpi; rw [T.get_put_same] at h3; cases h3; exact .inl ⟨0, by simp, rfl⟩
        · rw [T.get_put_ne _ _ _ _ hpi] at h3; exact .inr h3
theorem ofLK_some {α : Type} {l : List α} {t : T α} (h : ofLK l .z .nil some = some t) : ∀ p x, T.get p t = some x → l[p.toNat]? = some x := by
  obtain ⟨t', h1, h2⟩ := ofLK_inv (R := Option (T α)) l .z .nil
  rw [h1] at h
  cases h
  intro p x hp
  rcases h2 p x hp with ⟨j, h3, h4⟩ | h3
  · have : p.toNat = j := by rw [h3]; simp [P.toNat]
    rw [this]; exact h4
  · rw [T.get_nil] at h3; cases h3
end Go.Gb
end
section
/-! 'Each thing as wished?': over a map, in whatever order. -/
set_option linter.unusedSimpArgs false
set_option linter.unusedVariables false
set_option linter.unusedSectionVars false
namespace Go.Gb
open Go.Conc
section
variable {P : Program} {N0 : Nat} {mla : Addr} {ml : Gl} {θ : Th} {Post : Value → World → Prop} {E : Env}
theorem AR.fewer {vt : Vt} {σ : Sg} {h h1 : Heap} {nx : Gb.P} {own : Own} {n0 : Nat} {w : World} (H : AR N0 mla ml vt σ h nx own n0 w) (hs : ∀ id ob, T.get id h1 = some ob → T.get id h = some ob) : AR N0 mla ml vt σ h1 nx own n0 w :=
  ⟨H.dom, fun id p ob hp hob => H.has id p ob hp (hs _ _ hob), H.low, fun id ob hob => H.hlow id ob (hs _ _ hob), fun id id' p p' o1 o2 hp hp' h1 h2 => H.inj id id' p p' o1 o2 hp hp' (hs _ _ h1) (hs _ _ h2), fun id p ob hp hob => H.obs id p ob hp (hs _ _ hob), H.vts, H.fr, fun id id' p p' o1 o2 hp hp' h1 h2 => H.frx id id' p p' o1 o2 hp hp' h1 (hs _ _ h2), H.fro, H.frl, H.glob, H.n0le, H.apart⟩
/-- What is known no more. -/
theorem okay_heap {top : Fr} {cs : List Fr} {h h1 : Heap} {nx : Gb.P} {io : AIo} (hs : ∀ id ob, T.get id h1 = some ob → T.get id h = some ob) (hr : Okay P N0 mla ml θ Post ⟨top, cs, h1, nx, io⟩) : Okay P N0 mla ml θ Post ⟨top, cs, h, nx, io⟩ := by
  rintro io' own g w ⟨σ, vt, vs, vss, ids, f, fs, rfl, S⟩
  exact hr _ _ _ _ ⟨σ, vt, vs, vss, ids, f, fs, rfl, ⟨S.ar.fewer hs, S.top, S.cs, S.io, S.vids, S.nodup, S.hf, S.kept, S.lt⟩⟩
theorem okay_regs {fn : Gb.P} {nt : Nat} {regs regs1 : Regs} {todo : List AIt} {ds : List ATgt} {md : Md} {dfd : Bool} {rd : Option Gb.P} {cs : List Fr} {h : Heap} {nx : Gb.P} {io : AIo} (hn : NoDg todo) (hs : ∀ p v, T.get p regs1 = some v → T.get p regs = some v)
    (hr : Okay P N0 mla ml θ Post ⟨⟨fn, nt, regs1, todo, ds, md, dfd, rd⟩, cs, h, nx, io⟩) : Okay P N0 mla ml θ Post ⟨⟨fn, nt, regs, todo, ds, md, dfd, rd⟩, cs, h, nx, io⟩ := by
  rintro io' own g w ⟨σ, vt, vs, vss, ids, f, fs, rfl, S⟩
  have F := S.top
  have hv : vs = [] := vids_no hn F.vids
  subst hv
  exact hr _ _ _ _ ⟨σ, vt, [], vss, ids, f, fs, rfl, ⟨S.ar, ⟨F.fn, F.nt, fun p v hp hx => F.regs p v (hs p v hp) (by rw [pnd_no hn]; exact fun x => x), F.todo, F.tail, vids_nil hn, F.defers, F.md, F.kind, F.round⟩, S.cs, S.io, S.vids, S.nodup, S.hf, S.kept, S.lt⟩⟩
section
variable {l : List TOp} {regs : Regs} {h : Heap} {nx : Gb.P} {ke : Regs → Heap → Gb.P → OR} {kf : Fx → List TOp → Regs → Heap → Gb.P → OR} {d p : Gb.P}
theorem ops_mvc {v : V} : opsK (⟨some d, none, .i (.mv (.c v))⟩ :: l) regs h nx ke kf = opsK l (T.put (some v) d regs) h nx ke kf := by
  show T.putK (some v) d regs (fun regs => opsK l regs h nx ke kf) = _
  rw [T.putK_eq]
theorem ops_mvr {v : V} (hp : T.get p regs = some v) : opsK (⟨some d, none, .i (.mv (.r p))⟩ :: l) regs h nx ke kf = opsK l (T.put (some v) d regs) h nx ke kf := by
  show optK (T.get p regs) none (fun v => T.putK (some v) d regs (fun regs => opsK l regs h nx ke kf)) = _
  rw [hp]
  exact T.putK_eq ..
theorem ops_range {id : Gb.P} {es : List (V × V × Nat)} {clk : Nat} (hp : T.get p regs = some (.map id)) (hm : T.get id h = some (.map es clk)) (hn : T.get nx h = none) : opsK (⟨some d, none, .i (.rangeM (.r p))⟩ :: l) regs h nx ke kf = opsK l (T.put (some (.ptr nx 0)) d regs) (T.put (some (.mit (some id) clk [] clk)) nx h) nx.succ ke kf := by
  show optK (T.get p regs) none (fun v => _) = _
  rw [hp]
  show optK (T.get id h) none (fun o => _) = _
  rw [hm]
  show optK (T.get nx h) (T.putK _ nx h fun h => succK nx fun nx' => _) (fun _ => none) = _
  rw [hn]
  show T.putK _ nx h (fun h => succK nx fun nx' => _) = _
  rw [T.putK_eq, succK_eq]
  show T.putK (some (V.ptr nx 0)) d regs (fun regs => opsK l regs _ _ ke kf) = _
  rw [T.putK_eq]
theorem ops_extract {v : V} {vs : List V} (hp : T.get p regs = some (.tup (v :: vs))) : opsK (⟨some d, none, .i (.extract 0 (.r p))⟩ :: l) regs h nx ke kf = opsK l (T.put (some v) d regs) h nx ke kf := by
  show optK (T.get p regs) none (fun v => _) = _
  rw [hp]
  show T.putK (some v) d regs (fun regs => opsK l regs h nx ke kf) = _
  rw [T.putK_eq]
theorem ops_not {b : Bool} (hp : T.get p regs = some (.bool b)) : opsK (⟨some d, none, .i (.un .not (.r p))⟩ :: l) regs h nx ke kf = opsK l (T.put (some (.bool !b)) d regs) h nx ke kf := by
  show optK (T.get p regs) none (fun v => _) = _
  rw [hp]
  cases b
  · show T.putK (some (V.bool true)) d regs (fun regs => opsK l regs h nx ke kf) = _
    rw [T.putK_eq]; rfl
  · show T.putK (some (V.bool false)) d regs (fun regs => opsK l regs h nx ke kf) = _
    rw [T.putK_eq]; rfl
theorem llast_eq : ∀ (s : List Nat) (b : Nat) (k : Nat → OR), llast (s ++ [b]) k = k b
  | [], b, k => rfl
  | [_], b, k => rfl
  | _ :: y :: s, b, k => llast_eq (y :: s) b k
theorem stamp_eq {b : Nat} : ∀ (es : List (V × V × Nat)) (i : Nat), (∃ e ∈ es, e.2.2 = b) → ∃ e ∈ es, ∃ j, ∀ k : Nat → V × V × Nat → OR, stampK b es i k = k j e
  | [], _, h => by obtain ⟨e, he, _⟩ := h; simp at he
  | x :: es, i, h => by
    by_cases hx : x.2.2 = b
    · refine ⟨x, by simp, i, fun k => ?_⟩
      show boolK (Nat.beq x.2.2 b) (k i x) (natK (Nat.add i 1) fun i => stampK b es i k) = _
      rw [beq2.2 hx]; rfl
    · obtain ⟨e, he, j, h1⟩ := stamp_eq es (i + 1) (by
        obtain ⟨e, he, h2⟩ := h
        rcases List.mem_cons.1 he with rfl | he
        · exact absurd h2 hx
        · exact ⟨e, he, h2⟩)
      refine ⟨e, by simp [he], j, fun k => ?_⟩
      show boolK (Nat.beq x.2.2 b) (k i x) (natK (Nat.add i 1) fun i => stampK b es i k) = _
      rw [beq2f.2 hx, natK_eq]
      exact h1 k
theorem ops_entry {it id : Gb.P} {es : List (V × V × Nat)} {since clk b : Nat} {seen : List Nat} (hp : T.get p regs = some (.ptr it 0)) (hi : T.get it h = some (.mit (some id) since (seen ++ [b]) clk)) (hm : T.get id h = some (.map es clk)) (hb : ∃ e ∈ es, e.2.2 = b) :
    ∃ e ∈ es, ∀ (l : List TOp) (ke : Regs → Heap → Gb.P → OR) (kf : Fx → List TOp → Regs → Heap → Gb.P → OR), opsK (⟨some d, none, .i (.entry (.r p))⟩ :: l) regs h nx ke kf = opsK l (T.put (some (.tup [e.1, e.2.1])) d regs) h nx ke kf := by
  obtain ⟨e, he, j, h1⟩ := stamp_eq (b := b) es 0 hb
  refine ⟨e, he, fun l ke kf => ?_⟩
  show optK (T.get p regs) none (fun v => _) = _
  rw [hp]
  show optK (T.get it h) none (fun o => _) = _
  rw [hi]
  show llast (seen ++ [b]) (fun b => _) = _
  rw [llast_eq]
  show optK (T.get id h) none (fun o => _) = _
  rw [hm]
  show boolK (Nat.beq clk clk) (stampK b es 0 fun _ e => T.putK (some (V.tup [e.1, e.2.1])) d regs (fun regs => opsK l regs h nx ke kf)) none = _
  rw [beq2.2 rfl, ← T.putK_eq (some (V.tup [e.1, e.2.1])) d regs (fun regs => opsK l regs h nx ke kf)]
  exact h1 _
end
theorem lmem_dec (a : Nat) : ∀ l : List Nat, lmem a l = decide (a ∈ l)
  | [] => by simp [lmem]
  | x :: l => by
    show boolK (Nat.beq x a) true (lmem a l) = _
    rw [lmem_dec a l]
    by_cases h : x = a
    · rw [beq2.2 h]; simp [boolK, h]
    · rw [beq2f.2 h]; simp [boolK, Ne.symm h]
theorem left_eq {since : Nat} {seen : List Nat} : ∀ (es : List (V × V × Nat)), (∀ e ∈ es, e.2.2 < since) → ∀ k : List (V × V × Nat) → OR, leftK since es seen k = k (es.filter fun e => !decide (e.2.2 ∈ seen))
  | [], _, k => rfl
  | x :: es, h, k => by
    show boolK (Nat.blt x.2.2 since) (leftK since es seen fun r => boolK (lmem x.2.2 seen) (k r) (k (x :: r))) none = _
    have : Nat.blt x.2.2 since = true := Nat.ble_eq_true_of_le (h x (by simp))
    rw [this]
    show leftK since es seen (fun r => boolK (lmem x.2.2 seen) (k r) (k (x :: r))) = _
    rw [left_eq es (fun e he => h e (by simp [he])), lmem_dec]
    by_cases hx : x.2.2 ∈ seen
    · simp [boolK, hx]
    · simp [boolK, hx]
end
/-! temporaries' numbers -/
abbrev p1 : P := .o .z
abbrev p4 : P := .e (.o .z)
abbrev p5 : P := .o (.e .z)
abbrev p6 : P := .e (.e .z)
abbrev p7 : P := .o (.o (.o .z))
abbrev p8 : P := .e (.o (.o .z))
abbrev p9 : P := .o (.e (.o .z))
abbrev p10 : P := .e (.e (.o .z))
abbrev p11 : P := .o (.o (.e .z))
abbrev p12 : P := .e (.o (.e .z))
abbrev p13 : P := .o (.e (.e .z))
abbrev p14 : P := .e (.e (.e .z))
abbrev p15 : P := .o (.o (.o (.o .z)))
/-- The code of 'each'. -/
structure EachCode (E : Env) (fd : Func) (b : Code) (o0 o1 o2 o3 o4 o6 : Array Oper) : Prop where
  nt : fd.ntmps = 16
  res : fd.results.toList = [.tmp 4]
  body : fd.body = some b
  code : ∃ i0 i1 i2 i3 i4 i6 x, b = (Code.region i0 o0 false).seq (((Code.region i1 o1 false).seq (Code.block 0 ((Code.region i2 o2 false).seq ((Code.cond (.tmp 9) .skip (.exit 0)).seq (Code.block 1 ((Code.region i3 o3 false).seq ((Code.region i4 o4 false).seq (Code.cond (.tmp 15) x .skip)))))).loop)).seq ((Code.region i6 o6 false).seq .ret))
  c0 : compR E 16 o0 = some [⟨some p4, none, .i (.mv (.c (.bool false)))⟩]
  c1 : compR E 16 o1 = some [⟨some p6, none, .i (.mv (.r .z))⟩, ⟨some p7, none, .i (.rangeM (.r p6))⟩]
  c2 : compR E 16 o2 = some [⟨some p8, none, .f (.nextM (.r p7))⟩, ⟨some p9, none, .i (.extract 0 (.r p8))⟩]
  c3 : compR E 16 o3 = some [⟨some p10, none, .i (.entry (.r p7))⟩, ⟨some p11, none, .i (.extract 0 (.r p10))⟩, ⟨some p5, none, .i (.mv (.r p11))⟩]
  c4 : compR E 16 o4 = some [⟨some p12, none, .i (.mv (.r p1))⟩, ⟨some p13, none, .i (.mv (.r p5))⟩, ⟨some p14, none, .f (.call (.r p12) [.r p13])⟩, ⟨some p15, none, .i (.un .not (.r p14))⟩]
  c6 : compR E 16 o6 = some [⟨some p4, none, .i (.mv (.c (.bool true)))⟩]
  t4 : ∀ k : P → OR, pK 4 k = k p4
section
variable {P : Program} {N0 : Nat} {mla : Addr} {ml : Gl} {θ : Th} {Post : Value → World → Prop} {E : Env}
variable {g : Gb.P} {cs : List Fr} {io : AIo}
/-- One step of the evaluator. -/
theorem go1 (hE : EnvOk P E mla ml) (hF : FunOk P E) (hX : ExtsOk P E mla ml) (hz : θ.hf = .nil) {c c' : Cfg} (e : step0 E noGk (plan1 E) c = some (.go c')) (h : Okay P N0 mla ml θ Post c') : Okay P N0 mla ml θ Post c :=
  step_suc (r := .go c') hE hF hX noGk_ok hz e h
section
variable {fn : Gb.P} {nt : Nat} {k : List AIt} {ds : List ATgt} {dfd : Bool} {rd : Option Gb.P} {ops : Array Oper}
theorem rg_end (hE : EnvOk P E mla ml) (hF : FunOk P E) (hX : ExtsOk P E mla ml) (hz : θ.hf = .nil) {l : List TOp} {regs regs' : Regs} {h h' : Heap} {nx nx' : Gb.P} (e : ∀ (ke : Regs → Heap → Gb.P → OR) (kf : Fx → List TOp → Regs → Heap → Gb.P → OR), opsK l regs h nx ke kf = ke regs' h' nx')
    (hr : Okay P N0 mla ml θ Post ⟨⟨fn, nt, regs', k, ds, .run, dfd, rd⟩, cs, h', nx', io⟩) : Okay P N0 mla ml θ Post ⟨⟨fn, nt, regs, .rg ops l :: k, ds, .run, dfd, rd⟩, cs, h, nx, io⟩ := by
  refine go1 hE hF hX hz ?_ hr
  show opsK l regs h nx (fun regs h nx => some (.go ⟨⟨fn, nt, regs, k, ds, .run, dfd, rd⟩, cs, h, nx, io⟩)) (fun x l regs h nx => fxK E noGk x ⟨fn, nt, regs, .rg ops l :: k, ds, .run, dfd, rd⟩ cs h nx io) = _
  rw [e]
theorem step_rg {l : List TOp} {regs : Regs} {h : Heap} {nx : Gb.P} : step0 E noGk (plan1 E) ⟨⟨fn, nt, regs, .rg ops l :: k, ds, .run, dfd, rd⟩, cs, h, nx, io⟩ = opsK l regs h nx (fun regs h nx => some (.go ⟨⟨fn, nt, regs, k, ds, .run, dfd, rd⟩, cs, h, nx, io⟩)) (fun x l regs h nx => fxK E noGk x ⟨fn, nt, regs, .rg ops l :: k, ds, .run, dfd, rd⟩ cs h nx io) := rfl
theorem finK_rg {v : V} {d : Gb.P} {g0 : Option (Gb.P × Bool)} {w0 : Wh} {l : List TOp} {regs : Regs} (kk : Fr → OR) : finK v ⟨fn, nt, regs, .rg ops (⟨some d, g0, w0⟩ :: l) :: k, ds, .run, dfd, rd⟩ kk = kk ⟨fn, nt, T.put (some v) d regs, .rg ops l :: k, ds, .run, dfd, rd⟩ := by
  show T.putK (some v) d regs (fun regs => kk ⟨fn, nt, regs, .rg ops l :: k, ds, .run, dfd, rd⟩) = _
  rw [T.putK_eq]
theorem fx_call {wn : Nat} {w pf pa : Gb.P} {a : V} {regs : Regs} {todo : List AIt} {md : Md} {h : Heap} {nx : Gb.P} {r : Rs} (hf : T.get pf regs = some (.fn (.func wn) [] [])) (ha : T.get pa regs = some a) (hw : ∀ k : Gb.P → OR, pK wn k = k w)
    (he : enterK E w [a] false ⟨fn, nt, regs, todo, ds, md, dfd, rd⟩ cs h nx io = some r) : fxK E noGk (.call (.r pf) [.r pa]) ⟨fn, nt, regs, todo, ds, md, dfd, rd⟩ cs h nx io = some r := by
  have h1 : opdK (C := V) (.r pf) regs some = some (.fn (.func wn) [] []) := by show optK (T.get pf regs) none some = _; rw [hf]; rfl
  have h2 : opdK (C := V) (.r pa) regs some = some a := by show optK (T.get pa regs) none some = _; rw [ha]; rfl
  simp only [fxK]
  rw [opdK_of h1, opdsK_of (vs := [a]) ⟨rfl, fun j x v hx hv => by
    cases j with
    | zero => simp at hx hv; subst hx hv; exact h2
    | succ j => simp at hx⟩]
  simp only [lappK_eq]
  rw [hw]
  exact he
theorem enter_eq {w : Gb.P} {fdw : Func} {bw : Code} {args : List V} {regsw : Regs} {top : Fr} {h : Heap} {nx : Gb.P} (q1 : T.get w E.funs = some fdw) (q2 : fdw.body = some bw) (q3 : args.length ≤ fdw.ntmps) (q4 : ∀ k : Regs → OR, argsK args .z .nil k = k regsw) :
    enterK E w args false top cs h nx io = some (.go ⟨⟨w, fdw.ntmps, regsw, [.code bw], [], .run, false, none⟩, top :: cs, h, nx, io⟩) := by
  unfold enterK
  rw [q1]
  show (match fdw.body with | some b => _ | none => _) = _
  rw [q2]
  simp only
  rw [boolK_eq, if_pos (by rw [llen_eq, Nat.zero_add]; exact Nat.ble_eq_true_of_le q3), natK_eq, q4]
/-- The next of a map's entries, whichever. -/
theorem okay_next (hE : EnvOk P E mla ml) (hF : FunOk P E) (hX : ExtsOk P E mla ml) (hz : θ.hf = .nil) {l : List TOp} {regs : Regs} {h0 : Heap} {nx : Gb.P} {it id pi d : Gb.P} {es : List (V × V × Nat)} {clk : Nat} {seen : List Nat}
    (hp : T.get pi regs = some (.ptr it 0)) (hm : T.get id h0 = some (.map es clk)) (hne : it ≠ id) (hb : ∀ e ∈ es, e.2.2 < clk)
    (hend : (∀ e ∈ es, e.2.2 ∈ seen) → Okay P N0 mla ml θ Post ⟨⟨fn, nt, T.put (some (.tup [.bool false])) d regs, .rg ops l :: k, ds, .run, dfd, rd⟩, cs, T.put (some (.mit (some id) clk seen clk)) it h0, nx, io⟩)
    (hnext : ∀ e ∈ es, e.2.2 ∉ seen → Okay P N0 mla ml θ Post ⟨⟨fn, nt, T.put (some (.tup [.bool true, e.1, e.2.1])) d regs, .rg ops l :: k, ds, .run, dfd, rd⟩, cs, T.put (some (.mit (some id) clk (seen ++ [e.2.2]) clk)) it h0, nx, io⟩) :
    Okay P N0 mla ml θ Post ⟨⟨fn, nt, regs, .rg ops (⟨some d, none, .f (.nextM (.r pi))⟩ :: l) :: k, ds, .run, dfd, rd⟩, cs, T.put (some (.mit (some id) clk seen clk)) it h0, nx, io⟩ := by
  have hstep : step0 E noGk (plan1 E) ⟨⟨fn, nt, regs, .rg ops (⟨some d, none, .f (.nextM (.r pi))⟩ :: l) :: k, ds, .run, dfd, rd⟩, cs, T.put (some (.mit (some id) clk seen clk)) it h0, nx, io⟩ =
      (match es.filter fun e => !decide (e.2.2 ∈ seen) with
      | [] => finK (.tup [.bool false]) ⟨fn, nt, regs, .rg ops (⟨some d, none, .f (.nextM (.r pi))⟩ :: l) :: k, ds, .run, dfd, rd⟩ fun top => some (.go ⟨top, cs, T.put (some (.mit (some id) clk seen clk)) it h0, nx, io⟩)
      | [e] => stepMK it id clk clk seen e (T.put (some (.mit (some id) clk seen clk)) it h0) fun v h => finK v ⟨fn, nt, regs, .rg ops (⟨some d, none, .f (.nextM (.r pi))⟩ :: l) :: k, ds, .run, dfd, rd⟩ fun top => some (.go ⟨top, cs, h, nx, io⟩)
      | l' => forkK it id clk clk seen l' (T.put (some (.mit (some id) clk seen clk)) it h0) (fun v h kk => finK v ⟨fn, nt, regs, .rg ops (⟨some d, none, .f (.nextM (.r pi))⟩ :: l) :: k, ds, .run, dfd, rd⟩ fun top => kk ⟨top, cs, h, nx, io⟩) fun l => some (.fork l)) := by
    show optK (T.get pi regs) none (fun v => _) = _
    rw [hp]
    show optK (T.get it (T.put (some (.mit (some id) clk seen clk)) it h0)) none (fun o => _) = _
    rw [T.get_put_same]
    show optK (T.get id (T.put (some (.mit (some id) clk seen clk)) it h0)) none (fun o => _) = _
    rw [T.get_put_ne _ _ _ _ hne, hm]
    have hbl : Nat.ble clk clk = true := Nat.ble_eq_true_of_le (Nat.le_refl _)
    show boolK (Nat.ble clk clk) (leftK clk es seen fun l => _) none = _
    rw [hbl]
    show leftK clk es seen (fun l => _) = _
    rw [left_eq es hb]
    show boolK (Nat.ble clk clk) _ none = _
    rw [hbl]
    rfl
  have put2 : ∀ x : Ob, T.put (some x) it (T.put (some (.mit (some id) clk seen clk)) it h0) = T.put (some x) it h0 := fun x => T.put_put ..
  cases hL : es.filter fun e => !decide (e.2.2 ∈ seen) with
  | nil =>
    rw [hL] at hstep
    simp only [finK_rg] at hstep
    refine go1 hE hF hX hz hstep (hend fun e he => ?_)
    have := List.filter_eq_nil_iff.1 hL e he
    simpa using this
  | cons e1 L =>
    have hin : ∀ e ∈ e1 :: L, e ∈ es ∧ e.2.2 ∉ seen := fun e he => by
      rw [← hL] at he
      obtain ⟨h1, h2⟩ := List.mem_filter.1 he
      exact ⟨h1, by simpa using h2⟩
    rw [hL] at hstep
    cases L with
    | nil =>
      replace hstep : _ = stepMK it id clk clk seen e1 (T.put (some (.mit (some id) clk seen clk)) it h0) (fun v h => finK v ⟨fn, nt, regs, .rg ops (⟨some d, none, .f (.nextM (.r pi))⟩ :: l) :: k, ds, .run, dfd, rd⟩ fun top => some (.go ⟨top, cs, h, nx, io⟩)) := hstep
      unfold stepMK at hstep
      rw [lappK_eq, T.putK_eq] at hstep
      simp only [finK_rg, put2] at hstep
      exact go1 hE hF hX hz hstep (hnext e1 (hin e1 (by simp)).1 (hin e1 (by simp)).2)
    | cons e2 L =>
      replace hstep : _ = forkK it id clk clk seen (e1 :: e2 :: L) (T.put (some (.mit (some id) clk seen clk)) it h0) (fun v h kk => finK v ⟨fn, nt, regs, .rg ops (⟨some d, none, .f (.nextM (.r pi))⟩ :: l) :: k, ds, .run, dfd, rd⟩ fun top => kk ⟨top, cs, h, nx, io⟩) (fun l => some (.fork l)) := hstep
      have fk : ∀ (l' : List (V × V × Nat)) (kk : List Cfg → OR), forkK it id clk clk seen l' (T.put (some (.mit (some id) clk seen clk)) it h0) (fun v h kk => finK v ⟨fn, nt, regs, .rg ops (⟨some d, none, .f (.nextM (.r pi))⟩ :: l) :: k, ds, .run, dfd, rd⟩ fun top => kk ⟨top, cs, h, nx, io⟩) kk =
          kk (l'.map fun e => ⟨⟨fn, nt, T.put (some (.tup [.bool true, e.1, e.2.1])) d regs, .rg ops l :: k, ds, .run, dfd, rd⟩, cs, T.put (some (.mit (some id) clk (seen ++ [e.2.2]) clk)) it h0, nx, io⟩) := by
        intro l'
        induction l' with
        | nil => intro kk; rfl
        | cons e l' ih =>
          intro kk
          show stepMK it id clk clk seen e (T.put (some (.mit (some id) clk seen clk)) it h0) (fun v h => finK v ⟨fn, nt, regs, .rg ops (⟨some d, none, .f (.nextM (.r pi))⟩ :: l) :: k, ds, .run, dfd, rd⟩ fun top => forkK it id clk clk seen l' (T.put (some (.mit (some id) clk seen clk)) it h0) (fun v h kk => finK v ⟨fn, nt, regs, .rg ops (⟨some d, none, .f (.nextM (.r pi))⟩ :: l) :: k, ds, .run, dfd, rd⟩ fun top => kk ⟨top, cs, h, nx, io⟩) fun l => kk (⟨top, cs, h, nx, io⟩ :: l)) = _
          unfold stepMK
          rw [lappK_eq, T.putK_eq]
          refine Eq.trans (finK_rg _) ?_
          rw [put2]
          exact (ih _).trans rfl
      rw [fk] at hstep
      refine step_suc hE hF hX noGk_ok hz hstep fun c hc => ?_
      obtain ⟨e, he, rfl⟩ := List.mem_map.1 hc
      exact hnext e (hin e he).1 (hin e he).2
end
theorem each_is (hE : EnvOk P E mla ml) (hF : FunOk P E) (hX : ExtsOk P E mla ml) {fd : Func} {b : Code} {o0 o1 o2 o3 o4 o6 : Array Oper} (hg : T.get g E.funs = some fd) (hc : EachCode E fd b o0 o1 o2 o3 o4 o6) : EachIs P N0 mla ml Post E g := by
  intro id w es clk hwk hes hborn
  obtain ⟨regs, hdet, hregs, _, hget⟩ := argsK_det [.map id, .fn (.func w.toNat) [] []] .z .nil
  refine ⟨fd, b, regs, hg, hc.body, by rw [hc.nt]; omega, hdet, fun θ top cs h nx io top2 hz hm hnx hfin hok => ?_⟩
  have r0 : T.get .z regs = some (.map id) := hget 0 _ _ rfl rfl
  have r1 : T.get p1 regs = some (.fn (.func w.toNat) [] []) := hget 1 _ _ rfl rfl
  have hne : nx ≠ id := fun e => by subst e; rw [hm] at hnx; cases hnx
  obtain ⟨i0, i1, i2, i3, i4, i6, x, rfl⟩ := hc.code
  rw [hc.nt]
  -- the end
  have hend : ∀ (regs : Regs) (seen : List Nat), Okay P N0 mla ml θ Post ⟨⟨g, 16, regs, [.code ((Code.region i6 o6 false).seq .ret)], [], .run, false, none⟩, top :: cs, T.put (some (.mit (some id) clk seen clk)) nx h, nx.succ, io⟩ := by
    intro regs seen
    refine okay_seq (okay_region hE hc.c6 (rg_end hE hF hX hz (fun ke kf => by rw [ops_mvc]; rfl) ?_))
    refine go1 hE hF hX hz (c' := ⟨⟨g, 16, T.put (some (.bool true)) p4 regs, [.code .ret], [], .returning, false, none⟩, top :: cs, T.put (some (.mit (some id) clk seen clk)) nx h, nx.succ, io⟩) rfl ?_
    refine go1 hE hF hX hz (c' := ⟨top2, cs, T.put (some (.mit (some id) clk seen clk)) nx h, nx.succ, io⟩) ?_ (okay_heap (h1 := h) (fun i ob hi => ?_) hok)
    · show optK (T.get g E.funs) none (fun f => _) = _
      rw [hg]
      show resK E fd.results.toList _ _ _ = _
      rw [hc.res]
      show pK 4 (fun p => _) = _
      rw [hc.t4]
      show optK (T.get p4 (T.put (some (.bool true)) p4 regs)) none (fun v => _) = _
      rw [T.get_put_same]
      show finK (.bool true) top (fun caller => some (.go ⟨caller, cs, T.put (some (.mit (some id) clk seen clk)) nx h, nx.succ, io⟩)) = _
      exact hfin _
    · have : nx ≠ i := fun e => by subst e; rw [hnx] at hi; cases hi
      rw [T.get_put_ne _ _ _ _ this]; exact hi
  -- the loop
  generalize hrest : [AIt.code ((Code.region i6 o6 false).seq .ret)] = rest at hend
  generalize hbody : (Code.region i2 o2 false).seq ((Code.cond (.tmp 9) .skip (.exit 0)).seq (Code.block 1 ((Code.region i3 o3 false).seq ((Code.region i4 o4 false).seq (Code.cond (.tmp 15) x .skip))))) = body
  have common : ∀ (seen : List Nat) (regs : Regs), T.get p1 regs = some (.fn (.func w.toNat) [] []) → T.get p7 regs = some (.ptr nx 0) →
      (∀ e ∈ es, e.2.2 ∉ seen → ∀ regs : Regs, T.get p1 regs = some (.fn (.func w.toNat) [] []) → T.get p7 regs = some (.ptr nx 0) → Okay P N0 mla ml θ Post ⟨⟨g, 16, regs, .code body :: .inLoop body :: .inBlock 0 :: rest, [], .run, false, none⟩, top :: cs, T.put (some (.mit (some id) clk (seen ++ [e.2.2]) clk)) nx h, nx.succ, io⟩) →
      Okay P N0 mla ml θ Post ⟨⟨g, 16, regs, .code body :: .inLoop body :: .inBlock 0 :: rest, [], .run, false, none⟩, top :: cs, T.put (some (.mit (some id) clk seen clk)) nx h, nx.succ, io⟩ := by
    intro seen regs h1 h7 hnext
    have hb2 := hbody
    subst hb2
    refine okay_seq (okay_region hE hc.c2 (okay_next hE hF hX hz h7 hm hne hborn (fun _ => ?_) fun e he hs => ?_))
    · refine rg_end hE hF hX hz (fun ke kf => by rw [ops_extract (v := .bool false) (vs := []) (by rw [T.get_put_same])]; rfl) ?_
      refine okay_seq (okay_cond2 (x' := .r p9) (b := false) rfl (by show optK (T.get p9 _) none some = _; rw [T.get_put_same]; rfl) ?_)
      exact go1 hE hF hX hz (c' := ⟨⟨g, 16, T.put (some (.bool false)) p9 (T.put (some (.tup [.bool false])) p8 regs), rest, [], .run, false, none⟩, top :: cs, T.put (some (.mit (some id) clk seen clk)) nx h, nx.succ, io⟩) rfl (hend _ _)
    · refine rg_end hE hF hX hz (fun ke kf => by rw [ops_extract (v := .bool true) (vs := [e.1, e.2.1]) (by rw [T.get_put_same])]; rfl) ?_
      refine okay_seq (okay_cond2 (x' := .r p9) (b := true) rfl (by show optK (T.get p9 _) none some = _; rw [T.get_put_same]; rfl) (okay_skip (okay_block (okay_seq ?_))))
      generalize hr2 : T.put (some (V.bool true)) p9 (T.put (some (V.tup [V.bool true, e.1, e.2.1])) p8 regs) = r2
      have g1 : T.get p1 r2 = some (.fn (.func w.toNat) [] []) := by rw [← hr2, T.get_put_ne _ _ _ _ (by decide), T.get_put_ne _ _ _ _ (by decide)]; exact h1
      have g7 : T.get p7 r2 = some (.ptr nx 0) := by rw [← hr2, T.get_put_ne _ _ _ _ (by decide), T.get_put_ne _ _ _ _ (by decide)]; exact h7
      obtain ⟨e', he', hent⟩ := ops_entry (h := T.put (some (.mit (some id) clk (seen ++ [e.2.2]) clk)) nx h) (nx := nx.succ) (d := p10) g7 (by rw [T.get_put_same]) (by rw [T.get_put_ne _ _ _ _ hne]; exact hm) ⟨e, he, rfl⟩
      refine okay_region hE hc.c3 (rg_end hE hF hX hz (fun ke kf => by rw [hent, ops_extract (v := e'.1) (vs := [e'.2.1]) (by rw [T.get_put_same]), ops_mvr (v := e'.1) (by rw [T.get_put_same])]; rfl) (okay_seq ?_))
      generalize hr3 : T.put (some e'.1) p5 (T.put (some e'.1) p11 (T.put (some (V.tup [e'.1, e'.2.1])) p10 r2)) = r3
      have k1 : T.get p1 r3 = some (.fn (.func w.toNat) [] []) := by rw [← hr3, T.get_put_ne _ _ _ _ (by decide), T.get_put_ne _ _ _ _ (by decide), T.get_put_ne _ _ _ _ (by decide)]; exact g1
      have k7 : T.get p7 r3 = some (.ptr nx 0) := by rw [← hr3, T.get_put_ne _ _ _ _ (by decide), T.get_put_ne _ _ _ _ (by decide), T.get_put_ne _ _ _ _ (by decide)]; exact g7
      have k5 : T.get p5 r3 = some e'.1 := by rw [← hr3, T.get_put_same]
      obtain ⟨hpl, hh2, hR⟩ := hes e' he'
      obtain ⟨fdw, bw, regsw, q1, q2, q3, q4, q5⟩ := hR.plain hF (by simpa using hpl)
      refine okay_region hE hc.c4 (go1 hE hF hX hz (c' := ⟨⟨w, fdw.ntmps, regsw, [.code bw], [], .run, false, none⟩, ⟨g, 16, T.put (some e'.1) p13 (T.put (some (.fn (.func w.toNat) [] [])) p12 r3), .rg o4 [⟨some p14, none, .f (.call (.r p12) [.r p13])⟩, ⟨some p15, none, .i (.un .not (.r p14))⟩] :: .code (Code.cond (.tmp 15) x .skip) :: .inBlock 1 :: .inLoop ((Code.region i2 o2 false).seq ((Code.cond (.tmp 9) .skip (.exit 0)).seq (Code.block 1 ((Code.region i3 o3 false).seq ((Code.region i4 o4 false).seq (Code.cond (.tmp 15) x .skip)))))) :: .inBlock 0 :: rest, [], .run, false, none⟩ :: top :: cs, T.put (some (.mit (some id) clk (seen ++ [e.2.2]) clk)) nx h, nx.succ, io⟩) ?_ ?_)
      · rw [step_rg, ops_mvr k1, ops_mvr (v := e'.1) (by rw [T.get_put_ne _ _ _ _ (by decide)]; exact k5)]
        exact fx_call (wn := w.toNat) (w := w) (a := e'.1) (by rw [T.get_put_ne _ _ _ _ (by decide), T.get_put_same]) (by rw [T.get_put_same]) hwk (enter_eq q1 q2 q3 q4)
      · refine q5 θ _ _ _ _ _ _ nx.succ io _ (.bool true) [] hz (handV_plain rfl _ _) (fun i ob hi => .inr ⟨by simp, hi⟩) (fun kk => finK_rg kk) ?_
        refine rg_end hE hF hX hz (fun ke kf => by rw [ops_not (b := true) (by rw [T.get_put_same])]; rfl) ?_
        refine okay_cond2 (x' := .r p15) (b := false) rfl (by show optK (T.get p15 _) none some = _; rw [T.get_put_same]; rfl) (okay_skip ?_)
        refine go1 hE hF hX hz (c' := ⟨⟨g, 16, (T.put (some (.bool false)) p15 (T.put (some (.bool true)) p14 (T.put (some e'.1) p13 (T.put (some (.fn (.func w.toNat) [] [])) p12 r3)))), .inLoop ((Code.region i2 o2 false).seq ((Code.cond (.tmp 9) .skip (.exit 0)).seq (Code.block 1 ((Code.region i3 o3 false).seq ((Code.region i4 o4 false).seq (Code.cond (.tmp 15) x .skip)))))) :: .inBlock 0 :: rest, [], .run, false, none⟩, top :: cs, T.put (some (.mit (some id) clk (seen ++ [e.2.2]) clk)) nx h, nx.succ, io⟩) rfl ?_
        refine go1 hE hF hX hz (c' := ⟨⟨g, 16, (T.put (some (.bool false)) p15 (T.put (some (.bool true)) p14 (T.put (some e'.1) p13 (T.put (some (.fn (.func w.toNat) [] [])) p12 r3)))), .code ((Code.region i2 o2 false).seq ((Code.cond (.tmp 9) .skip (.exit 0)).seq (Code.block 1 ((Code.region i3 o3 false).seq ((Code.region i4 o4 false).seq (Code.cond (.tmp 15) x .skip)))))) :: .inLoop ((Code.region i2 o2 false).seq ((Code.cond (.tmp 9) .skip (.exit 0)).seq (Code.block 1 ((Code.region i3 o3 false).seq ((Code.region i4 o4 false).seq (Code.cond (.tmp 15) x .skip)))))) :: .inBlock 0 :: rest, [], .run, false, none⟩, top :: cs, T.put (some (.mit (some id) clk (seen ++ [e.2.2]) clk)) nx h, nx.succ, io⟩) rfl ?_
        refine hnext e he hs _ ?_ ?_
        · rw [T.get_put_ne _ _ _ _ (by decide), T.get_put_ne _ _ _ _ (by decide), T.get_put_ne _ _ _ _ (by decide), T.get_put_ne _ _ _ _ (by decide)]; exact k1
        · rw [T.get_put_ne _ _ _ _ (by decide), T.get_put_ne _ _ _ _ (by decide), T.get_put_ne _ _ _ _ (by decide), T.get_put_ne _ _ _ _ (by decide)]; exact k7
  have hloop : ∀ (n : Nat) (seen : List Nat) (regs : Regs), (es.filter fun e => !decide (e.2.2 ∈ seen)).length ≤ n → T.get p1 regs = some (.fn (.func w.toNat) [] []) → T.get p7 regs = some (.ptr nx 0) →
      Okay P N0 mla ml θ Post ⟨⟨g, 16, regs, .code body :: .inLoop body :: .inBlock 0 :: rest, [], .run, false, none⟩, top :: cs, T.put (some (.mit (some id) clk seen clk)) nx h, nx.succ, io⟩ := by
    intro n
    induction n with
    | zero =>
      intro seen regs hn h1 h7
      refine common seen regs h1 h7 fun e he hs => ?_
      exfalso
      have : e ∈ es.filter fun e => !decide (e.2.2 ∈ seen) := List.mem_filter.2 ⟨he, by simpa using hs⟩
      have := List.length_pos_of_mem this
      omega
    | succ n ih =>
      intro seen regs hn h1 h7
      refine common seen regs h1 h7 fun e he hs regs' h1' h7' => ih _ regs' ?_ h1' h7'
      have hff : (es.filter fun e' => !decide (e'.2.2 ∈ seen ++ [e.2.2])) = (es.filter fun e' => !decide (e'.2.2 ∈ seen)).filter fun e' => !decide (e'.2.2 = e.2.2) := by
        rw [List.filter_filter]
        congr 1
        funext e'
        by_cases h1 : e'.2.2 ∈ seen <;> by_cases h2 : e'.2.2 = e.2.2 <;> simp [h1, h2]
      have hlt : ((es.filter fun e' => !decide (e'.2.2 ∈ seen)).filter fun e' => !decide (e'.2.2 = e.2.2)).length < (es.filter fun e' => !decide (e'.2.2 ∈ seen)).length :=
        List.length_filter_lt_length_iff_exists.2 ⟨e, List.mem_filter.2 ⟨he, by simpa using hs⟩, by simp⟩
      rw [hff]
      omega
  -- the beginning
  refine okay_seq (okay_region hE hc.c0 (rg_end hE hF hX hz (fun ke kf => by rw [ops_mvc]; rfl) (okay_seq (okay_seq ?_))))
  generalize hr0 : T.put (some (V.bool false)) p4 regs = ra
  have a0 : T.get .z ra = some (.map id) := by rw [← hr0, T.get_put_ne _ _ _ _ (by decide)]; exact r0
  have a1 : T.get p1 ra = some (.fn (.func w.toNat) [] []) := by rw [← hr0, T.get_put_ne _ _ _ _ (by decide)]; exact r1
  refine okay_region hE hc.c1 (rg_end hE hF hX hz (fun ke kf => by rw [ops_mvr a0, ops_range (id := id) (es := es) (clk := clk) (by rw [T.get_put_same]) hm hnx]; rfl) (okay_block ?_))
  subst hrest
  refine okay_loop (hloop es.length [] _ (List.length_filter_le ..) ?_ ?_)
  · rw [T.get_put_ne _ _ _ _ (by decide), T.get_put_ne _ _ _ _ (by decide)]; exact a1
  · rw [T.get_put_same]
theorem lam_put {α : Type} {x : Option α} {p : Gb.P} {t : T α} {k : T α → OR} : T.putK x p t k = k (T.put x p t) := T.putK_eq ..
end
end Go.Gb
end
