/- A part of the proof of the statement Rows.TopMissingCardSaid (at every argument the law returns true on every schedule, and its argument reads as before; the listed variables as laid). This text: a stepper over symbolic states of the translated program and its soundness, part 32 of 41. -/
import Derived.Test.YtgabhijnigpbdaaGreatDoorM31
section
/-! The plan of a drawn region is sound. -/
set_option linter.unusedSimpArgs false
set_option linter.unusedVariables false
set_option linter.unusedSectionVars false
namespace Go.Gb
section
variable {C : Type} {E : Env} {P : Program} {N0 : Nat} {mla : Addr} {ml : Gl} {r : C}
theorem kindOp_still {op : Op} {t : TOp} : kindOp op t ≠ 1 → kindOp op t ≠ 2 → ∃ i, t.wh = .i i ∧ isStill i = true := by
  have key : (match t.wh with | .f _ => 2 | .i i => match isStill i with | true => 0 | false => 2) ≠ 2 → ∃ i, t.wh = .i i ∧ isStill i = true := by
    intro h
    cases hw : t.wh with
    | f x => rw [hw] at h; exact absurd rfl h
    | i i =>
      refine ⟨i, rfl, ?_⟩
      rw [hw] at h
      cases hs : isStill i with
      | true => rfl
      | false => simp only [hs] at h; exact absurd rfl h
  unfold kindOp
  split
  · exact fun h => absurd rfl h
  · exact fun h => absurd rfl h
  · exact fun _ h => absurd rfl h
  · exact fun _ h => key h
theorem sliceVW {es : Nat} {x : Opd} {lo hi : Option Opd} {regs : Regs} {h : Heap} {nx : Gb.P} {k : K C} (e : exec (.sliceV es x lo hi) regs h nx k = some r) : exec (.sliceW es x lo hi) regs h nx k = some r := by
  replace e : hSliceV es x lo hi regs h nx k = some r := e
  show hSliceW es x lo hi regs h nx k = some r
  unfold hSliceV at e
  unfold hSliceW
  obtain ⟨v, hv, e⟩ := opdK_some e
  have hd : ∀ kk : V → O C, opdK x regs kk = kk v := by
    intro kk
    cases x with
    | c w => cases hv; rfl
    | r p =>
      simp only [opdK] at hv ⊢
      cases hg : T.get p regs with
      | none => rw [hg] at hv; cases hv
      | some w => rw [hg] at hv; cases hv; rfl
  rw [hd]
  cases v <;> first | exact e | skip
  rename_i id off len cap
  have hb : ∀ (o : Option Opd) (d hi : Nat) (k1 k2 : Nat → O C), (∀ n, k1 n = some r → k2 n = some r) → boundK o d hi regs k1 = some r → boundK o d hi regs k2 = some r := by
    intro o d hi k1 k2 hk e
    cases o with
    | none => exact hk _ e
    | some y =>
      unfold boundK at e ⊢
      simp only at e ⊢
      obtain ⟨v, hv, e⟩ := opdK_some e
      have hd : ∀ kk : V → O C, opdK y regs kk = kk v := by
        intro kk
        cases y with
        | c w => cases hv; rfl
        | r p =>
          simp only [opdK] at hv ⊢
          cases hg : T.get p regs with
          | none => rw [hg] at hv; cases hv
          | some w => rw [hg] at hv; cases hv; rfl
      rw [hd]
      obtain ⟨kd, n, rfl, e2⟩ := nat0K_inv e
      rcases boolK_cases e2 with ⟨h1, e3⟩ | ⟨h1, e3⟩
      · simp only [nat0K, h1]; exact hk _ e3
      · cases e3
  refine hb _ _ _ _ _ (fun m e => hb _ _ _ _ _ (fun l e => ?_) e) e
  rcases boolK_cases e with ⟨h1, e⟩ | ⟨h1, e⟩
  · rw [h1, boolK_eq, if_pos rfl]
    rw [natK_eq, natK_eq] at e ⊢
    rcases boolK_cases e with ⟨h2, e⟩ | ⟨h2, e⟩
    · rw [h2, boolK_eq, if_pos rfl]
      obtain ⟨ob, hob, e2⟩ := getOb_inv e
      unfold getOb
      rw [hob]
      cases ob <;> (try (cases e2; done))
      rename_i cs el room opn fz
      cases opn with
      | true => cases e2
      | false => exact e2
    · rw [h2, boolK_eq]; exact e
  · cases e
theorem stillT_inv {P : Program} {N0 : Nat} {mla : Addr} {ml : Gl} {nt : Nat} {ops : List Oper} {o : Oper} {t : TOp} {k : TOp → O C} (hT : TopR P N0 mla ml nt ops o t) (hm : kindOp o.op t = 1 → ∀ i, t.wh = .i i → MkR P o.op i) (e : stillT t k = some r) : ∃ t', k t' = some r ∧ TopR P N0 mla ml nt ops o t' ∧ (kindOp o.op t' = 1 → ∀ i, t'.wh = .i i → MkR P o.op i) := by
  unfold stillT at e
  split at e
  · rename_i d g a b c f
    refine ⟨_, e, ⟨hT.dst, hT.g, ?_⟩, fun hk i hi => ?_⟩
    · rcases hT.wh with ⟨i, hi, hS, hd⟩ | ⟨x, hx, _⟩
      · cases hi
        exact .inl ⟨_, rfl, fun H hr ho e => hS H hr ho (sliceVW e), hd⟩
      · cases hx
    · exfalso
      have hk' : kindOp o.op ⟨d, g, .i (.sliceW a b c f)⟩ = 1 := by
        unfold kindOp at hk ⊢
        split at hk
        · rfl
        · rfl
        · cases hk
        · exfalso
          simp only [isStill] at hk
          cases hk
      have := hm hk' _ rfl
      cases this
  · exact ⟨_, e, hT, hm⟩
/-- What is known of a node. -/
def NodeIs (P : Program) (N0 : Nat) (mla : Addr) (ml : Gl) (nt : Nat) (ops : List Oper) (l : List Oper) (bs : List Nat) (i : Nat) (n : Nd) : Prop :=
  ∃ j o, l[j]? = some o ∧ bs[j]? = some n.pr ∧ n.i = i + j ∧ n.kd = kindOp o.op n.t ∧ TopR P N0 mla ml nt ops o n.t ∧ (kindOp o.op n.t = 1 → ∀ i, n.t.wh = .i i → MkR P o.op i)
theorem nodesK_inv (hE : EnvOk P E mla ml) {nt : Nat} {ops : List Oper} {bs0 : List Nat} : ∀ (l : List Oper) (i : Nat) (bs : List Nat) {k : List Nd → O C}, nodesK E nt ops bs0 l i bs k = some r → ∃ ns, k ns = some r ∧ (∀ n ∈ ns, NodeIs P N0 mla ml nt ops l bs i n) ∧ (∀ j, j < l.length → ∃ n ∈ ns, n.i = i + j) ∧ (∀ n ∈ ns, ∀ m ∈ ns, n.i = m.i → n = m) ∧ ∀ n ∈ ns, i ≤ n.i := by
  intro l
  induction l with
  | nil => intro i bs k e; exact ⟨[], e, by simp, by simp, by simp, by simp⟩
  | cons o l ih =>
    intro i bs k e
    cases bs with
    | nil => cases e
    | cons b bs =>
      replace e : compT E nt ops o (fun t => stillT t fun t => natK b fun b => natK (kindOp o.op t) fun kd => natK i fun i => nodesK E nt ops bs0 l (Nat.succ i) bs fun ns => k (⟨i, b, kd, t⟩ :: ns)) = some r := e
      obtain ⟨t0, hT0, hmk0, e⟩ := compT_node (N0 := N0) hE e
      obtain ⟨t, e, hT, hmk⟩ := stillT_inv hT0 hmk0 e
      rw [natK_eq, natK_eq, natK_eq] at e
      obtain ⟨ns, e, h1, h2, h3, h4⟩ := ih _ _ e
      refine ⟨_, e, fun n hn => ?_, fun j hj => ?_, fun n hn m hm he => ?_, fun n hn => ?_⟩
      · rcases List.mem_cons.1 hn with rfl | hn
        · exact ⟨0, o, rfl, rfl, rfl, rfl, hT, hmk⟩
        · obtain ⟨j, o', g1, g2, g3, g4⟩ := h1 n hn
          exact ⟨j + 1, o', by simpa using g1, by simpa using g2, by rw [g3]; omega, g4⟩
      · cases j with
        | zero => exact ⟨_, List.mem_cons_self .., rfl⟩
        | succ j =>
          obtain ⟨n, g1, g2⟩ := h2 j (by simpa using hj)
          exact ⟨n, by simp [g1], by rw [g2]; omega⟩
      · rcases List.mem_cons.1 hn with rfl | hn <;> rcases List.mem_cons.1 hm with rfl | hm
        · rfl
        · have := h4 m hm; simp only at he; omega
        · have := h4 n hn; simp only at he; omega
        · exact h3 n hn m hm he
      · rcases List.mem_cons.1 hn with rfl | hn
        · exact Nat.le_refl _
        · have := h4 n hn; omega
variable (P N0 mla ml) in
/-- A plan to go by. -/
structure PlanOk (nt : Nat) (ops : Array Oper) (l : List DOp) : Prop where
  ex : ∃ ns, NsOk P N0 mla ml nt ops.toList ns ∧ PlanS ns l ∧ (∀ j, j < ops.size → ∃ n ∈ ns, n.i = j) ∧ (∀ n ∈ ns, n.i ∈ idxD l ∧ n.i < ops.size) ∧ (∀ j ∈ idxD l, ∃ n ∈ ns, n.i = j)
  ord : ordB ops.toList = true
  nodup : (idxD l).Nodup
  noef : NoEf l
theorem planK_ok (hE : EnvOk P E mla ml) {nt : Nat} {ops : Array Oper} {l : List DOp} (e : planK E nt ops = some l) : PlanOk P N0 mla ml nt ops l := by
  unfold planK at e
  rw [natK_eq] at e
  obtain ⟨bs, e, hbf⟩ := befK_inv (ops := ops.toList) ops.toList 0 0 (fun j o ho => by simpa using ho) ⟨by simp, by intro j k hj; omega⟩ e
  obtain ⟨ns, e, h1, h2, h3, h4⟩ := nodesK_inv (N0 := N0) hE _ _ _ e
  obtain ⟨es, e, h5⟩ := effsK_inv ns (fun n h => h) e
  rw [natK_eq] at e
  obtain ⟨l', e, h6⟩ := stagesK_inv es _ _ h5 e
  obtain ⟨b1, e⟩ := boolK_inv e
  obtain ⟨b2, e⟩ := boolK_inv e
  obtain ⟨b3, e⟩ := boolK_inv e
  obtain ⟨b4, e⟩ := boolK_inv e
  obtain ⟨b5, e⟩ := boolK_inv e
  have : l' = l := Option.some.inj e
  subst this
  obtain ⟨p1, p2, p3⟩ := planB_inv h3 h6 b3
  have nsok : NsOk P N0 mla ml nt ops.toList ns := by
    refine ⟨fun n hn => ?_, h3, fun n hn hk d hd m hm => ?_⟩
    · obtain ⟨j, o, g1, g2, g3, g4, g5, g6⟩ := h1 n hn
      have hj : n.i = j := by rw [g3]; omega
      refine ⟨⟨o, by rw [hj]; exact g1, g5⟩, fun k hk => ?_, fun hk o' ho' i hi => ?_, fun hk1 hk2 => ?_⟩
      · rw [hj]
        have := hbf j n.pr g2 k hk
        rw [Nat.zero_add] at this; exact this
      · rw [hj, g1] at ho'
        cases ho'
        exact g6 (by rw [← g4]; exact hk) i hi
      · rw [g4] at hk1 hk2
        exact kindOp_still hk1 hk2
    · exact sepT_inv b2 n hn hk d hd m hm
  have hlt : ∀ n ∈ ns, n.i < ops.size := by
    intro n hn
    obtain ⟨j, o, g1, _, g3, _⟩ := h1 n hn
    have := (List.getElem?_eq_some_iff.1 g1).1
    rw [g3]; simpa using this
  refine ⟨⟨ns, nsok, p1, fun j hj => ?_, fun n hn => ⟨?_, hlt n hn⟩, fun j hj => ?_⟩, b1, p2, ?_⟩
  · obtain ⟨n, g1, g2⟩ := h2 j (by simpa using hj)
    exact ⟨n, g1, by rw [g2]; omega⟩
  · obtain ⟨m, hm, he⟩ := hasB_inv (allL_inv b4 n hn)
    rw [← idxB_eq]
    exact List.mem_map.2 ⟨m, hm, he⟩
  · rw [← idxB_eq] at hj
    obtain ⟨m, hm, he⟩ := List.mem_map.1 hj
    exact ⟨m, p3 m hm, he⟩
  · cases l' with
    | nil => trivial
    | cons a l => cases a <;> first | trivial | cases b5
end
end Go.Gb
end
section
/-! Drawn regions: what floats and what is made ahead. -/
set_option linter.unusedSimpArgs false
set_option linter.unusedVariables false
set_option linter.unusedSectionVars false
namespace Go.Gb
open Go.Conc
section
variable {P : Program} {N0 : Nat} {mla : Addr} {ml : Gl} {θ : Th} {Post : Value → World → Prop} {E : Env}
variable {cs : List Fr} {h : Heap} {nx : Gb.P} {io : AIo} {r : Rs} {fn : Gb.P} {nt : Nat} {regs : Regs} {k : List AIt} {ds : List ATgt} {dfd : Bool} {rd : Option Gb.P} {ops : Array Oper} {l : List DOp}
/-- The frame in a drawn region. -/
structure DgF (P : Program) (N0 : Nat) (mla : Addr) (ml : Gl) (σ : Sg) (nt : Nat) (ops : Array Oper) (ns : List Nd) (l : List DOp) (k : List AIt) (regs : Regs) (vs : List Gb.P) (f : Frame) (τ : List Nat) (k' : List Item) : Prop where
  todo : f.todo = .inRegion ops τ :: k'
  mode : f.mode = .run
  nsok : NsOk P N0 mla ml nt ops.toList ns
  dg : DgR ns ops.toList l τ
  its : ItsR P N0 mla ml σ nt k k'
  tail : ∀ x ∈ k, NotDg x
  size : f.tmps.size = nt
  vals : ∀ p v, T.get p regs = some v → ¬ Pend l τ p → VR ml σ v (f.tmps.getD p.toNat undef)
  vids : VidsI l τ regs vs
theorem FrR.dg {σ : Sg} {vs : List Gb.P} {f : Frame} (H : FrR P N0 mla ml σ vs ⟨fn, nt, regs, .dg ops l :: k, ds, .run, dfd, rd⟩ f) (hn : NoEf l) : ∃ ns τ k', DgF P N0 mla ml σ nt ops ns l k regs vs f τ k' := by
  have hits := H.todo
  cases hf : f.todo with
  | nil => rw [hf] at hits; exact hits.elim
  | cons b k' =>
    rw [hf] at hits
    obtain ⟨hb, hits⟩ := hits
    cases b <;> try exact hb.elim
    rename_i ops' τ
    obtain ⟨rfl, ns, hns, hD⟩ := hb
    rw [dgI_rest hn] at hD
    have hv := H.vids
    have hr := H.regs
    rw [hf] at hv hr
    rw [vids_rest hn] at hv
    have hm := H.md
    refine ⟨ns, τ, k', hf, ?_, hns, hD, hits, H.tail, H.nt, fun p v hp hx => hr p v hp (by rw [show Pnd (.dg ops' l :: k) (.inRegion ops' τ :: k') = _ from pnd_rest hn]; exact hx), hv⟩
    cases hmm : f.mode <;> rw [hmm] at hm <;> first | rfl | exact hm.elim
theorem DgF.frR {σ : Sg} {vs vs0 : List Gb.P} {f f0 : Frame} {ns : List Nd} {τ : List Nat} {k' : List Item} {regs0 : Regs} {todo0 : List AIt} {md0 : Md} (D : DgF P N0 mla ml σ nt ops ns l k regs vs f τ k') (hn : NoEf l) (H : FrR P N0 mla ml σ vs0 ⟨fn, nt, regs0, todo0, ds, md0, dfd, rd⟩ f0)
    (h1 : f.fn = f0.fn) (h2 : f.defers = f0.defers) (h3 : f.kind = f0.kind) (h4 : f.roundOf = f0.roundOf) : FrR P N0 mla ml σ vs ⟨fn, nt, regs, .dg ops l :: k, ds, .run, dfd, rd⟩ f := by
  refine ⟨h1.trans H.fn, D.size, fun p v hp hx => D.vals p v hp ?_, ?_, D.tail, ?_, by rw [h2]; exact H.defers, by rw [D.mode]; exact trivial, by rw [h3]; exact H.kind, by rw [h4]; exact H.round⟩
  · rw [D.todo, show Pnd (.dg ops l :: k) (.inRegion ops τ :: k') = _ from pnd_rest hn] at hx; exact hx
  · rw [D.todo]; exact ⟨⟨rfl, ns, D.nsok, by rw [dgI_rest hn]; exact D.dg⟩, D.its⟩
  · rw [D.todo, vids_rest hn]; exact D.vids
/-- The region begins, in whatever order. -/
theorem okay_draw {id : Nat} (hp : PlanOk P N0 mla ml nt ops l) (hr : Okay P N0 mla ml θ Post ⟨⟨fn, nt, regs, .dg ops l :: k, ds, .run, dfd, rd⟩, cs, h, nx, io⟩) : Okay P N0 mla ml θ Post ⟨⟨fn, nt, regs, .code (.region id ops true) :: k, ds, .run, dfd, rd⟩, cs, h, nx, io⟩ := by
  obtain ⟨ns, hns, hpl, hall, hin, hidx⟩ := hp.ex
  rintro io' own g w ⟨σ, vt, vs, vss, ids, f, fs, rfl, S⟩
  refine beh_go fun w1 ag => ?_
  have S1 := S.agree ag
  have F := S1.top
  obtain ⟨b, k', R, rfl⟩ := FrR.run F (it := .code (.region id ops true)) trivial
  have hb := R.it
  cases b <;> (try exact hb.elim)
  rename_i c
  have hb : c = .region id ops true := hb
  subst hb
  have hch : ∃ t d, (choose (.order f.fn id)).run P w1 = .ok t { w1 with drawn := d } := by
    have hsw : SW P N0 own w1.heap.size (choose (.order f.fn id)) w1 fun _ w' => ∃ d, w' = { w1 with drawn := d } := by
      rw [SW_choose]
      cases hfo : (Question.order f.fn id).forced with
      | true => exact .inl ⟨rfl, w1.drawn, rfl⟩
      | false => exact .inr ⟨rfl, w1.drawn + 1, rfl⟩
    obtain ⟨v, w', h1, _, d, rfl⟩ := SW.run hsw
    exact ⟨v, d, h1⟩
  obtain ⟨t, d, hch⟩ := hch
  obtain ⟨hlin, hmem⟩ := sched_lin hp.ord (P.follows .mixedOrders) t
  generalize hτ : Region.schedule (P.follows .mixedOrders) ops t = τ at hlin hmem
  have hstep : stepG P io'.main (G f (fs ++ θ.outer)) w1 = .go (G { f with todo := .inRegion ops τ :: k' } (fs ++ θ.outer)) { w1 with drawn := d } #[] := by
    rw [stepG_run R.mode]
    simp only [stepG.exec, R.todo, Bool.not_true, Bool.false_eq_true, if_false, hch, hτ]
    rfl
  have nop : ∀ n, ¬ PendN l τ n := fun n hn => hn.2.2 ((hin n (sync1_mem hpl hn.1).1).1)
  have D : DgF P N0 mla ml σ nt ops ns l k regs [] { f with todo := .inRegion ops τ :: k' } τ k' := by
    refine ⟨rfl, R.mode, hns, ⟨hlin, hpl, fun j hj => hall j ((hmem j).2 hj), fun j hj => ?_, fun j hj => ?_, hp.nodup⟩, R.its, R.tail, F.nt, fun p v hpv _ => R.regs p v hpv, ⟨fun n hn => absurd hn (nop n), fun id hid => by simp at hid, fun n m id hn => absurd hn (nop n)⟩⟩
    · obtain ⟨n, hn, rfl⟩ := hall j ((hmem j).2 hj)
      exact .inl (hin n hn).1
    · obtain ⟨n, hn, rfl⟩ := hidx j hj
      exact (hmem _).1 (hin n hn).2
  exact ⟨own, _, _, _, #[], hstep, ⟨rfl, rfl, rfl, Nat.le_refl _, fun _ _ _ => rfl, fun _ h => .inl h, fun _ h => .inl h, by simp, by simp⟩, hr _ _ _ _ ⟨σ, vt, [], vss, ids, _, fs, rfl, S1.ar.drawn, D.frR hp.noef F rfl rfl rfl rfl, S1.cs, S1.io, S1.vids, S1.nodup, S1.hf, ⟨S1.kept.os, S1.kept.tape, S1.kept.output, S1.kept.size, S1.kept.base⟩, S1.lt⟩⟩
/-- The evaluator goes on; the model does nothing. -/
theorem okay_conv {c c' : Cfg} (hc : ∀ io own g w, CfgR P N0 mla ml θ c io own g w → CfgR P N0 mla ml θ c' io own g w) (hr : Okay P N0 mla ml θ Post c') : Okay P N0 mla ml θ Post c := fun io own g w H => hr io own g w (hc io own g w H)
theorem putD_get {d : Option Gb.P} {v : V} {regs : Regs} {kk : Regs → OR} (e : putD d v regs kk = some r) : ∃ regs', kk regs' = some r ∧ (∀ p, d = some p → T.get p regs' = some v) ∧ ∀ p, d ≠ some p → T.get p regs' = T.get p regs := by
  cases d with
  | none => exact ⟨regs, e, fun p h => (by cases h), fun p _ => rfl⟩
  | some q =>
    replace e : T.putK (some v) q regs kk = some r := e
    rw [T.putK_eq] at e
    exact ⟨_, e, fun p h => by cases h; exact T.get_put_same .., fun p h => T.get_put_ne _ _ _ _ (fun e => h (by rw [e]))⟩
theorem noEf_of {n : Nd} (h : n ∈ sync1 l) : NoEf l := by
  cases l with
  | nil => trivial
  | cons a l => cases a <;> first | trivial | (simp [sync1] at h)
theorem uniq_dst {nt : Nat} {ns : List Nd} {ops : List Oper} (hns : NsOk P N0 mla ml nt ops ns) {n m : Nd} (hn : n ∈ ns) (hk : n.kd ≠ 2) (hm : m ∈ ns) {p : Gb.P} (h1 : n.t.dst = some p) (h2 : m.t.dst = some p) : m = n := by
  by_cases hi : m.i = n.i
  · exact hns.uniq m hm n hn hi
  · have := ((hns.sep n hn hk p h1 m hm).2 hi).1
    rw [setsB_self h2] at this; cases this
theorem okay_fl {n : Nd} {kk : Regs → OR} {v : V} (hpl : ∀ ns, PlanS ns (.fl n :: l) → NoEf l) (e : putD n.t.dst v regs kk = some r)
    (hr : ∀ regs', kk regs' = some r → Okay P N0 mla ml θ Post ⟨⟨fn, nt, regs', .dg ops l :: k, ds, .run, dfd, rd⟩, cs, h, nx, io⟩) : Okay P N0 mla ml θ Post ⟨⟨fn, nt, regs, .dg ops (.fl n :: l) :: k, ds, .run, dfd, rd⟩, cs, h, nx, io⟩ := by
  obtain ⟨regs', e, g1, g2⟩ := putD_get e
  refine okay_conv (fun io own g w => ?_) (hr regs' e)
  rintro ⟨σ, vt, vs, vss, ids, f, fs, rfl, S⟩
  obtain ⟨ns, τ, k', D⟩ := FrR.dg S.top (show NoEf (.fl n :: l) from trivial)
  obtain ⟨p1, p2, p3, p4, p5⟩ := D.dg.plan
  have hn : NoEf l := noEf_of p4
  have hnin : n.i ∉ idxD l := (List.nodup_cons.1 D.dg.nodup).1
  have up : ∀ m, PendN (.fl n :: l) τ m → PendN l τ m := fun m hm => ⟨hm.1, hm.2.1, fun hx => hm.2.2 (by simp only [idxD, List.mem_cons]; exact .inr hx)⟩
  have down : ∀ m, PendN l τ m → m = n ∨ PendN (.fl n :: l) τ m := by
    intro m hm
    by_cases hi : m.i = n.i
    · exact .inl (D.nsok.uniq m (sync1_mem p5 hm.1).1 n p1 hi)
    · exact .inr ⟨hm.1, hm.2.1, by simp only [idxD, List.mem_cons]; exact fun x => x.elim hi hm.2.2⟩
  have D' : DgF P N0 mla ml σ nt ops ns l k regs' vs f τ k' := by
    refine ⟨D.todo, D.mode, D.nsok, ⟨D.dg.lin, p5, D.dg.node, fun j hj => ?_, fun j hj => D.dg.sub j (by simp only [idxD, List.mem_cons]; exact .inr hj), (List.nodup_cons.1 D.dg.nodup).2⟩, D.its, D.tail, D.size, fun p v' hp hx => ?_, ?_⟩
    · rcases D.dg.cov j hj with h1 | h1
      · simp only [idxD, List.mem_cons] at h1
        rcases h1 with rfl | h1
        · exact .inr ⟨n, p4, rfl⟩
        · exact .inl h1
      · exact .inr h1
    · by_cases hd : n.t.dst = some p
      · exact absurd ⟨n, ⟨p4, D.dg.sub _ (by simp [idxD]), hnin⟩, hd⟩ hx
      · rw [g2 p hd] at hp
        exact D.vals p v' hp fun ⟨m, hm, hmd⟩ => hx ⟨m, up m hm, hmd⟩
    · have hv : VidsI (.fl n :: l) τ regs' vs := D.vids.regs fun m p hm hp => g2 p fun hd => by
        have := uniq_dst D.nsok (sync1_mem p5 hm.1).1 (sync1_mem p5 hm.1).2 p1 hp hd
        subst this
        exact hm.2.2 (by simp [idxD])
      refine ⟨fun m hm hk => ?_, fun id hid => ?_, fun a b id ha hb ma mb => ?_⟩
      · rcases down m hm with rfl | hm
        · exact absurd hk p2
        · exact hv.all m hm hk
      · obtain ⟨m, hm, hmd⟩ := hv.only id hid
        exact ⟨m, up m hm, hmd⟩
      · rcases down a ha with rfl | ha
        · exact absurd ma.1 p2
        · rcases down b hb with rfl | hb
          · exact absurd mb.1 p2
          · exact hv.inj a b id ha hb ma mb
  exact ⟨σ, vt, vs, vss, ids, f, fs, rfl, ⟨S.ar, D'.frR hn S.top rfl rfl rfl rfl, S.cs, S.io, S.vids, S.nodup, S.hf, S.kept, S.lt⟩⟩
end
end Go.Gb
end
