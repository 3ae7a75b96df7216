/- A part of the proof of the statement Rows.TopMissingCardSaid (at every argument the law returns true on every schedule, and its argument reads as before; the listed variables as laid). This text: a stepper over symbolic states of the translated program and its soundness, part 30 of 41. -/
import Derived.Test.YtgabhijnigpbdaaGreatDoorM29
section
/-! A range over a function begins. -/
set_option linter.unusedSimpArgs false
set_option linter.unusedVariables false
set_option linter.unusedSectionVars false
namespace Go.Gb
open Go.Conc
section
variable {P : Program} {N0 : Nat} {mla : Addr} {ml : Gl} {θ : Th} {Post : Value → World → Prop} {E : Env}
variable {top : Fr} {cs : List Fr} {h : Heap} {nx : Gb.P} {io : AIo} {r : Rs} {fn : Gb.P} {nt : Nat} {regs : Regs} {k : List AIt} {ds : List ATgt} {dfd : Bool} {rd : Option Gb.P}
theorem does_two {own : Own} {fn : FuncId} {w w' w2 : World} {es es' : Array Event} (h : Part N0 own w.heap.size w w' es) (h' : Part N0 own w.heap.size w' w2 es') : Does N0 own (mine own w.heap.size w2) w w2 (seen P fn es ++ seen P fn es') := by
  have ht := h.trans h'
  have hd := ht.does (P := P) (fn := fn)
  refine ⟨hd.os, hd.tape, hd.output, hd.size, hd.keep, hd.grows, hd.chans, fun e he m hm => ?_, fun e he => ht.touch e ?_⟩
  · have hin : e ∈ es ++ es' ∧ ∀ f, e.loc ≠ .mark (.extern f) := by
      rcases Array.mem_append.1 he with he | he
      · exact ⟨Array.mem_append.2 (.inl (mem_seen he)), seen_no_extern he⟩
      · exact ⟨Array.mem_append.2 (.inr (mem_seen he)), seen_no_extern he⟩
    rcases ht.marks e hin.1 m hm with z | ⟨f, rfl⟩
    · exact z
    · exact absurd hm (hin.2 f)
  · rcases Array.mem_append.1 he with he | he
    · exact Array.mem_append.2 (.inl (mem_seen he))
    · exact Array.mem_append.2 (.inr (mem_seen he))
theorem apply_enter' {f : Frame} {cs : List Frame} {w : World} {l : Nat} {k' : List Item} (hk : f.kind ≠ .early) (ht : f.todo = .inRangeFunc l :: k') {g : FuncId} {args : Array Value} : stepG.apply P true f cs none (.pure (.enter g args)) w = .go (G (Frame.enter P g args .normal) (f :: cs)) w #[] := by
  have hk' : (f.kind == CallKind.early) = false := by simpa using hk
  unfold stepG.apply
  simp [Sem.runT, seen_none, after_none, hk', G, ht]
theorem apply_run {f : Frame} {cs : List Frame} {w w' : World} {s : Sem Next} {nxt : Next} {es : Array Event} (hk : f.kind ≠ .early) (h : s.runT P w #[] = (.ok nxt w', #[] ++ es)) : stepG.apply P true f cs none s w = GStep.after (seen P f.fn es) (stepG.apply P true f cs none (.pure nxt) w') := by
  have hk' : (f.kind == CallKind.early) = false := by simpa using hk
  unfold stepG.apply
  simp only [if_true, h, hk', Bool.false_eq_true, if_false, Sem.runT, seen_none, after_none, Array.empty_append]
theorem okay_rangeFunc (hF : FunOk P E) (hX : ExtsOk P E mla ml) {f : Operand} {ps : Array Tmp} {a b : Code} (e : itemK E (.code (.rangeFunc f ps a b)) k fn nt regs ds dfd rd cs h nx io ⟨fun _ _ _ _ => none, fun _ _ _ _ no _ => no⟩ (fun _ _ n _ => n) = some r) (hr : Suc P N0 mla ml θ Post E r) :
    Okay P N0 mla ml θ Post ⟨⟨fn, nt, regs, .code (.rangeFunc f ps a b) :: k, ds, .run, dfd, rd⟩, cs, h, nx, io⟩ := by
  cases rd with
  | some l => cases e
  | none =>
    replace e : oK f (fun f => opdK f regs fun f => newOb (.dfr true) h nx fun dfr h nx => newOb (.lp .ready none fn nt regs ps a b dfr) h nx fun lp h nx =>
          callK E f [.yld lp] false ⟨fn, nt, regs, .inRF lp :: k, .coll dfr :: ds, .run, dfd, none⟩ cs h nx io) = some r := e
    obtain ⟨x, hx, e2⟩ := oK_inv e
    clear e
    obtain ⟨fv, hfv, e3⟩ := opdK_some e2
    clear e2
    obtain ⟨_, e4⟩ := newOb_inv e3
    clear e3
    obtain ⟨_, e5⟩ := newOb_inv e4
    clear e4
    rintro io' own g w ⟨σ, vt, vs, vss, ids, fr, fs, rfl, S⟩
    refine beh_go fun w1 ag => ?_
    have S1 := S.agree ag
    have F := S1.top
    obtain ⟨bb, k', R, rfl⟩ := FrR.run F (it := .code (.rangeFunc f ps a b)) trivial
    have hb := R.it
    have ht := R.todo
    cases bb <;> (try exact hb.elim)
    rename_i c
    have hb : c = .rangeFunc f ps a b := hb
    subst hb
    have hrn : fr.roundOf = none := by
      rcases F.round with h | ⟨_, _, h, _⟩
      · exact h.2
      · cases h
    have hk := dfd_kind F.kind
    -- the two objects
    obtain ⟨σ1, s1, s2, H1, s3⟩ := S1.ar.new (ob := .dfr true) (o := .deferred (some [])) (ex := 0) (by simp only [ObR]; rfl)
    obtain ⟨σ2, t1, t2, H2, t3⟩ := H1.new (ob := .lp .ready none fn nt regs ps a b nx) (o := .loop { state := .ready, pending := none, fn := fr.fn, tmps := fr.tmps, params := ps, assign := a, body := b, defers := w1.heap.size }) (ex := 0) (by
      simp only [ObR]
      exact ⟨trivial, trivial, F.fn, trivial, trivial, trivial, F.nt, ⟨_, s2, rfl⟩, fun p v hp => VR.mono s1 _ _ (R.regs p v hp)⟩)
    have hsub := Sub.trans s1 t1
    generalize hw2 : ({ ({ w1 with heap := w1.heap.push (.deferred (some [])) } : World) with heap := ({ w1 with heap := w1.heap.push (.deferred (some [])) } : World).heap.push (.loop { state := .ready, pending := none, fn := fr.fn, tmps := fr.tmps, params := ps, assign := a, body := b, defers := w1.heap.size }) } : World) = w2 at H2
    generalize hL : ({ w1 with heap := w1.heap.push (.deferred (some [])) } : World).heap.size = L at t2
    have hent : SW P N0 own w1.heap.size (Instr.enterLoop fr.fn fr.tmps ps a b fr.roundOf) w1 fun v w' => v = (L, [{ target := .collected w1.heap.size, args := #[] }]) ∧ w' = w2 := by
      rw [hrn]
      unfold Instr.enterLoop
      show (_ ∧ _)
      exact ⟨by rw [← hL], hw2⟩
    obtain ⟨v, w', es, k1, kp, rfl, rfl⟩ := SW.sound _ #[] hent
    have hF2 : FrR P N0 mla ml σ2 [] ⟨fn, nt, regs, .inRF nx.succ :: k, .coll nx :: ds, .run, dfd, none⟩ { fr with todo := .inRangeFunc L :: k', defers := [{ target := .collected w1.heap.size, args := #[] }] ++ fr.defers } := by
      have F' := F.mono hsub
      exact ⟨F'.fn, F'.nt, fun p v hp _ => VR.mono hsub _ _ (R.regs p v hp), ⟨⟨_, t2, rfl⟩, R.its.mono hsub⟩, fun x hx => R.tail x hx, rfl, ⟨⟨_, t1 _ _ s2, rfl⟩, F'.defers⟩, F'.md, F'.kind, F'.round⟩
    have hk2 : ({ fr with todo := .inRangeFunc L :: k', defers := [{ target := .collected w1.heap.size, args := #[] }] ++ fr.defers } : Frame).kind ≠ .early := hk
    have ht2 : ({ fr with todo := .inRangeFunc L :: k', defers := [{ target := .collected w1.heap.size, args := #[] }] ++ fr.defers } : Frame).todo = .inRangeFunc L :: k' := rfl
    have hev : ∀ x, ({ fr with todo := .inRangeFunc L :: k', defers := [{ target := .collected w1.heap.size, args := #[] }] ++ fr.defers } : Frame).eval x = fr.eval x := fun x => by cases x <;> rfl
    have hFN : ({ fr with todo := .inRangeFunc L :: k', defers := [{ target := .collected w1.heap.size, args := #[] }] ++ fr.defers } : Frame).fn = fr.fn := rfl
    generalize hfr2 : ({ fr with todo := .inRangeFunc L :: k', defers := [{ target := .collected w1.heap.size, args := #[] }] ++ fr.defers } : Frame) = fr2 at hF2 hk2 ht2 hev hFN
    have hfe : VR ml σ2 fv (fr.eval f) := by
      rw [feval]
      exact VR.mono hsub _ _ (opd_val (k := (some : V → O V)) (r := .nili) (fun p hp v hv => R.regs p v hv) hx hfv)
    have hcs := call_sw (n0 := w1.heap.size) hF hX H2 hfe (us := #[.func (.yield L) #[] #[]]) (args := [.yld nx.succ]) ⟨⟨_, t2, rfl, rfl, rfl⟩, trivial⟩ e5
    obtain ⟨nxt, w3, es', k2, kp2, hout⟩ := SW.sound _ #[] hcs
    have hstep : stepG P io'.main (G fr (fs ++ θ.outer)) w1 = GStep.after (seen P fr.fn es) (GStep.after (seen P fr.fn es') (stepG.apply P true fr2 (fs ++ θ.outer) none (.pure nxt) w3)) := by
      rw [stepG_run R.mode]
      simp only [stepG.exec, ht, k1, Array.empty_append]
      have hsem : (do let d ← resolve fr2.eval { callee := .value f, args := #[.const (.func (.yield L) #[] #[])], argTypes := #[] } 0; invoke d.target d.args) = (do let d ← Deferred.ofValue (fr.eval f) #[.func (.yield L) #[] #[]]; invoke d.target d.args) := by
        simp only [resolve, map_one, hev]; rfl
      have := apply_run (cs := fs ++ θ.outer) hk2 (hsem ▸ k2)
      rw [hFN] at this
      rw [← this, ← hfr2]
    have kd := does_two (P := P) (fn := fr.fn) kp kp2
    obtain ⟨rfl, hout⟩ := hout
    have fin : ∀ (c' : Cfg) (vs' : List Gb.P) (vss' : List (List Gb.P)) (f' : Frame) (fs' : List Frame), stepG.apply P true fr2 (fs ++ θ.outer) none (.pure nxt) w3 = .go (G f' (fs' ++ θ.outer)) w3 #[] → vs' ++ vss'.flatten = vss.flatten → FrR P N0 mla ml σ2 vs' c'.top f' → FrsR P N0 mla ml σ2 vss' c'.cs fs' → c'.io = io → AR N0 mla ml vt σ2 c'.h c'.nx own w1.heap.size w3 → Okay P N0 mla ml θ Post c' →
        ∃ own' f' cs' w4 es, stepG P io'.main (G fr (fs ++ θ.outer)) w1 = .go (G f' cs') w4 es ∧ Does N0 own own' w1 w4 es ∧ FBeh P N0 ml θ Post io' own' (G f' cs') w4 := by
      intro c' vs' vss' f' fs' q1 q2 q3 q4 q5 q6 q7
      exact ⟨_, _, _, _, seen P fr.fn es ++ seen P fr.fn es', hstep.trans (by rw [q1, after_after]; exact after_go ..), kd, q7 _ _ _ _ ⟨σ2, vt, vs', vss', ids, _, fs', rfl, q6.shift, q3, q4, by rw [q5]; exact S1.io.mono hsub, by rw [S1.vids, ← List.append_assoc vs', q2]; simp, S1.nodup, S1.hf, S1.kept.does S1.ar.n0le.1 S1.ar.apart kd, mine_lt S1.lt kd.size⟩⟩
    have hcs2 := S1.cs.mono hsub
    rcases hout with ⟨g, us, top', rfl, rfl, hT⟩ | ⟨_, l, g, tmps, x, y, top', rfl, rfl, hT⟩ | ⟨_, v, u, rfl, hu, e2⟩
    · exact fin ⟨top', _ :: cs, _, _, io⟩ [] ([] :: vss) _ (fr2 :: fs) (apply_enter' hk2 ht2) (by simp) hT ⟨hF2, hcs2⟩ rfl H2 hr
    · exact fin ⟨top', _ :: cs, _, _, io⟩ [] ([] :: vss) _ (fr2 :: fs) (apply_round hk2) (by simp) hT ⟨hF2, hcs2⟩ rfl H2 hr
    · obtain ⟨fr', e3, hfin, _⟩ := fin_rel hF2 hu e2
      cases e3
      exact fin ⟨fr', cs, _, _, io⟩ [] vss _ fs (apply_value hk2) (by simp) hfin hcs2 rfl H2 hr
end
end Go.Gb
end
section
/-! An operation looks at its operands alone. -/
set_option linter.unusedSimpArgs false
set_option linter.unusedVariables false
set_option linter.unusedSectionVars false
namespace Go.Gb
section
variable {C : Type} {regs regs' : Regs}
theorem opdK_congr {x : Opd} (h : ∀ p, x = .r p → T.get p regs = T.get p regs') (k : V → O C) : opdK x regs k = opdK x regs' k := by
  cases x with
  | c v => rfl
  | r p => simp only [opdK, h p rfl]
theorem opdsK_congr : ∀ {l : List Opd}, (∀ y ∈ l, ∀ p, y = .r p → T.get p regs = T.get p regs') → ∀ (k : List V → O C), opdsK l regs k = opdsK l regs' k := by
  intro l
  induction l with
  | nil => intro _ k; rfl
  | cons x l ih =>
    intro h k
    show opdK x regs (fun v => opdsK l regs fun vs => k (v :: vs)) = opdK x regs' (fun v => opdsK l regs' fun vs => k (v :: vs))
    rw [opdK_congr (h x (by simp))]
    congr 1
    funext v
    exact ih (fun y hy => h y (by simp [hy])) _
theorem fillK_congr : ∀ {ps : List (Nat × Nat × Opd)}, (∀ y ∈ ps.map (·.2.2), ∀ p, y = .r p → T.get p regs = T.get p regs') → ∀ (z : List V) (k : List V → O C), fillK z ps regs k = fillK z ps regs' k := by
  intro ps
  induction ps with
  | nil => intro _ z k; rfl
  | cons x ps ih =>
    intro h z k
    obtain ⟨off, s, o⟩ := x
    show opdK o regs (fun v => match v with | .tup _ => none | v => boolK (Nat.beq (llen (cellsV v) 0) s) (lwriteK off z (cellsV v) fun z => fillK z ps regs k) none) = opdK o regs' (fun v => match v with | .tup _ => none | v => boolK (Nat.beq (llen (cellsV v) 0) s) (lwriteK off z (cellsV v) fun z => fillK z ps regs' k) none)
    rw [opdK_congr (h o (by simp))]
    have : (fun z => fillK z ps regs k) = fun z => fillK z ps regs' k := funext fun z => ih (fun y hy => h y (by simp only [List.map_cons, List.mem_cons]; exact .inr hy)) z k
    rw [this]
theorem boundK_congr {o : Option Opd} {d hi : Nat} (h : ∀ y ∈ o.toList, ∀ p, y = .r p → T.get p regs = T.get p regs') (k : Nat → O C) : boundK o d hi regs k = boundK o d hi regs' k := by
  cases o with
  | none => rfl
  | some x =>
    unfold boundK
    simp only [opdK_congr (h x (by simp))]
theorem zidxK_congr {i : Opd} {n : Nat} (h : ∀ p, i = .r p → T.get p regs = T.get p regs') (k : Nat → O C) : zidxK i n regs k = zidxK i n regs' k := by
  unfold zidxK; rw [opdK_congr h]
theorem exec_congr (i : Ins) (H : ∀ y ∈ insOpds i, ∀ p, y = .r p → T.get p regs = T.get p regs') (h : Heap) (nx : P) (k : K C) : exec i regs h nx k = exec i regs' h nx k := by
  have K : ∀ y ∈ insOpds i, ∀ (k : V → O C), opdK y regs k = opdK y regs' k := fun y hy k => opdK_congr (H y hy) k
  have Z : ∀ y ∈ insOpds i, ∀ n (k : Nat → O C), zidxK y n regs k = zidxK y n regs' k := fun y hy n k => zidxK_congr (H y hy) k
  cases i
  case build z ps => show fillK z ps regs _ = fillK z ps regs' _; rw [fillK_congr H]
  case bslice el n z ps =>
    have hf := fun (z : List V) (k : List V → O C) => fillK_congr (C := C) H z k
    simp only [exec, hBslice, hf]
  case mkfn f a b =>
    have h1 := fun (k : List V → O C) => opdsK_congr (C := C) (l := a) (fun y hy => H y (by simp [insOpds, hy])) k
    have h2 := fun (k : List V → O C) => opdsK_congr (C := C) (l := b) (fun y hy => H y (by simp [insOpds, hy])) k
    simp only [exec, hFn, h1, h2]
  case sliceS x lo hi =>
    have h1 := fun d n (k : Nat → O C) => boundK_congr (C := C) (o := lo) (d := d) (hi := n) (fun y hy => H y (by simp only [insOpds, List.mem_cons, List.mem_append]; exact .inr (.inl hy))) k
    have h2 := fun d n (k : Nat → O C) => boundK_congr (C := C) (o := hi) (d := d) (hi := n) (fun y hy => H y (by simp only [insOpds, List.mem_cons, List.mem_append]; exact .inr (.inr hy))) k
    have h0 := K x (by simp [insOpds])
    simp only [exec, hSliceS, h0, h1, h2]
  case sliceV es x lo hi =>
    have h1 := fun d n (k : Nat → O C) => boundK_congr (C := C) (o := lo) (d := d) (hi := n) (fun y hy => H y (by simp only [insOpds, List.mem_cons, List.mem_append]; exact .inr (.inl hy))) k
    have h2 := fun d n (k : Nat → O C) => boundK_congr (C := C) (o := hi) (d := d) (hi := n) (fun y hy => H y (by simp only [insOpds, List.mem_cons, List.mem_append]; exact .inr (.inr hy))) k
    have h0 := K x (by simp [insOpds])
    simp only [exec, hSliceV, h0, h1, h2]
  case sliceW es x lo hi =>
    have h1 := fun d n (k : Nat → O C) => boundK_congr (C := C) (o := lo) (d := d) (hi := n) (fun y hy => H y (by simp only [insOpds, List.mem_cons, List.mem_append]; exact .inr (.inl hy))) k
    have h2 := fun d n (k : Nat → O C) => boundK_congr (C := C) (o := hi) (d := d) (hi := n) (fun y hy => H y (by simp only [insOpds, List.mem_cons, List.mem_append]; exact .inr (.inr hy))) k
    have h0 := K x (by simp [insOpds])
    simp only [exec, hSliceW, h0, h1, h2]
  case sliceA n es x lo hi =>
    have h1 := fun d n (k : Nat → O C) => boundK_congr (C := C) (o := lo) (d := d) (hi := n) (fun y hy => H y (by simp only [insOpds, List.mem_cons, List.mem_append]; exact .inr (.inl hy))) k
    have h2 := fun d n (k : Nat → O C) => boundK_congr (C := C) (o := hi) (d := d) (hi := n) (fun y hy => H y (by simp only [insOpds, List.mem_cons, List.mem_append]; exact .inr (.inr hy))) k
    have h0 := K x (by simp [insOpds])
    simp only [exec, hSliceA, h0, h1, h2]
  case alloc => rfl
  case mkmap => rfl
  case gload => rfl
  all_goals
    simp only [insOpds, List.mem_cons, List.not_mem_nil, or_false, forall_eq_or_imp, forall_eq] at K Z
    simp only [exec, hMv, hPick, hBox, hLoad1, hLoadN, hStore, hNil, hEqv, hBin, hUn, hConvInt, hS2B, hB2S, hI2S, hIfc, hMkchan, hMkslice, hFadd, hFld, hIxaV, hIxaA, hIdxS, hIdxA, hLookup, hMapupd, hMentry, hEstore, hRangeS, hRangeM, hNextS, hNextM, hEntry, hTassert, hExtract, hLenS, hLenV, hLenM, hCap, hMin, hMax, hAppend, hCopy, hClear, hUsStr, hUsData, hToUns, hOfUns, K, Z]
theorem still_exec (i : Ins) (hs : isStill i = true) (h : Heap) (nx : P) (k : K C) : exec i regs h nx k = exec i regs h nx fun v _ _ => k v h nx := by
  cases i <;> first | (simp only [isStill, Bool.false_eq_true] at hs; done) | rfl
end
end Go.Gb
end
section
/-! The model's order of a drawn region. -/
set_option linter.unusedSimpArgs false
set_option linter.unusedVariables false
set_option linter.unusedSectionVars false
namespace Go.Gb
section
variable (m : Region.Mode) (ops : Array Oper)
def Pred (i j : Nat) : Prop := ∃ o e, ops[i]? = some o ∧ e ∈ o.after.toList ∧ Region.binds m e = true ∧ e.on = j
def unl (listed : Array Bool) : List Nat := (List.range ops.size).filter fun i => !listed.getD i true
/-- As long as one is left, one is free. -/
def NoStop : Prop := ∀ listed : Array Bool, listed.size = ops.size → (∃ i, i < ops.size ∧ listed.getD i true = false) → ∃ i, i < ops.size ∧ listed.getD i true = false ∧ ∀ j, Pred m ops i j → listed.getD j false = true
end
section
variable {m : Region.Mode} {ops : Array Oper}
theorem mem_unl {listed : Array Bool} {i : Nat} : i ∈ unl ops listed ↔ i < ops.size ∧ listed.getD i true = false := by
  unfold unl; simp
def readyL (m : Region.Mode) (ops : Array Oper) (listed : Array Bool) : List Nat := (List.range ops.size).filter fun i => !listed.getD i true && ((ops[i]?).map (·.after.all fun e => !Region.binds m e || listed.getD e.on false)).getD false
theorem mem_readyL {listed : Array Bool} {i : Nat} : i ∈ readyL m ops listed ↔ i < ops.size ∧ listed.getD i true = false ∧ ∀ j, Pred m ops i j → listed.getD j false = true := by
  unfold readyL
  simp only [List.mem_filter, List.mem_range, Bool.and_eq_true, Bool.not_eq_true']
  constructor
  · rintro ⟨h1, h2, h3⟩
    refine ⟨h1, h2, ?_⟩
    rintro j ⟨o, e, ho, he, hb, rfl⟩
    rw [ho] at h3
    simp only [Option.map_some, Option.getD_some, Array.all_eq_true_iff_forall_mem] at h3
    have := h3 e (by simpa using he)
    simpa [hb] using this
  · rintro ⟨h1, h2, h3⟩
    refine ⟨h1, h2, ?_⟩
    have ho : ops[i]? = some ops[i] := Array.getElem?_eq_getElem h1
    rw [ho]
    simp only [Option.map_some, Option.getD_some, Array.all_eq_true_iff_forall_mem]
    intro e he
    cases hb : Region.binds m e with
    | false => rfl
    | true => simpa using h3 e.on ⟨_, e, ho, by simpa using he, hb, rfl⟩
theorem go_succ {fuel t : Nat} {listed : Array Bool} {acc : List Nat} : Region.linearise.go m ops (fuel + 1) t listed acc = (match (readyL m ops listed)[t % (readyL m ops listed).length]? with
      | some i => Region.linearise.go m ops fuel (t / (readyL m ops listed).length) (listed.setIfInBounds i true) (i :: acc)
      | none => acc.reverse) := rfl
theorem go_spec (hac : NoStop m ops) : ∀ (fuel t : Nat) (listed : Array Bool) (acc : List Nat), listed.size = ops.size → (unl ops listed).length ≤ fuel → ∃ τ, Region.linearise.go m ops fuel t listed acc = acc.reverse ++ τ ∧ τ.Nodup ∧ (∀ i, i ∈ τ ↔ i ∈ unl ops listed) ∧ ∀ a i b, τ = a ++ i :: b → ∀ j, Pred m ops i j → listed.getD j false = true ∨ j ∈ a := by
  intro fuel
  induction fuel with
  | zero =>
    intro t listed acc hs hf
    have : unl ops listed = [] := List.length_eq_zero_iff.1 (by omega)
    exact ⟨[], by simp [Region.linearise.go], by simp, by simp [this], by simp⟩
  | succ fuel ih =>
    intro t listed acc hs hf
    rw [go_succ]
    by_cases hu : ∃ i, i < ops.size ∧ listed.getD i true = false
    · obtain ⟨i0, h1, h2, h3⟩ := hac listed hs hu
      have hne : 0 < (readyL m ops listed).length := List.length_pos_of_mem (mem_readyL.2 ⟨h1, h2, h3⟩)
      have hlt : t % (readyL m ops listed).length < (readyL m ops listed).length := Nat.mod_lt _ hne
      rw [List.getElem?_eq_getElem hlt]
      have hmem : (readyL m ops listed)[t % (readyL m ops listed).length] ∈ readyL m ops listed := List.getElem_mem hlt
      generalize (readyL m ops listed)[t % (readyL m ops listed).length] = i at hmem
      obtain ⟨g1, g2, g3⟩ := mem_readyL.1 hmem
      simp only
      have hset : ∀ j, (listed.setIfInBounds i true).getD j true = if j = i then true else listed.getD j true := by
        intro j
        rw [Array.getD_eq_getD_getElem?, Array.getD_eq_getD_getElem?]
        by_cases hji : j = i
        · subst hji; simp [show j < listed.size by omega]
        · rw [Array.getElem?_setIfInBounds_ne (Ne.symm hji), if_neg hji]
      have hset' : ∀ j, (listed.setIfInBounds i true).getD j false = if j = i then true else listed.getD j false := by
        intro j
        rw [Array.getD_eq_getD_getElem?, Array.getD_eq_getD_getElem?]
        by_cases hji : j = i
        · subst hji; simp [show j < listed.size by omega]
        · rw [Array.getElem?_setIfInBounds_ne (Ne.symm hji), if_neg hji]
      have hunl : ∀ j, j ∈ unl ops (listed.setIfInBounds i true) ↔ j ∈ unl ops listed ∧ j ≠ i := by
        intro j
        rw [mem_unl, mem_unl, hset]
        by_cases hji : j = i <;> simp [hji]
      have hlen : (unl ops (listed.setIfInBounds i true)).length ≤ fuel := by
        have e : unl ops (listed.setIfInBounds i true) = (unl ops listed).filter (· ≠ i) := by
          unfold unl
          rw [List.filter_filter]
          apply List.filter_congr
          intro j _
          rw [hset]
          by_cases hji : j = i <;> simp [hji]
        rw [e]
        have : ((unl ops listed).filter (· ≠ i)).length < (unl ops listed).length := by
          rw [List.length_filter_lt_length_iff_exists]
          exact ⟨i, mem_unl.2 ⟨g1, g2⟩, by simp⟩
        omega
      obtain ⟨τ, q1, q2, q3, q4⟩ := ih (t / (readyL m ops listed).length) (listed.setIfInBounds i true) (i :: acc) (by simpa using hs) hlen
      refine ⟨i :: τ, by rw [q1]; simp, List.nodup_cons.2 ⟨fun h => ((hunl i).1 ((q3 i).1 h)).2 rfl, q2⟩, fun j => ?_, fun a j b hab p hp => ?_⟩
      · rw [List.mem_cons, q3, hunl]
        constructor
        · rintro (rfl | h)
          · exact mem_unl.2 ⟨g1, g2⟩
          · exact h.1
        · intro h
          by_cases hji : j = i
          · exact .inl hji
          · exact .inr ⟨h, hji⟩
      · cases a with
        | nil =>
          simp only [List.nil_append, List.cons.injEq] at hab
          obtain ⟨rfl, rfl⟩ := hab
          exact .inl (g3 p hp)
        | cons a0 a =>
          simp only [List.cons_append, List.cons.injEq] at hab
          obtain ⟨rfl, hab⟩ := hab
          rcases q4 a j b hab p hp with h | h
          · rw [hset'] at h
            by_cases hpi : p = i
            · exact .inr (by simp [hpi])
            · rw [if_neg hpi] at h; exact .inl h
          · exact .inr (by simp [h])
    · have hr : readyL m ops listed = [] := by
        cases hr : readyL m ops listed with
        | nil => rfl
        | cons a l =>
          have : a ∈ readyL m ops listed := by rw [hr]; simp
          obtain ⟨h1, h2, _⟩ := mem_readyL.1 this
          exact absurd ⟨a, h1, h2⟩ hu
      rw [hr]
      refine ⟨[], by simp, by simp, fun i => ?_, by simp⟩
      rw [mem_unl]
      constructor
      · simp
      · rintro ⟨h1, h2⟩; exact absurd ⟨i, h1, h2⟩ hu
theorem any_binds {e : Edge} (h : Region.binds .any e = true) : Region.binds m e = true := by
  unfold Region.binds at h ⊢
  cases he : e.ground <;> rw [he] at h <;> first | rfl | cases h
theorem lin_of (hac : NoStop m ops) (t : Nat) : Lin ops.toList (Region.linearise m ops t) ∧ ∀ i, i < ops.size ↔ i ∈ Region.linearise m ops t := by
  have hl : ∀ j, (Array.replicate ops.size false).getD j false = false := by
    intro j
    rw [Array.getD_eq_getD_getElem?]
    by_cases h : j < ops.size <;> simp [h]
  have hfu : (unl ops (Array.replicate ops.size false)).length ≤ ops.size := by
    unfold unl
    exact Nat.le_trans (List.length_filter_le ..) (by simp)
  obtain ⟨τ, h1, h2, h3, h4⟩ := go_spec hac ops.size t (Array.replicate ops.size false) [] (by simp) hfu
  have e : Region.linearise m ops t = τ := by
    show Region.linearise.go m ops ops.size t (Array.replicate ops.size false) [] = τ
    rw [h1]; rfl
  rw [e]
  have hmem : ∀ i, i < ops.size ↔ i ∈ τ := by
    intro i
    rw [h3, mem_unl]
    constructor
    · intro h
      refine ⟨h, ?_⟩
      rw [Array.getD_eq_getD_getElem?]; simp [h]
    · exact fun h => h.1
  refine ⟨⟨h2, fun i hi => by simpa using (hmem i).2 hi, fun a i b hab o ho ed hed hb => ?_, fun k o ho hk => ?_⟩, hmem⟩
  · have hp : Pred m ops i ed.on := ⟨o, ed, by simpa using ho, hed, any_binds hb, rfl⟩
    rcases h4 a i b hab ed.on hp with h | h
    · rw [hl] at h; cases h
    · intro hin
      rw [hab] at h2
      exact (List.nodup_append.1 h2).2.2 _ h _ hin rfl
  · exfalso
    have : k < ops.size := by
      have := (List.getElem?_eq_some_iff.1 ho).1
      simpa using this
    exact hk ((hmem k).1 this)
end
end Go.Gb
end
section
/-! A drawn region's order never stops. -/
set_option linter.unusedSimpArgs false
set_option linter.unusedVariables false
set_option linter.unusedSectionVars false
namespace Go.Gb
theorem bitM_eq (i m : Nat) : bitM i m = Nat.testBit m i := by
  rw [Nat.testBit_eq_decide_div_mod_eq]
  show Nat.beq (m / 2 ^ i % 2) 1 = _
  rw [nbeq]
theorem bitM_or {i j m : Nat} (h : bitM i (Nat.lor m (Nat.pow 2 j)) = true) : i = j ∨ bitM i m = true := by
  rw [bitM_eq] at h ⊢
  have h : (m ||| 2 ^ j).testBit i = true := h
  rw [Nat.testBit_or, Bool.or_eq_true] at h
  rcases h with h | h
  · exact .inr h
  · rw [Nat.testBit_two_pow] at h
    exact .inl (by have := of_decide_eq_true h; exact this.symm)
theorem allL_inv {α : Type} {f : α → Bool} : ∀ {l : List α}, allL f l = true → ∀ x ∈ l, f x = true := by
  intro l
  induction l with
  | nil => intro _ x hx; simp at hx
  | cons a l ih =>
    intro h x hx
    replace h : boolK (f a) (allL f l) false = true := h
    cases ha : f a with
    | false => rw [ha] at h; cases h
    | true =>
      rw [ha] at h
      rcases List.mem_cons.1 hx with rfl | hx
      · exact ha
      · exact ih h x hx
theorem anyL_inv {α : Type} {f : α → Bool} : ∀ {l : List α}, anyL f l = true → ∃ x ∈ l, f x = true := by
  intro l
  induction l with
  | nil => intro h; cases h
  | cons a l ih =>
    intro h
    replace h : boolK (f a) true (anyL f l) = true := h
    cases ha : f a with
    | true => exact ⟨a, by simp, ha⟩
    | false =>
      rw [ha] at h
      obtain ⟨x, h1, h2⟩ := ih h
      exact ⟨x, by simp [h1], h2⟩
theorem anyL_no {α : Type} {f : α → Bool} : ∀ {l : List α}, anyL f l = false → ∀ x ∈ l, f x = false := by
  intro l
  induction l with
  | nil => intro _ x hx; simp at hx
  | cons a l ih =>
    intro h x hx
    replace h : boolK (f a) true (anyL f l) = false := h
    cases ha : f a with
    | true => rw [ha] at h; cases h
    | false =>
      rw [ha] at h
      rcases List.mem_cons.1 hx with rfl | hx
      · exact ha
      · exact ih h x hx
theorem bk {b x y : Bool} (h : boolK b x y = true) : (b = true ∧ x = true) ∨ (b = false ∧ y = true) := by cases b with | true => exact .inl ⟨rfl, h⟩ | false => exact .inr ⟨rfl, h⟩
theorem edgesB_inv : ∀ {l : List Oper} {i : Nat}, edgesB l i = true → ∀ (k : Nat) o, l[k]? = some o → ∀ e ∈ o.after.toList, e.on < i + k ∨ gcOnlyB e = true := by
  intro l
  induction l with
  | nil => intro i _ k o h; simp at h
  | cons a l ih =>
    intro i h k o ho e he
    replace h : boolK (allL (fun e => boolK (Nat.blt e.on i) true (gcOnlyB e)) a.after.toList) (natK (Nat.succ i) (edgesB l)) false = true := h
    rcases bk h with ⟨h1, h2⟩ | ⟨_, h2⟩
    · cases k with
      | zero =>
        have ho : a = o := by simpa using ho
        subst ho
        rcases bk (allL_inv h1 e he) with ⟨h3, _⟩ | ⟨_, h3⟩
        · exact .inl (Nat.le_of_ble_eq_true h3)
        · exact .inr h3
      | succ k =>
        rw [natK_eq] at h2
        have := ih h2 k o (by simpa using ho) e he
        rcases this with h3 | h3
        · exact .inl (by have : Nat.succ i + k = i + (k + 1) := by omega
                         omega)
        · exact .inr h3
    · cases h2
/-- In the order they came: whoever came stands behind what must stand ahead of him. -/
structure Came (ops : Array Oper) (d : Nat) (L : List Nat) : Prop where
  rng : ∀ i ∈ L, i < ops.size
  mem : ∀ i, bitM i d = true → i ∈ L
  ord : ∀ x i y, L = x ++ i :: y → ∀ j, Pred .gc ops i j → j ∈ y
theorem passK_inv {ops : Array Oper} {k : Nat → Bool} : ∀ (l : List Oper) (i d : Nat) (L : List Nat), (∀ (j : Nat) o, l[j]? = some o → ops[i + j]? = some o) → Came ops d L → passK l i d k = true → ∃ d' L', Came ops d' L' ∧ k d' = true := by
  intro l
  induction l with
  | nil => intro i d L _ hc h; exact ⟨d, L, hc, h⟩
  | cons o l ih =>
    intro i d L hl hc h
    have hnext : ∀ (j : Nat) o', l[j]? = some o' → ops[Nat.succ i + j]? = some o' := by
      intro j o' hj
      have := hl (j + 1) o' (by simpa using hj)
      have e : Nat.succ i + j = i + (j + 1) := by omega
      rw [e]; exact this
    replace h : boolK (freeB o d) (natK (Nat.lor d (Nat.pow 2 i)) fun done => natK (Nat.succ i) fun i => passK l i done k) (natK (Nat.succ i) fun i => passK l i d k) = true := h
    rcases bk h with ⟨h1, h2⟩ | ⟨_, h2⟩
    · rw [natK_eq, natK_eq] at h2
      have hi : i < ops.size := by
        have := hl 0 o rfl
        exact (Array.getElem?_eq_some_iff.1 this).1
      refine ih _ _ (i :: L) hnext ⟨fun j hj => (List.mem_cons.1 hj).elim (fun e => e ▸ hi) (hc.rng j), fun j hj => ?_, fun x j y hxy p hp => ?_⟩ h2
      · rcases bitM_or hj with rfl | hj
        · simp
        · simp [hc.mem j hj]
      · cases x with
        | nil =>
          simp only [List.nil_append, List.cons.injEq] at hxy
          obtain ⟨rfl, rfl⟩ := hxy
          obtain ⟨o', e, ho', he, hb, rfl⟩ := hp
          have := hl 0 o rfl
          rw [Nat.add_zero, ho'] at this
          cases this
          rcases bk (allL_inv h1 e he) with ⟨h3, _⟩ | ⟨_, h3⟩
          · exfalso
            unfold textOnlyB at h3
            unfold Region.binds at hb
            cases hg : e.ground <;> rw [hg] at h3 hb <;> simp_all
          · exact hc.mem _ h3
        | cons x0 x =>
          simp only [List.cons_append, List.cons.injEq] at hxy
          exact hc.ord x j y hxy.2 p hp
    · rw [natK_eq] at h2
      exact ih _ _ L hnext hc h2
theorem fullB_inv : ∀ (l : List Oper) (i d : Nat), fullB l i d = true → ∀ k, k < l.length → bitM (i + k) d = true := by
  intro l
  induction l with
  | nil => intro i d _ k hk; simp at hk
  | cons o l ih =>
    intro i d h k hk
    replace h : boolK (bitM i d) (natK (Nat.succ i) fun i => fullB l i d) false = true := h
    rcases bk h with ⟨h1, h2⟩ | ⟨_, h2⟩
    · cases k with
      | zero => exact h1
      | succ k =>
        rw [natK_eq] at h2
        have := ih _ _ h2 k (by simpa using hk)
        have e : Nat.succ i + k = i + (k + 1) := by omega
        rw [← e]; exact this
    · cases h2
theorem noStop_down {m : Region.Mode} {ops : Array Oper} (h : ∀ i j, Pred m ops i j → j < i) : NoStop m ops := by
  rintro listed hs ⟨i, hi, hu⟩
  induction i using Nat.strongRecOn with
  | _ i ih =>
    by_cases hall : ∀ j, Pred m ops i j → listed.getD j false = true
    · exact ⟨i, hi, hu, hall⟩
    · simp only [Classical.not_forall] at hall
      obtain ⟨j, hj, hn⟩ := hall
      have hlt := h i j hj
      refine ih j hlt (by omega) ?_
      rw [Array.getD_eq_getD_getElem?] at hn ⊢
      have : j < listed.size := by omega
      simp [this] at hn ⊢
      exact hn
theorem noStop_gc {ops : Array Oper} {L : List Nat} (hm : ∀ i, i < ops.size → i ∈ L) (ho : ∀ x i y, L = x ++ i :: y → ∀ j, Pred .gc ops i j → j ∈ y) (hr : ∀ i j, Pred .gc ops i j → j < ops.size) : NoStop .gc ops := by
  rintro listed hs ⟨i, hi, hu⟩
  obtain ⟨x, y, hxy⟩ := List.append_of_mem (hm i hi)
  generalize hn : y.length = n
  induction n using Nat.strongRecOn generalizing i x y with
  | _ n ih =>
    by_cases hall : ∀ j, Pred .gc ops i j → listed.getD j false = true
    · exact ⟨i, hi, hu, hall⟩
    · simp only [Classical.not_forall] at hall
      obtain ⟨j, hj, hnn⟩ := hall
      have hjy := ho x i y hxy j hj
      obtain ⟨x2, y2, hy2⟩ := List.append_of_mem hjy
      have hjs := hr i j hj
      refine ih y2.length (by rw [← hn, hy2]; simp; omega) j hjs ?_ (x ++ i :: x2) y2 (by rw [hxy, hy2]; simp) rfl
      rw [Array.getD_eq_getD_getElem?] at hnn ⊢
      have : j < listed.size := by omega
      simp [this] at hnn ⊢
      exact hnn
/-- The check bears it out. -/
theorem ordB_noStop {ops : Array Oper} (h : ordB ops.toList = true) (m : Region.Mode) (hm : m ≠ .gc ∨ True) : NoStop m ops := by
  unfold ordB at h
  rcases bk h with ⟨h1, h2⟩ | ⟨_, h2⟩
  · have hed := edgesB_inv h1
    have down : (∀ (i : Nat) (o : Oper), ops[i]? = some o → ∀ e ∈ o.after.toList, Region.binds m e = true → gcOnlyB e = false) → NoStop m ops := by
      intro hg
      refine noStop_down fun i j hp => ?_
      obtain ⟨o, e, ho, he, hb, rfl⟩ := hp
      rcases hed i o (by simpa using ho) e he with h3 | h3
      · omega
      · rw [hg i o ho e he hb] at h3; cases h3
    by_cases hgc : m = .gc
    · subst hgc
      rcases bk h2 with ⟨_, h4⟩ | ⟨h3, _⟩
      · unfold acycB at h4
        obtain ⟨d1, L1, c1, h5⟩ := passK_inv (ops := ops) ops.toList 0 0 [] (fun j o hj => by simpa using hj) ⟨by simp, fun i hi => by simp [bitM_eq] at hi, by simp⟩ h4
        obtain ⟨d2, L2, c2, h6⟩ := passK_inv (ops := ops) ops.toList 0 d1 L1 (fun j o hj => by simpa using hj) c1 h5
        obtain ⟨d3, L3, c3, h7⟩ := passK_inv (ops := ops) ops.toList 0 d2 L2 (fun j o hj => by simpa using hj) c2 h6
        obtain ⟨d4, L4, c4, h8⟩ := passK_inv (ops := ops) ops.toList 0 d3 L3 (fun j o hj => by simpa using hj) c3 h7
        have hall : ∀ i, i < ops.size → i ∈ L4 := fun i hi => c4.mem i (by have := fullB_inv _ _ _ h8 i (by simpa using hi); simpa using this)
        refine noStop_gc hall c4.ord fun i j hp => ?_
        have hi : i < ops.size := by
          obtain ⟨o, e, ho, _⟩ := hp
          exact (Array.getElem?_eq_some_iff.1 ho).1
        obtain ⟨x, y, hxy⟩ := List.append_of_mem (hall i hi)
        exact c4.rng j (by rw [hxy]; simp [c4.ord x i y hxy j hp])
      · refine down fun i o ho e he _ => ?_
        have := anyL_no h3 o (by have := Array.mem_of_getElem? ho; simpa using this)
        exact anyL_no this e he
    · refine down fun i o ho e he hb => ?_
      unfold gcOnlyB
      unfold Region.binds at hb
      cases hg : e.ground <;> rw [hg] at hb <;> first | rfl | (cases m <;> first | exact absurd rfl hgc | (simp at hb))
  · cases h2
/-- The model's order is a line. -/
theorem sched_lin {ops : Array Oper} (h : ordB ops.toList = true) (mixed : Bool) (t : Nat) : Lin ops.toList (Region.schedule mixed ops t) ∧ ∀ i, i < ops.size ↔ i ∈ Region.schedule mixed ops t := by
  unfold Region.schedule
  split
  · exact lin_of (ordB_noStop h _ (.inr trivial)) _
  · split <;> exact lin_of (ordB_noStop h _ (.inr trivial)) _
end Go.Gb
end
