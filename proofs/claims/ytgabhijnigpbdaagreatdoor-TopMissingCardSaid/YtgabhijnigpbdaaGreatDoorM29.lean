/- A part of the proof of the statement Rows.TopMissingCardSaid (at every argument the law returns true on every schedule, and its argument reads as before; the listed variables as laid). This text: a stepper over symbolic states of the translated program and its soundness, part 29 of 41. -/
import Derived.Test.YtgabhijnigpbdaaGreatDoorM28
section
/-! The other items. -/
set_option linter.unusedSimpArgs false
set_option linter.unusedVariables false
set_option linter.unusedSectionVars false
namespace Go.Gb
open Go.Conc
def aexit (id : Nat) : List AIt → Option (List AIt)
  | .inBlock j :: k => if j = id then some k else aexit id k
  | _ :: k => aexit id k
  | [] => none
theorem exitK_eq {id : Nat} {no : OR} {k : List AIt → OR} : ∀ (l : List AIt), exitK id l no k = match aexit id l with | some l => k l | none => no := by
  intro l
  induction l with
  | nil => rfl
  | cons a l ih =>
    cases a
    case inBlock j =>
      show boolK (Nat.beq j id) (k l) (exitK id l no k) = _
      rw [ih, boolK_eq]
      by_cases h : j = id
      · have e1 : aexit id (.inBlock j :: l) = some l := by unfold aexit; rw [if_pos h]
        rw [e1]; subst h; simp
      · have : Nat.beq j id = false := by rw [nbeq]; simpa using h
        have e1 : aexit id (.inBlock j :: l) = aexit id l := by rw [aexit, if_neg h]
        rw [e1, this]; simp
    all_goals exact ih
theorem aexit_rel {P : Program} {N0 : Nat} {mla : Addr} {ml : Gl} {σ : Sg} {nt id : Nat} : ∀ {l : List AIt} {k : List Item}, ItsR P N0 mla ml σ nt l k → match aexit id l with
    | some l2 => ∃ k2, exitTo id k = some k2 ∧ ItsR P N0 mla ml σ nt l2 k2 ∧ ∀ x ∈ l2, x ∈ l
    | none => exitTo id k = none
  | [], [], _ => rfl
  | [], _ :: _, h => h.elim
  | _ :: _, [], h => h.elim
  | a :: l, b :: k, h => by
    have ih := aexit_rel (id := id) h.2
    have go : (aexit id (a :: l) = aexit id l) → exitTo id (b :: k) = exitTo id k → match aexit id (a :: l) with
        | some l2 => ∃ k2, exitTo id (b :: k) = some k2 ∧ ItsR P N0 mla ml σ nt l2 k2 ∧ ∀ x ∈ l2, x ∈ a :: l
        | none => exitTo id (b :: k) = none := by
      intro h1 h2
      rw [h1, h2]
      cases he : aexit id l with
      | none => rw [he] at ih; exact ih
      | some l2 =>
        rw [he] at ih
        obtain ⟨k2, g1, g2, g3⟩ := ih
        exact ⟨k2, g1, g2, fun x hx => List.mem_cons_of_mem _ (g3 x hx)⟩
    have hit := h.1
    cases a <;> cases b <;> (try exact hit.elim) <;> (try exact go rfl rfl)
    rename_i j j'
    have hj : j' = j := hit
    subst hj
    by_cases hj : j' = id
    · have e1 : aexit id (.inBlock j' :: l) = some l := by unfold aexit; rw [if_pos hj]
      have e2 : exitTo id (.inBlock j' :: k) = some k := by unfold exitTo; rw [if_pos (by simpa using hj)]
      rw [e1]
      exact ⟨k, e2, h.2, fun x hx => List.mem_cons_of_mem _ hx⟩
    · exact go (by rw [aexit, if_neg hj]) (by rw [exitTo, if_neg (by simpa using hj)])
section
variable {P : Program} {N0 : Nat} {mla : Addr} {ml : Gl} {θ : Th} {Post : Value → World → Prop} {E : Env}
variable {top : Fr} {cs : List Fr} {h : Heap} {nx : Gb.P} {io : AIo} {r : Rs} {fn : Gb.P} {nt : Nat} {regs : Regs} {k : List AIt} {ds : List ATgt} {dfd : Bool} {rd : Option Gb.P}
theorem okay_exit {id : Nat} (e : exitK id k (leaveK (some (.exit id)) ⟨fn, nt, regs, .code (.exit id) :: k, ds, .run, dfd, rd⟩ cs h nx io) (fun k => some (.go ⟨⟨fn, nt, regs, k, ds, .run, dfd, rd⟩, cs, h, nx, io⟩)) = some r) (hr : Suc P N0 mla ml θ Post E r) :
    Okay P N0 mla ml θ Post ⟨⟨fn, nt, regs, .code (.exit id) :: k, ds, .run, dfd, rd⟩, cs, h, nx, io⟩ := by
  rw [exitK_eq] at e
  cases he : aexit id k with
  | some k2 =>
    rw [he] at e
    cases e
    refine okay_items (k2 := k2) trivial (fun σ f b k' R => ?_) (fun hk x hx => ?_) hr
    · have hb := R.it
      cases b <;> (try exact hb.elim)
      rename_i c
      have hb : c = .exit id := hb
      subst hb
      have := aexit_rel (id := id) R.its
      rw [he] at this
      obtain ⟨k3, g1, g2, g3⟩ := this
      exact ⟨k3, go_todo R.mode R.todo fun main cs w => (exec_items R.todo).2.2.2.2.2.2.2.2 id k3 rfl g1, g2⟩
    · obtain ⟨_, hk2⟩ : True ∧ ∀ x ∈ k2, x ∈ k := by
        refine ⟨trivial, ?_⟩
        clear hk hx x hr
        induction k with
        | nil => cases he
        | cons a l ih =>
          cases a
          case inBlock j =>
            unfold aexit at he
            split at he
            · cases he; exact fun x hx => List.mem_cons_of_mem _ hx
            · exact fun x hx => List.mem_cons_of_mem _ (ih he x hx)
          all_goals exact fun x hx => List.mem_cons_of_mem _ (ih he x hx)
      exact hk x (hk2 x hx)
  | none =>
    rw [he] at e
    refine okay_leave trivial (fun σ vs f F hro main cs w => ?_) e hr
    obtain ⟨b, k', R, _⟩ := FrR.run F (it := .code (.exit id)) trivial
    have hb := R.it
    cases b <;> (try exact hb.elim)
    rename_i c
    have hb : c = .exit id := hb
    subst hb
    have := aexit_rel (id := id) R.its
    rw [he] at this
    cases rd with
    | none => cases e
    | some l =>
      cases hrr : f.roundOf with
      | none => rw [hrr] at hro; cases hro
      | some l' => exact leave_exit R.mode R.todo this hrr
theorem okay_ret (e : leaveK (some .ret) ⟨fn, nt, regs, .code .ret :: k, ds, .run, dfd, rd⟩ cs h nx io = some r) (hr : Suc P N0 mla ml θ Post E r) : Okay P N0 mla ml θ Post ⟨⟨fn, nt, regs, .code .ret :: k, ds, .run, dfd, rd⟩, cs, h, nx, io⟩ := by
  refine okay_leave trivial (fun σ vs f F hro main cs w => ?_) e hr
  obtain ⟨b, k', R, _⟩ := FrR.run F (it := .code .ret) trivial
  have hb := R.it
  cases b <;> (try exact hb.elim)
  rename_i c
  have hb : c = .ret := hb
  subst hb
  exact leave_ret R.mode R.todo
theorem okay_end (e : leaveK none ⟨fn, nt, regs, [], ds, .run, dfd, rd⟩ cs h nx io = some r) (hr : Suc P N0 mla ml θ Post E r) : Okay P N0 mla ml θ Post ⟨⟨fn, nt, regs, [], ds, .run, dfd, rd⟩, cs, h, nx, io⟩ := by
  refine okay_leave trivial (fun σ vs f F hro main cs w => ?_) e hr
  have ht : f.todo = [] := by
    have := F.todo
    cases hf : f.todo with
    | nil => rfl
    | cons a b => rw [hf] at this; exact this.elim
  have hm : f.mode = .run := by
    have := F.md
    cases hf : f.mode <;> rw [hf] at this <;> first | rfl | exact this.elim
  exact leave_nil hm ht
/-- An object of one's own is laid anew by a step that does nothing else. -/
theorem okay_objstep {it : AIt} {k2 : List AIt} {l : Gb.P} {ob ob' : Ob} (hob : T.get l h = some ob) (hn : NotDg it) (hnk : (∀ x ∈ k, NotDg x) → ∀ x ∈ k2, NotDg x)
    (hst : ∀ σ f b k' own w p o, Run (P := P) (N0 := N0) (mla := mla) (ml := ml) σ fn nt regs it k ds dfd rd f b k' → FrR P N0 mla ml σ [] ⟨fn, nt, regs, it :: k, ds, .run, dfd, rd⟩ f → σ l = some p → w.heap[p.bl]? = some o → ObR ml σ p ob o → mine own w.heap.size w p.bl → ((∃ l, rd = some l) → True) →
      ∃ (s : Sem Unit) (o' : Obj) (k3 : List Item), ObR ml σ p ob' o' ∧ SW P N0 own w.heap.size s w (fun _ w' => w' = { w with heap := w.heap.setIfInBounds p.bl o' }) ∧ ItsR P N0 mla ml σ nt k2 k3 ∧
        ∀ main cs, stepG P main (G f cs) w = GStep.after (seen P f.fn (s.runT P w #[]).2) (.go (G { f with todo := k3 } cs) { w with heap := w.heap.setIfInBounds p.bl o' } #[]))
    (hplaced : ∀ σ vs f, FrR P N0 mla ml σ vs ⟨fn, nt, regs, it :: k, ds, .run, dfd, rd⟩ f → ∃ p, σ l = some p)
    (hr : Okay P N0 mla ml θ Post ⟨⟨fn, nt, regs, k2, ds, .run, dfd, rd⟩, cs, T.put (some ob') l h, nx, io⟩) : Okay P N0 mla ml θ Post ⟨⟨fn, nt, regs, it :: k, ds, .run, dfd, rd⟩, cs, h, nx, io⟩ := by
  rintro io' own g w ⟨σ, vt, vs, vss, ids, f, fs, rfl, S⟩
  refine beh_go fun w1 ag => ?_
  have S1 := S.agree ag
  have F := S1.top
  obtain ⟨b, k', R, rfl⟩ := FrR.run F hn
  obtain ⟨p, hp⟩ := hplaced σ _ f F
  obtain ⟨o, ho, hor⟩ := S1.ar.obs l p ob hp hob
  obtain ⟨s, o', k3, q1, q2, q3, q4⟩ := hst σ f b k' own w1 p o R F hp ho hor (S1.ar.has l p ob hp hob) fun _ => trivial
  obtain ⟨u, w', es, k1, kp, rfl⟩ := SW.sound s #[] q2
  have hstep := q4 io'.main (fs ++ θ.outer)
  rw [k1] at hstep
  have kd := kp.does (P := P) (fn := f.fn)
  refine ⟨_, _, _, _, seen P f.fn (#[] ++ es), hstep.trans (after_go ..), by rw [Array.empty_append]; exact kd, hr _ _ _ _ ⟨σ, vt, [], vss, ids, _, fs, rfl, ?_, FrR.items F hn q3 (hnk R.tail), S1.cs, S1.io, S1.vids, S1.nodup, S1.hf, S1.kept.does S1.ar.n0le.1 S1.ar.apart kd, mine_lt S1.lt kd.size⟩⟩
  exact (obj_put S1.ar hp hob ho q1).shift
end
end Go.Gb
end
section
/-! Ranges over functions. -/
set_option linter.unusedSimpArgs false
set_option linter.unusedVariables false
set_option linter.unusedSectionVars false
namespace Go.Gb
open Go.Conc
section
variable {P : Program} {N0 : Nat} {mla : Addr} {ml : Gl} {θ : Th} {Post : Value → World → Prop} {E : Env}
variable {top : Fr} {cs : List Fr} {h : Heap} {nx : Gb.P} {io : AIo} {r : Rs} {fn : Gb.P} {nt : Nat} {regs : Regs} {k : List AIt} {ds : List ATgt} {dfd : Bool} {rd : Option Gb.P}
theorem SW_loop {α : Type} {own : Own} {n0 : Nat} {w : World} {b : Nat} {L : Loop} {f : Loop → Sem α} (hb : w.heap[b]? = some (.loop L)) (hm : mine own n0 w b) {Q : α → World → Prop} (hq : SW P N0 own n0 (f L) w Q) : SW P N0 own n0 (Instr.getLoop b >>= f) w Q := by
  unfold Instr.getLoop
  rw [SW_bind, SW_bind]
  exact SW_getObj hb trivial hm hq
theorem okay_begR (e : itemK E .begR k fn nt regs ds dfd rd cs h nx io ⟨fun _ _ _ _ => none, fun _ _ _ _ no _ => no⟩ (fun _ _ n _ => n) = some r) (hr : Suc P N0 mla ml θ Post E r) : Okay P N0 mla ml θ Post ⟨⟨fn, nt, regs, .begR :: k, ds, .run, dfd, rd⟩, cs, h, nx, io⟩ := by
  cases rd with
  | none => cases e
  | some l =>
    replace e : getOb (C := Rs) l h (fun o => match o with
      | .lp .ready p f nt' r ps a b d => T.putK (some (.lp .busy p f nt' r ps a b d)) l h fun h => some (.go ⟨⟨fn, nt, regs, k, ds, .run, dfd, some l⟩, cs, h, nx, io⟩)
      | _ => none) = some r := e
    obtain ⟨ob, hob, e2⟩ := getOb_inv e
    clear e
    split at e2
    case h_2 => cases e2
    rename_i pd f0 nt0 r0 ps a0 b0 d0
    rw [T.putK_eq] at e2
    cases e2
    have hpl : ∀ {σ vs f}, FrR P N0 mla ml σ vs ⟨fn, nt, regs, .begR :: k, ds, .run, dfd, some l⟩ f → ∃ p, σ l = some p ∧ f.roundOf = some p.bl := by
      intro σ vs f F
      rcases F.round with ⟨h1, _⟩ | ⟨l', p, h1, hp, hro⟩
      · cases h1
      · cases h1; exact ⟨p, hp, hro⟩
    refine okay_objstep (l := l) hob trivial (fun h => h) (fun σ f b k' own w p o R F hp ho hor hm _ => ?_) (fun σ vs f F => (hpl F).imp fun _ h => h.1) hr
    obtain ⟨p', hp', hro⟩ := hpl F
    rw [hp] at hp'; cases hp'
    have hb := R.it
    cases b <;> (try exact hb.elim)
    cases o <;> simp only [ObR] at hor
    rename_i L
    obtain ⟨g1, g2, g3⟩ := hor
    refine ⟨Instr.beginRound p.bl, .loop { L with state := .busy }, k', ?_, ?_, R.its, fun main cs => ?_⟩
    · simp only [ObR]; exact ⟨trivial, g2, g3⟩
    · unfold Instr.beginRound
      refine SW_loop ho hm ?_
      show SW P N0 own w.heap.size (setObj p.bl _ >>= _) w _
      rw [SW_bind]
      refine SW_setObj (ob' := .loop { L with state := .busy }) ho trivial hm rfl ?_
      rw [g1]; exact rfl
    · have hk := dfd_kind F.kind
      have hk' : (f.kind == CallKind.early) = false := by simpa using hk
      obtain ⟨u, w', es, k1, kp, rfl⟩ := SW.sound (P := P) (N0 := N0) (own := own) (n0 := w.heap.size) (Instr.beginRound p.bl) #[] (Q := fun _ w' => w' = { w with heap := w.heap.setIfInBounds p.bl (.loop { L with state := .busy }) }) (by
        unfold Instr.beginRound
        refine SW_loop ho hm ?_
        show SW P N0 own w.heap.size (setObj p.bl _ >>= _) w _
        rw [SW_bind]
        refine SW_setObj (ob' := .loop { L with state := .busy }) ho trivial hm rfl ?_
        rw [g1]; exact rfl)
      rw [stepG_run R.mode]
      simp only [stepG.exec, R.todo, hro]
      unfold stepG.apply
      have hrun : (do (some p.bl).elim (stuck "beginRound: no round") Instr.beginRound; Pure.pure Next.skip : Sem Next).runT P w #[] = (.ok .skip { w with heap := w.heap.setIfInBounds p.bl (.loop { L with state := .busy }) }, #[] ++ es) := by
        show (Sem.bind (Instr.beginRound p.bl) fun _ => Sem.pure Next.skip).runT P w #[] = _
        rw [Sem.runT_bind', k1]; rfl
      have hfin : f.finish undef = { f with todo := k' } := by unfold Frame.finish; rw [R.todo]
      simp only [if_true, hrun, k1, hk', Bool.false_eq_true, if_false, hfin]
      rw [← hro]
      rfl
theorem okay_endRF {l : Gb.P} (e : itemK E (.endRF l) k fn nt regs ds dfd rd cs h nx io ⟨fun _ _ _ _ => none, fun _ _ _ _ no _ => no⟩ (fun _ _ n _ => n) = some r) (hr : Suc P N0 mla ml θ Post E r) : Okay P N0 mla ml θ Post ⟨⟨fn, nt, regs, .endRF l :: k, ds, .run, dfd, rd⟩, cs, h, nx, io⟩ := by
  replace e : getOb (C := Rs) l h (fun o => match o with
    | .lp .busy _ _ _ _ _ _ _ _ => none
    | .lp _ p f nt' r ps a b d => T.putK (some (.lp .exhausted p f nt' r ps a b d)) l h fun h => (match p with
        | none => some (.go ⟨⟨fn, nt, regs, k, ds, .run, dfd, rd⟩, cs, h, nx, io⟩)
        | some j => some (.go ⟨⟨fn, nt, regs, .code j :: k, ds, .run, dfd, rd⟩, cs, h, nx, io⟩))
    | _ => none) = some r := e
  obtain ⟨ob, hob, e2⟩ := getOb_inv e
  clear e
  cases ob <;> (try (cases e2; done))
  rename_i st pd f0 nt0 r0 ps a0 b0 d0
  have hst : st ≠ .busy ∧ r = .go ⟨⟨fn, nt, regs, (pd.map AIt.code).toList ++ k, ds, .run, dfd, rd⟩, cs, T.put (some (.lp .exhausted pd f0 nt0 r0 ps a0 b0 d0)) l h, nx, io⟩ := by
    cases st <;> (try (cases e2; done)) <;> (simp only [T.putK_eq] at e2; cases pd <;> exact ⟨fun h => (by cases h), (Option.some.inj e2).symm⟩)
  obtain ⟨hne, rfl⟩ := hst
  have hpl : ∀ {σ vs f}, FrR P N0 mla ml σ vs ⟨fn, nt, regs, .endRF l :: k, ds, .run, dfd, rd⟩ f → ∃ p k', σ l = some p ∧ f.todo = .endRangeFunc p.bl :: k' := by
    intro σ vs f F
    obtain ⟨b, k', R, _⟩ := FrR.run F (it := .endRF l) trivial
    have hb := R.it
    have ht := R.todo
    cases b <;> (try exact hb.elim)
    obtain ⟨p, hp, rfl⟩ := hb
    exact ⟨p, k', hp, ht⟩
  refine okay_objstep (l := l) hob trivial (k2 := (pd.map AIt.code).toList ++ k) (fun h x hx => ?_) (fun σ f b k' own w p o R F hp ho hor hm _ => ?_) (fun σ vs f F => (hpl F).imp fun _ h => h.choose_spec.1) hr
  · rcases List.mem_append.1 hx with hx | hx
    · cases pd with
      | none => simp at hx
      | some j => simp at hx; subst hx; trivial
    · exact h x hx
  · obtain ⟨p', k2, hp', ht⟩ := hpl F
    rw [hp] at hp'; cases hp'
    have ht2 := R.todo
    rw [ht] at ht2
    cases ht2
    cases o <;> simp only [ObR] at hor
    rename_i L
    obtain ⟨g1, g2, g3⟩ := hor
    have hsw : SW P N0 own w.heap.size (Instr.endLoop p.bl) w (fun v w' => v = pd ∧ w' = { w with heap := w.heap.setIfInBounds p.bl (.loop { L with state := .exhausted }) }) := by
      unfold Instr.endLoop
      refine SW_loop ho hm ?_
      have : (L.state == LoopState.busy) = false := by rw [g1]; cases st <;> first | rfl | exact absurd rfl hne
      simp only [this, Bool.false_eq_true, if_false]
      show SW P N0 own w.heap.size (setObj p.bl _ >>= _) w _
      rw [SW_bind]
      refine SW_setObj (ob' := .loop { L with state := .exhausted }) ho trivial hm rfl ?_
      exact ⟨g2, rfl⟩
    refine ⟨(do let _ ← Instr.endLoop p.bl; pure ()), .loop { L with state := .exhausted }, (pd.map Item.code).toList ++ k', ?_, ?_, ?_, fun main cs => ?_⟩
    · simp only [ObR]; exact ⟨trivial, g2, g3⟩
    · rw [SW_bind]
      exact SW.mono hsw fun v w' h => h.2
    · cases pd with
      | none => exact R.its
      | some j => exact ⟨rfl, R.its⟩
    · obtain ⟨u, w', es, k1, kp, rfl, rfl⟩ := SW.sound _ #[] hsw
      rw [stepG_run R.mode]
      simp only [stepG.exec, ht]
      have hrun : (do let _ ← Instr.endLoop p.bl; Pure.pure () : Sem Unit).runT P w #[] = (.ok () { w with heap := w.heap.setIfInBounds p.bl (.loop { L with state := .exhausted }) }, #[] ++ es) := by
        show (Sem.bind (Instr.endLoop p.bl) fun _ => Sem.pure ()).runT P w #[] = _
        rw [Sem.runT_bind', k1]; rfl
      simp only [hrun, k1]
      rfl
end
end Go.Gb
end
