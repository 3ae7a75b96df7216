/- A part of the proof of the statement Rows.TopMissingCardSaid (at every argument the law returns true on every schedule, and its argument reads as before; the listed variables as laid). This text: a stepper over symbolic states of the translated program and its soundness, part 35 of 41. -/
import Derived.Test.YtgabhijnigpbdaaGreatDoorM34
section
/-! The step is sound. -/
set_option linter.unusedSimpArgs false
set_option linter.unusedVariables false
set_option linter.unusedSectionVars false
namespace Go.Gb
open Go.Conc
section
variable {P : Program} {N0 : Nat} {mla : Addr} {ml : Gl} {θ : Th} {Post : Value → World → Prop} {E : Env} {gk : GK}
variable {top : Fr} {cs : List Fr} {h : Heap} {nx : Gb.P} {io : AIo} {r : Rs} {fn : Gb.P} {nt : Nat} {regs : Regs} {k : List AIt} {ds : List ATgt} {dfd : Bool} {rd : Option Gb.P} {ops : Array Oper}
theorem ats_rg {o : TOp} {l : List TOp} {x : Fx} (hw : Wtd o regs) (hx : o.wh = .f x) : Ats P N0 mla ml ⟨fn, nt, regs, .rg ops (o :: l) :: k, ds, .run, dfd, rd⟩ x := by
  intro σ vs f F
  obtain ⟨i, τ, k', oo, hf, hm, ho, hT, hτ, hk, hk2, hr, hv⟩ := FrR.rg F
  refine ⟨hm, ⟨ops, i, τ, k', oo, hf, ho, wtd_rel hT (a := ⟨f.tmps, f.defers⟩) (fun p b _ v hv => hr p v hv) hw, ?_⟩, fun y _ p _ v hv => hr p v hv⟩
  rcases hT.wh with ⟨i, h, _⟩ | ⟨y, h, hy⟩
  · rw [hx] at h; cases h
  · rw [hx] at h; cases h; exact hy
theorem ats_ef {n : Nd} {l : List DOp} {x : Fx} (hw : Wtd n.t regs) (hx : n.t.wh = .f x) : Ats P N0 mla ml ⟨fn, nt, regs, .dg ops (.ef n :: l) :: k, ds, .run, dfd, rd⟩ x := by
  intro σ vs f F
  obtain ⟨τ, k', oo, hf, hm, ho, hT, hu⟩ := FrR.ef F
  refine ⟨hm, ⟨ops, n.i, τ, k', oo, hf, ho, wtd_rel hT (a := ⟨f.tmps, f.defers⟩) (fun p b hg v hv => hu p (uses_g hg) v hv) hw, ?_⟩, fun y hy p hp v hv => hu p (uses_f hx (hp ▸ hy)) v hv⟩
  rcases hT.wh with ⟨i, h, _⟩ | ⟨y, h, hy⟩
  · rw [hx] at h; cases h
  · rw [hx] at h; cases h; exact hy
theorem okay_fxK (hF : FunOk P E) (hX : ExtsOk P E mla ml) (hgk : GkOk P N0 mla ml Post E gk) (hz : θ.hf = .nil) {x : Fx} (hat : Ats P N0 mla ml top x) (hmd : top.md = .run) (e : fxK E gk x top cs h nx io = some r) (hr : Suc P N0 mla ml θ Post E r) : Okay P N0 mla ml θ Post ⟨top, cs, h, nx, io⟩ := by
  cases x with
  | call f args => exact okay_call hF hX hgk.sub hz hat e hr
  | go f args => exact okay_go hgk hat e hr
  | defer f args => exact okay_defer hat e hr
  | close c => exact okay_close hat e hr
  | panic x => exact okay_panic hat hmd e hr (fun y hy => hy)
  | recov => exact okay_recov hat e hr
  | recv c z ok => exact okay_recv hat e hr
  | send1 c x => exact okay_send1 hat e hr
  | take1 c z => exact okay_take1 hat e hr
  | send2 c x ec z => exact okay_send2 hat e hr
  | nextM it => exact okay_nextM hat e hr
/-- A region in the text's order begins. -/
theorem okay_region (hE : EnvOk P E mla ml) {id : Nat} {l : List TOp} (e : compR E nt ops = some l) (hr : Okay P N0 mla ml θ Post ⟨⟨fn, nt, regs, .rg ops l :: k, ds, .run, dfd, rd⟩, cs, h, nx, io⟩) : Okay P N0 mla ml θ Post ⟨⟨fn, nt, regs, .code (.region id ops false) :: k, ds, .run, dfd, rd⟩, cs, h, nx, io⟩ := by
  have key : ∀ (os : List Oper) (i : Nat) {kk : List TOp → O (List TOp)} {l : List TOp}, (∀ (j : Nat) o, os[j]? = some o → ops.toList[i + j]? = some o) → compTs E nt ops.toList os kk = some l → ∃ ts, kk ts = some l ∧ TextR P N0 mla ml nt ops.toList ts (List.range' i os.length) := by
    intro os
    induction os with
    | nil => intro i kk l _ e; exact ⟨[], e, trivial⟩
    | cons o os ih =>
      intro i kk l hj e
      replace e : compT E nt ops.toList o (fun t => compTs E nt ops.toList os fun ts => kk (t :: ts)) = some l := e
      obtain ⟨t, hT, e⟩ := compT_inv (N0 := N0) hE e
      obtain ⟨ts, e, hts⟩ := ih (i + 1) (fun j o' ho => by
        have := hj (j + 1) o' (by simpa using ho)
        rw [show i + 1 + j = i + (j + 1) by omega]; exact this) e
      refine ⟨_, e, ?_⟩
      rw [List.length_cons, List.range'_succ]
      exact ⟨⟨o, by have := hj 0 o rfl; simpa using this, hT⟩, hts⟩
  obtain ⟨ts, e2, hts⟩ := key ops.toList 0 (fun j o ho => by simpa using ho) e
  cases e2
  refine okay_code (k2 := [.rg ops l]) (by simp [NotDg]) (fun σ f k' hm ht _ => ⟨[.inRegion ops (List.range ops.size)], fun main cs w => (exec_items ht).2.2.2.2.2.2.2.1 id ops rfl, fun k'' hk => ⟨⟨rfl, ?_⟩, hk⟩⟩) hr
  rw [List.range_eq_range']
  simpa using hts
/-- Every step of the evaluator is sound. -/
theorem step_suc (hE : EnvOk P E mla ml) (hF : FunOk P E) (hX : ExtsOk P E mla ml) (hgk : GkOk P N0 mla ml Post E gk) (hz : θ.hf = .nil) {c : Cfg} (e : step0 E gk (plan1 E) c = some r) (hr : Suc P N0 mla ml θ Post E r) : Okay P N0 mla ml θ Post c := by
  obtain ⟨⟨fn, nt, regs, todo, ds, md, dfd, rd⟩, cs, h, nx, io⟩ := c
  cases md with
  | returning => exact okay_unwind hF hX hE.tys (by simp) e hr
  | panicking ch => exact okay_unwind hF hX hE.tys (by simp) e hr
  | run =>
    cases todo with
    | nil => exact okay_end e hr
    | cons it k =>
      replace e : itemK E it k fn nt regs ds dfd rd cs h nx io gk (plan1 E) = some r := e
      cases it with
      | inBlock id =>
        cases e
        refine okay_items (k2 := k) trivial (fun σ f b k' R => ?_) (fun h => h) hr
        have hb := R.it
        have ht := R.todo
        cases b <;> (try exact hb.elim)
        exact ⟨k', go_todo R.mode R.todo fun main cs w => by simp [stepG.exec, ht], R.its⟩
      | inScope a =>
        cases e
        refine okay_items (k2 := k) trivial (fun σ f b k' R => ?_) (fun h => h) hr
        have hb := R.it
        have ht := R.todo
        cases b <;> (try exact hb.elim)
        exact ⟨k', go_todo R.mode R.todo fun main cs w => by simp [stepG.exec, ht], R.its⟩
      | inLoop a =>
        cases e
        refine okay_items (k2 := .code a :: .inLoop a :: k) trivial (fun σ f b k' R => ?_) (fun h x hx => ?_) hr
        · have hb := R.it
          have ht := R.todo
          cases b <;> (try exact hb.elim)
          rename_i c
          have hb : c = a := hb
          subst hb
          exact ⟨.code c :: .inLoop c :: k', go_todo R.mode R.todo fun main cs w => by simp [stepG.exec, ht], rfl, rfl, R.its⟩
        · simp only [List.mem_cons] at hx
          rcases hx with rfl | rfl | hx
          · trivial
          · trivial
          · exact h x hx
      | rg ops l =>
        replace e : opsK l regs h nx (fun regs h nx => some (.go ⟨⟨fn, nt, regs, k, ds, .run, dfd, rd⟩, cs, h, nx, io⟩))
          (fun x l regs h nx => fxK E gk x ⟨fn, nt, regs, .rg ops l :: k, ds, .run, dfd, rd⟩ cs h nx io) = some r := e
        exact okay_rg (fun regs h nx e => by cases (Option.some.inj e); exact hr) (fun x o l regs h nx hx hw e => okay_fxK hF hX hgk hz (ats_rg hw hx) rfl e hr) l regs h nx e
      | dg ops l =>
        replace e : dopsK l regs h nx (fun regs h nx => some (.go ⟨⟨fn, nt, regs, k, ds, .run, dfd, rd⟩, cs, h, nx, io⟩))
          (fun x l regs h nx => fxK E gk x ⟨fn, nt, regs, .dg ops l :: k, ds, .run, dfd, rd⟩ cs h nx io) = some r := e
        exact okay_dg hz (fun regs h nx e => by cases (Option.some.inj e); exact hr) (fun x n l regs h nx hx hw e => okay_fxK hF hX hgk hz (ats_ef hw hx) rfl e hr) l regs h nx e
      | inRF l => cases e
      | endRF l => exact okay_endRF e hr
      | begR => exact okay_begR e hr
      | code a =>
        cases a with
        | skip => cases e; exact okay_skip hr
        | label l => cases e; exact okay_label hr
        | seq x y => cases e; exact okay_seq hr
        | cond c x y =>
          obtain ⟨c', rfl, h2⟩ := okay_cond (P := P) (N0 := N0) (mla := mla) (ml := ml) (θ := θ) (Post := Post) e
          exact h2 hr
        | block id x => cases e; exact okay_block hr
        | loop x => cases e; exact okay_loop hr
        | scope x => cases e; exact okay_scope hr
        | exit id => exact okay_exit e hr
        | ret => exact okay_ret e hr
        | region id ops draw =>
          cases draw with
          | true =>
            replace e : optK (planK E nt ops) none (fun l => some (.go ⟨⟨fn, nt, regs, .dg ops l :: k, ds, .run, dfd, rd⟩, cs, h, nx, io⟩)) = some r := e
            obtain ⟨l, hl, e⟩ := optK_inv e
            cases e
            exact okay_draw (planK_ok hE hl) hr
          | false =>
            replace e : optK (compR E nt ops) none (fun l => some (.go ⟨⟨fn, nt, regs, .rg ops l :: k, ds, .run, dfd, rd⟩, cs, h, nx, io⟩)) = some r := e
            obtain ⟨l, hl, e⟩ := optK_inv e
            cases e
            exact okay_region hE hl hr
        | rangeFunc f ps a b => exact okay_rangeFunc hF hX e hr
        | goto l => cases e
        | refuse w => cases e
end
end Go.Gb
end
section
/-! Runs are sound. -/
set_option linter.unusedSimpArgs false
set_option linter.unusedVariables false
set_option linter.unusedSectionVars false
namespace Go.Gb
open Go.Conc
section
variable {P : Program} {N0 : Nat} {mla : Addr} {ml : Gl} {θ : Th} {Post : Value → World → Prop} {E : Env} {gk : GK}
theorem noGk_ok : GkOk P N0 mla ml Post E noGk := ⟨⟨fun g args h nx no k r e => .inl e⟩, fun g s c e nx k r h => by cases h⟩
theorem iterS_suc {st : Cfg → OR} (hst : ∀ c r, st c = some r → Suc P N0 mla ml θ Post E r → Okay P N0 mla ml θ Post c) : ∀ (n : Nat) {c : Cfg} {r : Rs}, iterS st n c = some r → Suc P N0 mla ml θ Post E r → Okay P N0 mla ml θ Post c := by
  intro n
  induction n with
  | zero => exact fun e hr => hst _ _ e hr
  | succ n ih =>
    intro c r e hr
    replace e : optK (iterS st n c) none (fun r => match r with | .go c => iterS st n c | r => some r) = some r := e
    obtain ⟨r1, h1, e⟩ := optK_inv e
    refine ih h1 ?_
    cases r1 with
    | go c1 => exact ih e hr
    | fork l => cases e; exact hr
    | done v c => cases e; exact hr
    | fin c => cases e; exact hr
    | sent m c => cases e; exact hr
theorem bindL_inv {f : Cfg → O (List Cfg)} {Q : Cfg → Prop} : ∀ {l out : List Cfg}, bindL f l = some out → (∀ c o, c ∈ l → f c = some o → (∀ c' ∈ o, Q c') → Q c) → (∀ c ∈ out, Q c) → ∀ c ∈ l, Q c := by
  intro l
  induction l with
  | nil => intro out _ _ _ c hc; simp at hc
  | cons x l ih =>
    intro out e hf hq c hc
    cases l with
    | nil =>
      replace e : f x = some out := e
      have : c = x := by simpa using hc
      subst this
      exact hf c out (by simp) e hq
    | cons y l =>
      replace e : optK (f x) none (fun a => optK (bindL f (y :: l)) none fun b => lappK a b some) = some out := e
      obtain ⟨a, ha, e⟩ := optK_inv e
      obtain ⟨b, hb, e⟩ := optK_inv e
      rw [lappK_eq] at e
      have : a ++ b = out := Option.some.inj e
      subst this
      rcases List.mem_cons.1 hc with rfl | hc
      · exact hf c a (by simp) ha fun c' hc' => hq c' (by simp [hc'])
      · exact ih hb (fun c o hc ho => hf c o (by simp only [List.mem_cons] at hc ⊢; exact .inr hc) ho) (fun c' hc' => hq c' (by simp [hc'])) c hc
/-- A run: what is left of it. -/
theorem iterB_suc {g0 : Gb.P} {st : Cfg → OR} (hst : ∀ c r, st c = some r → Suc P N0 mla ml θ Post E r → Okay P N0 mla ml θ Post c) (hdone : ∀ v c, goodV v = true → c.top.fn = g0 → c.io = .solo → DoneIs P N0 mla ml E v c → Okay P N0 mla ml θ Post c) :
    ∀ (n : Nat) {c : Cfg} {l : List Cfg}, iterB g0 st n c = some l → (∀ c' ∈ l, Okay P N0 mla ml θ Post c') → Okay P N0 mla ml θ Post c := by
  intro n
  induction n with
  | zero =>
    intro c l e hl
    replace e : next1 g0 st c = some l := e
    unfold next1 at e
    obtain ⟨r, h1, e⟩ := optK_inv e
    refine hst c r h1 ?_
    cases r with
    | go c1 => cases e; exact hl c1 (by simp)
    | fork l' => cases e; exact hl
    | done v c1 =>
      obtain ⟨⟨fn, a1, a2, a3, a4, a5, a6, a7⟩, cs, h, nx, io⟩ := c1
      cases io <;> (try (cases e; done))
      obtain ⟨hg, e⟩ := boolK_inv e
      obtain ⟨hfn, _⟩ := boolK_inv e
      exact fun hd => hdone v _ hg (pbeq_eq hfn) rfl hd
    | fin c1 => cases e
    | sent m c1 => cases e
  | succ n ih =>
    intro c l e hl
    replace e : optK (iterB g0 st n c) none (fun l => bindL (iterB g0 st n) l) = some l := e
    obtain ⟨l1, h1, e⟩ := optK_inv e
    exact ih h1 (bindL_inv e (fun c o _ ho hq => ih ho hq) hl)
/-- A worker, from message to message. -/
theorem workB_suc {st : Cfg → OR} (hst : ∀ θ : Th, θ.hf = .nil → ∀ c r, st c = some r → Suc P N0 mla ml θ Post E r → Okay P N0 mla ml θ Post c) :
    ∀ (f : Nat) {c : Cfg} {k : List M → Gb.P → OR} {r : Rs}, workB st f c k = some r → ∃ ms nx', k ms nx' = some r ∧ ∀ θ : Th, θ.hf = .nil → (∀ c', FinIs E c' → Okay P N0 mla ml { θ with total := [] } Post c') → Okay P N0 mla ml { θ with total := ms } Post c := by
  intro f
  induction f with
  | zero => intro c k r e; cases e
  | succ f ih =>
    intro c k r e
    replace e : optK (st c) none (fun r => match r with
      | .sent m c => workB st f c fun ms nx => k (m :: ms) nx
      | .fin ⟨_, _, _, nx, _⟩ => k [] nx
      | _ => none) = some r := e
    obtain ⟨r1, h1, e⟩ := optK_inv e
    cases r1 with
    | go c1 => cases e
    | fork l => cases e
    | done v c1 => cases e
    | fin c1 =>
      obtain ⟨t, cs, h, nx, io⟩ := c1
      exact ⟨[], nx, e, fun θ hz hfin => hst { θ with total := [] } hz c _ h1 fun hf => hfin _ hf⟩
    | sent m c1 =>
      obtain ⟨ms, nx', e, h2⟩ := ih e
      exact ⟨m :: ms, nx', e, fun θ hz hfin => hst { θ with total := m :: ms } hz c _ h1 ⟨ms, rfl, h2 θ hz hfin⟩⟩
end
end Go.Gb
end
section
/-! What a call hands back. -/
set_option linter.unusedSimpArgs false
set_option linter.unusedVariables false
set_option linter.unusedSectionVars false
namespace Go.Gb
open Go.Conc
def RowP (ob : Ob) : Prop := ∃ cs el room opn fz, ob = .row cs el room opn fz ∧ allPlain cs = true
theorem RowP.rel {ob : Ob} (h : RowP ob) {ml : Gl} {σ σ' : Sg} {p : Pl} {o : Obj} (hr : ObR ml σ p ob o) : ObR ml σ' p ob o := by
  obtain ⟨cs, el, room, opn, fz, rfl, hp⟩ := h
  cases o <;> simp only [ObR] at hr
  rename_i c el' fr
  obtain ⟨lo, hi⟩ := fr
  simp only [ObR] at hr ⊢
  refine ⟨hr.1, fun i v hv => ?_, hr.2.2⟩
  obtain ⟨x, h1, h2, h3⟩ := hr.2.1 i v hv
  exact ⟨x, h1, VR.plain (allPlain_inv hp v (List.mem_of_getElem? hv)) h2, h3⟩
structure HandB (h : Heap) (nx : P) (obs : List (P × Ob)) (h' : Heap) (nx' : P) (τ : P → P) : Prop where
  le : nx.toNat ≤ nx'.toNat
  nodup : (obs.map (·.1)).Nodup
  rng : ∀ id ∈ obs.map (·.1), nx.toNat ≤ id.toNat ∧ id.toNat < nx'.toNat
  src : ∀ id ob, (id, ob) ∈ obs → T.get (τ id) h = some ob ∧ RowP ob
  inj : ∀ id id', id ∈ obs.map (·.1) → id' ∈ obs.map (·.1) → τ id = τ id' → id = id'
  left : ∀ id ob, T.get id h' = some ob → T.get id h = some ob ∧ ∀ i ∈ obs.map (·.1), τ i ≠ id
def msig (σ : Sg) (τ : P → P) (ids : List P) : Sg := fun id => if id ∈ ids then σ (τ id) else none
def Live (σ : Sg) (τ : P → P) (ids : List P) : Prop := ∀ id ∈ ids, σ (τ id) ≠ none
theorem HandB.none {h : Heap} {nx : P} (τ : P → P) : HandB h nx [] h nx τ := ⟨Nat.le_refl _, List.nodup_nil, by simp, by simp, by simp, fun id ob h => ⟨h, by simp⟩⟩
noncomputable def handLs (vs : List V) : Heap → P → (List V → List (P × Ob) → Heap → P → OR) → OR :=
  List.rec (motive := fun _ => Heap → P → (List V → List (P × Ob) → Heap → P → OR) → OR) (fun h nx k => k [] [] h nx)
    (fun v _ ih h nx k => handK v h nx fun v o1 h nx => ih h nx fun vs o2 h nx => lappK o1 o2 fun obs => k (v :: vs) obs h nx) vs
theorem handK_agg : ∀ (cs : List V) (h : Heap) (nx : P) (k : V → List (P × Ob) → Heap → P → OR), handK (.agg cs) h nx k = handLs cs h nx fun cs => k (.agg cs)
  | [], _, _, _ => rfl
  | c :: cs, h, nx, k => by
    show handK c h nx _ = handK c h nx _
    congr 1
    funext v o1 h nx
    exact handK_agg cs h nx (fun w o2 h nx => match w with | .agg vs => lappK o1 o2 fun obs => k (.agg (v :: vs)) obs h nx | _ => none)
theorem handK_tup (cs : List V) (h : Heap) (nx : P) (k : V → List (P × Ob) → Heap → P → OR) : handK (.tup cs) h nx k = handLs cs h nx fun cs => k (.tup cs) :=
  handK_agg cs h nx (fun w => match w with | .agg cs => k (.tup cs) | _ => fun _ _ _ => none)
theorem msig_nil {σ : Sg} {τ : P → P} : msig σ τ [] = fun _ => none := by funext id; simp [msig]
theorem HandB.cons {h h1 h2 : Heap} {nx n1 n2 : P} {o1 o2 : List (P × Ob)} {τ1 τ2 : P → P} (a : HandB h nx o1 h1 n1 τ1) (b : HandB h1 n1 o2 h2 n2 τ2) :
    ∃ τ, HandB h nx (o1 ++ o2) h2 n2 τ ∧ ∀ σ : Sg, Sub (msig σ τ1 (o1.map (·.1))) (msig σ τ ((o1 ++ o2).map (·.1))) ∧ Sub (msig σ τ2 (o2.map (·.1))) (msig σ τ ((o1 ++ o2).map (·.1))) ∧ (Live σ τ1 (o1.map (·.1)) → Live σ τ2 (o2.map (·.1)) → Live σ τ ((o1 ++ o2).map (·.1))) := by
  have dis : ∀ id, id ∈ o2.map (·.1) → id ∉ o1.map (·.1) := fun id h1 h2 => by
    have := (a.rng id h2).2; have := (b.rng id h1).1; omega
  let τ : P → P := fun id => if id ∈ o1.map (·.1) then τ1 id else τ2 id
  have t1 : ∀ id, id ∈ o1.map (·.1) → τ id = τ1 id := fun id h => if_pos h
  have t2 : ∀ id, id ∈ o2.map (·.1) → τ id = τ2 id := fun id h => if_neg (dis id h)
  have key : ∀ id, id ∈ o1.map (·.1) → ∀ id', id' ∈ o2.map (·.1) → τ1 id ≠ τ2 id' := fun id hi id' hi' e => by
    obtain ⟨⟨i, ob⟩, hm, rfl⟩ := List.mem_map.1 hi'
    exact (a.left _ _ (b.src i ob hm).1).2 id hi e
  refine ⟨τ, ⟨Nat.le_trans a.le b.le, ?_, fun id hid => ?_, fun id ob hm => ?_, fun id id' hi hi' e => ?_, fun id ob hg => ?_⟩, fun σ => ⟨fun id p hp => ?_, fun id p hp => ?_, fun l1 l2 id hid => ?_⟩⟩
  · rw [List.map_append]
    exact List.nodup_append.2 ⟨a.nodup, b.nodup, fun x hx y hy e => dis y hy (e ▸ hx)⟩
  · rw [List.map_append] at hid
    have := a.le; have := b.le
    rcases List.mem_append.1 hid with hid | hid
    · have := a.rng id hid; omega
    · have := b.rng id hid; omega
  · rcases List.mem_append.1 hm with hm | hm
    · rw [t1 id (List.mem_map.2 ⟨_, hm, rfl⟩)]; exact a.src id ob hm
    · rw [t2 id (List.mem_map.2 ⟨_, hm, rfl⟩)]
      obtain ⟨k1, k2⟩ := b.src id ob hm
      exact ⟨(a.left _ _ k1).1, k2⟩
  · rw [List.map_append] at hi hi'
    rcases List.mem_append.1 hi with hi | hi <;> rcases List.mem_append.1 hi' with hi' | hi'
    · rw [t1 _ hi, t1 _ hi'] at e; exact a.inj _ _ hi hi' e
    · rw [t1 _ hi, t2 _ hi'] at e; exact absurd e (key _ hi _ hi')
    · rw [t2 _ hi, t1 _ hi'] at e; exact absurd e.symm (key _ hi' _ hi)
    · rw [t2 _ hi, t2 _ hi'] at e; exact b.inj _ _ hi hi' e
  · obtain ⟨k1, k2⟩ := b.left id ob hg
    obtain ⟨k3, k4⟩ := a.left id ob k1
    refine ⟨k3, fun i hi => ?_⟩
    rw [List.map_append] at hi
    rcases List.mem_append.1 hi with hi | hi
    · rw [t1 _ hi]; exact k4 i hi
    · rw [t2 _ hi]; exact k2 i hi
  · unfold msig at hp ⊢
    split at hp
    · rename_i hm
      rw [if_pos (by rw [List.map_append]; exact List.mem_append_left _ hm), t1 id hm]; exact hp
    · cases hp
  · unfold msig at hp ⊢
    split at hp
    · rename_i hm
      rw [if_pos (by rw [List.map_append]; exact List.mem_append_right _ hm), t2 id hm]; exact hp
    · cases hp
  · rw [List.map_append] at hid
    rcases List.mem_append.1 hid with hid | hid
    · rw [t1 id hid]; exact l1 id hid
    · rw [t2 id hid]; exact l2 id hid
/-- What is told of one value. -/
def HandV (ml : Gl) (v : V) (h : Heap) (nx : P) (v' : V) (obs : List (P × Ob)) (h' : Heap) (nx' : P) : Prop :=
  ∃ τ, HandB h nx obs h' nx' τ ∧ ∀ (σ : Sg) (u : Value), VR ml σ v u → VR ml (msig σ τ (obs.map (·.1))) v' u ∧ Live σ τ (obs.map (·.1))
theorem HandV.same {ml : Gl} {v : V} {h : Heap} {nx : P} (hv : ∀ (σ σ' : Sg) (u : Value), VR ml σ v u → VR ml σ' v u) : HandV ml v h nx v [] h nx :=
  ⟨id, HandB.none _, fun σ u hu => ⟨hv _ _ _ hu, by simp [Live]⟩⟩
 mutual
theorem handK_inv {ml : Gl} : ∀ (v : V) {h : Heap} {nx : P} {k : V → List (P × Ob) → Heap → P → OR} {r : Rs}, handK v h nx k = some r → ∃ v' obs h' nx', k v' obs h' nx' = some r ∧ HandV ml v h nx v' obs h' nx'
  | .int kd n, h, nx, k, r, e => ⟨_, _, _, _, e, .same fun σ σ' u hu => VR.plain rfl hu⟩
  | .bool b, h, nx, k, r, e => ⟨_, _, _, _, e, .same fun σ σ' u hu => VR.plain rfl hu⟩
  | .str n N, h, nx, k, r, e => ⟨_, _, _, _, e, .same fun σ σ' u hu => VR.plain rfl hu⟩
  | .nilp, h, nx, k, r, e => ⟨_, _, _, _, e, .same fun σ σ' u hu => by cases u <;> (try simp only [VR] at hu); rename_i a; cases a <;> simp_all [VR]⟩
  | .nils, h, nx, k, r, e => ⟨_, _, _, _, e, .same fun σ σ' u hu => by cases u <;> (try simp only [VR] at hu); rename_i a _ _; cases a <;> simp_all [VR]⟩
  | .nili, h, nx, k, r, e => ⟨_, _, _, _, e, .same fun σ σ' u hu => by cases u <;> simp_all [VR]⟩
  | .sl id off len cap, h, nx, k, r, e => by
    replace e : optK (T.get id h) none (fun o => match o with
      | .row cs el room opn fz => boolK (allPlain cs) (T.putK none id h fun h => succK nx fun nx' => k (.sl nx off len cap) [(nx, .row cs el room opn fz)] h nx') none
      | _ => none) = some r := e
    obtain ⟨o, ho, e⟩ := optK_inv e
    cases o <;> simp only [reduceCtorEq] at e
    rename_i cs el room opn fz
    obtain ⟨hp, e⟩ := boolK_inv e
    rw [T.putK_eq, succK_eq] at e
    refine ⟨_, _, _, _, e, fun _ => id, ⟨by rw [P.toNat_succ]; omega, by simp, fun i hi => ?_, fun i ob hm => ?_, fun i i' hi hi' _ => ?_, fun i ob hg => ?_⟩, fun σ u hu => ?_⟩
    · simp at hi; subst hi; rw [P.toNat_succ]; omega
    · simp at hm; obtain ⟨rfl, rfl⟩ := hm; exact ⟨ho, _, _, _, _, _, rfl, hp⟩
    · simp at hi hi'; rw [hi, hi']
    · by_cases hne : id = i
      · subst hne; rw [T.get_put_same] at hg; cases hg
      · rw [T.get_put_ne _ _ _ _ hne] at hg; exact ⟨hg, fun _ _ => hne⟩
    · cases u <;> (try simp only [VR] at hu)
      rename_i a _ _
      cases a <;> simp only [VR] at hu
      obtain ⟨p, h1, h2, h3⟩ := hu
      refine ⟨?_, fun i hi => by rw [h1]; simp⟩
      simp only [VR]
      exact ⟨p, by simp [msig, h1], h2, h3⟩
  | .agg cs, h, nx, k, r, e => by
    rw [handK_agg] at e
    obtain ⟨vs, obs, h', nx', e, τ, h1, h2⟩ := handLs_inv cs e
    refine ⟨_, _, _, _, e, τ, h1, fun σ u hu => ?_⟩
    cases u <;> simp only [VR] at hu
    obtain ⟨h3, h4⟩ := h2 σ _ hu.1
    refine ⟨?_, h4⟩
    simp only [VR]
    exact ⟨h3, hu.2⟩
  | .tup cs, h, nx, k, r, e => by
    rw [handK_tup] at e
    obtain ⟨vs, obs, h', nx', e, τ, h1, h2⟩ := handLs_inv cs e
    refine ⟨_, _, _, _, e, τ, h1, fun σ u hu => ?_⟩
    cases u <;> simp only [VR] at hu
    obtain ⟨h3, h4⟩ := h2 σ _ hu
    refine ⟨?_, h4⟩
    simp only [VR]
    exact h3
  | .ptr _ _, h, nx, k, r, e => by cases e
  | .map _, h, nx, k, r, e => by cases e
  | .nilm, h, nx, k, r, e => by cases e
  | .chan _, h, nx, k, r, e => by cases e
  | .nilc, h, nx, k, r, e => by cases e
  | .fn _ _ _, h, nx, k, r, e => by cases e
  | .yld _, h, nx, k, r, e => by cases e
  | .nilf, h, nx, k, r, e => by cases e
  | .ifc _ _, h, nx, k, r, e => by cases e
  | .unk _, h, nx, k, r, e => by cases e
  | .par _ _ _, h, nx, k, r, e => by cases e
theorem handLs_inv {ml : Gl} : ∀ (vs : List V) {h : Heap} {nx : P} {k : List V → List (P × Ob) → Heap → P → OR} {r : Rs}, handLs vs h nx k = some r → ∃ vs' obs h' nx', k vs' obs h' nx' = some r ∧ ∃ τ, HandB h nx obs h' nx' τ ∧ ∀ (σ : Sg) (us : List Value), VRL ml σ vs us → VRL ml (msig σ τ (obs.map (·.1))) vs' us ∧ Live σ τ (obs.map (·.1))
  | [], h, nx, k, r, e => ⟨_, _, _, _, e, id, HandB.none _, fun σ us hu => by
      cases us with
      | nil => exact ⟨trivial, by simp [Live]⟩
      | cons => exact hu.elim⟩
  | v :: vs, h, nx, k, r, e => by
    replace e : handK v h nx (fun v o1 h nx => handLs vs h nx fun vs o2 h nx => lappK o1 o2 fun obs => k (v :: vs) obs h nx) = some r := e
    obtain ⟨v', o1, h1, n1, e, τ1, a1, a2⟩ := handK_inv v e
    obtain ⟨vs', o2, h2, n2, e, τ2, b1, b2⟩ := handLs_inv vs e
    rw [lappK_eq] at e
    obtain ⟨τ, c1, c2⟩ := a1.cons b1
    refine ⟨_, _, _, _, e, τ, c1, fun σ us hu => ?_⟩
    cases us with
    | nil => exact hu.elim
    | cons u us =>
      obtain ⟨d1, d2⟩ := a2 σ u hu.1
      obtain ⟨d3, d4⟩ := b2 σ us hu.2
      obtain ⟨s1, s2, s3⟩ := c2 σ
      exact ⟨⟨VR.mono s1 _ _ d1, VRL.mono s2 _ _ d3⟩, s3 d2 d4⟩
end
end Go.Gb
end
