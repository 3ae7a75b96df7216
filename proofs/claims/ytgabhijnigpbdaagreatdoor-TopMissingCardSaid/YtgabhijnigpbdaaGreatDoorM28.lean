/- A part of the proof of the statement Rows.TopMissingCardSaid (at every argument the law returns true on every schedule, and its argument reads as before; the listed variables as laid). This text: a stepper over symbolic states of the translated program and its soundness, part 28 of 41. -/
import Derived.Test.YtgabhijnigpbdaaGreatDoorM27
section
/-! Leaving; what a frame does at its end. -/
set_option linter.unusedSimpArgs false
set_option linter.unusedVariables false
set_option linter.unusedSectionVars false
namespace Go.Gb
open Go.Conc
section
variable {P : Program} {N0 : Nat} {mla : Addr} {ml : Gl} {θ : Th} {Post : Value → World → Prop} {E : Env}
variable {top : Fr} {cs : List Fr} {h : Heap} {nx : Gb.P} {io : AIo} {r : Rs}
theorem after_go (es : Array Event) (g : Goroutine) (w : World) : GStep.after es (.go g w #[]) = .go g w es := by simp [GStep.after]
/-- What 'leave' is, in the model. -/
def LeaveG (P : Program) (jump : Option Code) (f : Frame) (cs : List Frame) (main : Bool) (w : World) : GStep :=
  match f.roundOf with
  | none => .go (G { f with mode := .returning } cs) w #[]
  | some l => GStep.after (seen P f.fn ((Instr.endRound l jump).runT P w #[]).2) (match ((Instr.endRound l jump).runT P w #[]).1 with
      | .ok v w => doReturn P main f cs none v w
      | .halt _ w => .ended (.stuck "range over a function: no such loop" (f.pos P)) w)
theorem leave_nil {f : Frame} {cs : List Frame} {main : Bool} {w : World} (hm : f.mode = .run) (ht : f.todo = []) : stepG P main (G f cs) w = LeaveG P none f cs main w := by
  rw [stepG_run hm]
  unfold LeaveG
  simp only [stepG.exec, ht]
  cases f.roundOf <;> rfl
theorem leave_ret {f : Frame} {cs : List Frame} {main : Bool} {w : World} {k : List Item} (hm : f.mode = .run) (ht : f.todo = .code .ret :: k) : stepG P main (G f cs) w = LeaveG P (some .ret) f cs main w := by
  rw [stepG_run hm]
  unfold LeaveG
  simp only [stepG.exec, ht]
  cases f.roundOf <;> rfl
theorem leave_exit {f : Frame} {cs : List Frame} {main : Bool} {w : World} {k : List Item} {id : Nat} (hm : f.mode = .run) (ht : f.todo = .code (.exit id) :: k) (he : exitTo id k = none) {l : Nat} (hr : f.roundOf = some l) : stepG P main (G f cs) w = LeaveG P (some (.exit id)) f cs main w := by
  rw [stepG_run hm]
  unfold LeaveG
  simp only [stepG.exec, ht, he, hr]
  rfl
theorem SW_endRound {own : Own} {n0 : Nat} {w : World} {b : Nat} {L : Loop} {jump : Option Code} (hb : w.heap[b]? = some (.loop L)) (hm : mine own n0 w b) {Q : Value → World → Prop} (hq : Q (.bool jump.isNone) { w with heap := w.heap.setIfInBounds b (.loop { L with state := if jump.isNone then .ready else .done, pending := jump }) }) : SW P N0 own n0 (Instr.endRound b jump) w Q := by
  unfold Instr.endRound Instr.getLoop
  rw [SW_bind, SW_bind]
  refine SW_getObj hb trivial hm ?_
  show SW P N0 own n0 (setObj b _ >>= _) w Q
  rw [SW_bind]
  exact SW_setObj (ob' := .loop { L with state := if jump.isNone then .ready else .done, pending := jump }) hb trivial hm rfl hq
/-- The frame on top goes. -/
theorem doReturn_cons {f c : Frame} {cs : List Frame} {main : Bool} {w : World} {v : Value} (hk : f.kind = .normal) : doReturn P main f (c :: cs) none v w = .go (G (c.finish v) cs) w #[] := by
  unfold doReturn; simp only [hk]; rfl
theorem okay_leave {jump : Option Code} {fn : Gb.P} {nt : Nat} {regs : Regs} {todo : List AIt} {ds : List ATgt} {md : Md} {dfd : Bool} {rd : Option Gb.P} (hnd : NoDg todo)
    (hst : ∀ σ vs f, FrR P N0 mla ml σ vs ⟨fn, nt, regs, todo, ds, .run, dfd, rd⟩ f → f.roundOf.isSome = rd.isSome → ∀ main cs w, stepG P main (G f cs) w = LeaveG P jump f cs main w)
    (e : leaveK jump ⟨fn, nt, regs, todo, ds, md, dfd, rd⟩ cs h nx io = some r) (hr : Suc P N0 mla ml θ Post E r) : Okay P N0 mla ml θ Post ⟨⟨fn, nt, regs, todo, ds, .run, dfd, rd⟩, cs, h, nx, io⟩ := by
  have rel : ∀ {σ vs f}, FrR P N0 mla ml σ vs ⟨fn, nt, regs, todo, ds, .run, dfd, rd⟩ f → f.roundOf.isSome = rd.isSome := by
    intro σ vs f F
    rcases F.round with ⟨h1, h2⟩ | ⟨_, _, h1, _, h2⟩
    · simp only at h1; rw [h1, h2]; rfl
    · simp only at h1; rw [h1, h2]; rfl
  cases rd with
  | none =>
    have e : some (Rs.go ⟨⟨fn, nt, regs, todo, ds, .returning, dfd, none⟩, cs, h, nx, io⟩) = some r := by
      simp only [leaveK] at e
      split at e
      · exact e
      · exact e
      · cases e
    cases e
    refine okay_move (c' := ⟨⟨fn, nt, regs, todo, ds, .returning, dfd, none⟩, cs, h, nx, io⟩) rfl rfl rfl rfl (fun σ vs f F => ⟨{ f with mode := .returning }, fun main cs w => ?_, ⟨F.fn, F.nt, F.regs, F.todo, F.tail, F.vids, F.defers, trivial, F.kind, F.round⟩⟩) hr
    rw [hst σ vs f F (rel F)]
    have := rel F
    unfold LeaveG
    cases hro : f.roundOf with
    | none => rfl
    | some l => rw [hro] at this; cases this
  | some l =>
    simp only [leaveK] at e
    replace e : getOb (C := Rs) l h _ = some r := e
    obtain ⟨ob, hob, e⟩ := getOb_inv e
    cases ob <;> simp only [reduceCtorEq] at e
    rename_i st pend fn2 nt2 r2 ps a b dd
    cases cs with
    | nil => cases e
    | cons caller rest =>
      obtain ⟨hd, e⟩ : dfd = false ∧ finK (.bool jump.isNone) caller (fun caller => some (.go ⟨caller, rest, T.put (some (.lp (if jump.isNone then .ready else .done) jump fn2 nt2 r2 ps a b dd)) l h, nx, io⟩)) = some r := by
        cases jump with
        | none =>
          replace e : boolK dfd none (T.putK (some (.lp .ready none fn2 nt2 r2 ps a b dd)) l h fun h => finK (.bool true) caller fun caller => some (.go ⟨caller, rest, h, nx, io⟩)) = some r := e
          rcases boolK_cases e with ⟨_, e⟩ | ⟨hd, e⟩
          · cases e
          rw [T.putK_eq] at e
          exact ⟨hd, e⟩
        | some j =>
          replace e : boolK dfd none (T.putK (some (.lp .done (some j) fn2 nt2 r2 ps a b dd)) l h fun h => finK (.bool false) caller fun caller => some (.go ⟨caller, rest, h, nx, io⟩)) = some r := e
          rcases boolK_cases e with ⟨_, e⟩ | ⟨hd, e⟩
          · cases e
          rw [T.putK_eq] at e
          exact ⟨hd, e⟩
      rintro io' own g w ⟨σ, vt, vs, vss, ids, f, fs, rfl, S⟩
      refine beh_go fun w1 ag => ?_
      have S1 := S.agree ag
      obtain ⟨vs1, vss', f1, fs', rfl, rfl, F1, F2⟩ := S1.cs.cons
      have F := S1.top
      have hkd : f.kind = .normal := by have := F.kind; simp only [hd] at this; exact this
      have hv0 : vs = [] := vids_no hnd F.vids
      rcases F.round with ⟨h1, _⟩ | ⟨l', p, h1, hp, hro⟩
      · cases h1
      cases h1
      obtain ⟨o, ho, hor⟩ := S1.ar.obs l p _ hp hob
      cases o <;> simp only [ObR] at hor
      rename_i L
      obtain ⟨g1, g2, g3, g4, g5, g6, g7, g8, g9⟩ := hor
      obtain ⟨v, w', es, k1, k2, rfl, rfl⟩ := SW.sound (P := P) (N0 := N0) (own := own) (n0 := w1.heap.size) (Instr.endRound p.bl jump) #[] (SW_endRound (Q := fun v w' => v = .bool jump.isNone ∧ w' = { w1 with heap := w1.heap.setIfInBounds p.bl (.loop { L with state := if jump.isNone then .ready else .done, pending := jump }) }) ho (S1.ar.has l p _ hp hob) ⟨rfl, rfl⟩)
      have hstep := hst σ vs f F (rel F) io'.main (f1 :: (fs' ++ θ.outer)) w1
      unfold LeaveG at hstep
      rw [hro] at hstep
      simp only [k1] at hstep
      rw [doReturn_cons hkd] at hstep
      obtain ⟨fr', e3, hfin, _⟩ := fin_rel F1 (v := .bool jump.isNone) (u := .bool jump.isNone) rfl e
      cases e3
      have kd := k2.does (P := P) (fn := f.fn)
      refine ⟨_, _, _, _, seen P f.fn (#[] ++ es), hstep.trans (after_go ..), by rw [Array.empty_append]; exact kd, hr _ _ _ _ ⟨σ, vt, vs1, vss', ids, _, fs', rfl, ?_, hfin, F2, S1.io, by rw [S1.vids, hv0]; simp, S1.nodup, S1.hf, S1.kept.does S1.ar.n0le.1 S1.ar.apart kd, mine_lt S1.lt kd.size⟩⟩
      exact (obj_put S1.ar hp hob ho (ob' := .lp (if jump.isNone then .ready else .done) jump fn2 nt2 r2 ps a b dd) (obj' := .loop { L with state := if jump.isNone then .ready else .done, pending := jump }) (by
        simp only [ObR]
        exact ⟨trivial, trivial, g3, g4, g5, g6, g7, g8, g9⟩)).shift
end
end Go.Gb
end
section
/-! What a frame does at its end. -/
set_option linter.unusedSimpArgs false
set_option linter.unusedVariables false
set_option linter.unusedSectionVars false
namespace Go.Gb
open Go.Conc
section
variable {P : Program} {N0 : Nat} {mla : Addr} {ml : Gl} {θ : Th} {Post : Value → World → Prop} {E : Env}
variable {top : Fr} {cs : List Fr} {h : Heap} {nx : Gb.P} {io : AIo} {r : Rs}
theorem stepG_unwind {main : Bool} {f : Frame} {cs : List Frame} {w : World} (hm : f.mode ≠ .run) : stepG P main (G f cs) w = unwind P main f cs none w := by
  obtain ⟨fn, tmps, todo, defers, mode, kind, roundOf⟩ := f
  cases mode with
  | run => exact absurd rfl hm
  | returning => rfl
  | panicking c => rfl
theorem SW_loadVar1 {vt : Vt} {σ : Sg} {own : Own} {n0 : Nat} {w : World} (H : AR N0 mla ml vt σ h nx own n0 w) {id : Gb.P} {p : Pl} {off : Nat} (hp : σ id = some p) {t : TypeId} {d : TypeDesc} (hu : P.underlying t = some d) (hd : aggD d = false) {cs : List V} {el room fz : Nat} {opn : Bool} (hg : T.get id h = some (.row cs el room opn fz)) {v : V} (hv : (cs.drop off).take 1 = [v]) {Q : Value → World → Prop} (hq : ∀ u, VR ml σ v u → Q u w) : SW P N0 own n0 (loadVar t ⟨p.bl, p.sh + off, none⟩) w Q := by
  obtain ⟨xs, h1, _, h2⟩ := H.cells hp hg off 1
  unfold loadVar
  rw [SW_bind, SW_isAgg hu, hd]
  rw [hv] at h1
  match xs, h1 with
  | [x], h1 => exact SW_load (v := x) (by have := h2 0 x rfl; simpa using this) (.inl (H.has id p _ hp hg)) (hq x h1.1)
theorem SW_loadVarN {vt : Vt} {σ : Sg} {own : Own} {n0 : Nat} {w : World} (H : AR N0 mla ml vt σ h nx own n0 w) {id : Gb.P} {p : Pl} {off : Nat} (hp : σ id = some p) {t : TypeId} {d : TypeDesc} {i : TypeInfo} (hu : P.underlying t = some d) (hd : aggD d = true) (hi : P.info? t = some i) {cs : List V} {el room fz : Nat} {opn : Bool} (hg : T.get id h = some (.row cs el room opn fz))
    (hl : ((cs.drop off).take i.size).length = i.size) {Q : Value → World → Prop} (hq : ∀ u, VR ml σ (.agg ((cs.drop off).take i.size)) u → Q u w) : SW P N0 own n0 (loadVar t ⟨p.bl, p.sh + off, none⟩) w Q := by
  obtain ⟨xs, h1, h3, h2⟩ := H.cells hp hg off i.size
  unfold loadVar
  rw [SW_bind, SW_isAgg hu, hd]
  simp only [if_true]
  rw [SW_bind, SW_sizeOf hi, SW_bind]
  have hlen : i.size = xs.length := by rw [← h1.length, hl]
  unfold loadCells
  rw [hlen]
  refine SW_loadCells rfl (.inl (H.has id p _ hp hg)) xs 0 #[] (fun j y hy => h2 j y hy) ?_
  exact hq _ (by simpa [VR] using ⟨h1, h3⟩)
def resF (tmps : Array Value) : ResultVar → Sem Value
  | .tmp t => pure (tmps.getD t undef)
  | .cell a t => do loadVar t (← asAddr (tmps.getD a undef))
theorem resK_inv (hE : E.Tys P) {regs : Regs} : ∀ (rs : List ResultVar) {k : List V → OR} {r : Rs}, resK E rs regs h k = some r → ∃ vs, k vs = some r ∧ ∀ (σ : Sg) (vt : Vt) (nx : Gb.P) (own : Own) (n0 : Nat) (w : World) (tmps : Array Value), AR N0 mla ml vt σ h nx own n0 w → (∀ p v, T.get p regs = some v → VR ml σ v (tmps.getD p.toNat undef)) →
    SW P N0 own n0 (rs.mapM (resF tmps)) w fun us w' => w' = w ∧ VRL ml σ vs us := by
  intro rs
  induction rs with
  | nil => intro k r e; exact ⟨[], e, fun σ vt nx own n0 w tmps H hr => ⟨rfl, trivial⟩⟩
  | cons x rs ih =>
    intro k r e
    cases x with
    | tmp t =>
      replace e : pK t (fun p => opdK (.r p) regs fun v => resK E rs regs h fun vs => k (v :: vs)) = some r := e
      obtain ⟨p, hp, e⟩ := pK_inv e
      obtain ⟨v, hv, e⟩ := opdK_inv e
      obtain ⟨vs, e, hs⟩ := ih e
      refine ⟨v :: vs, e, fun σ vt nx own n0 w tmps H hr => ?_⟩
      rw [List.mapM_cons, SW_bind]
      show SW P N0 own n0 (rs.mapM (resF tmps) >>= _) w _
      rw [SW_bind]
      refine SW.mono (hs σ vt nx own n0 w tmps H hr) ?_
      rintro us w' ⟨rfl, hu⟩
      exact ⟨rfl, by rw [← hp]; exact hr p v hv, hu⟩
    | cell a t =>
      replace e : pK a (fun p => opdK (.r p) regs fun v => ptrK v fun id off => undK E t fun d => sizeK E t fun n => aggK d
        (readK id off n h fun cs => resK E rs regs h fun vs => k (.agg cs :: vs))
        (readK id off 1 h fun cs => lhead cs none fun v => resK E rs regs h fun vs => k (v :: vs))) = some r := e
      obtain ⟨p, hp, e⟩ := pK_inv e
      obtain ⟨v, hv, e⟩ := opdK_inv e
      obtain ⟨id, off, hvv, e2⟩ := ptrK_inv e
      subst hvv
      clear e
      obtain ⟨d, hd, e⟩ := undK_inv hE e2
      obtain ⟨i, hi, e⟩ := sizeK_inv hE e
      rcases aggK_cases e with ⟨hag, e⟩ | ⟨hag, e⟩
      · obtain ⟨cs, el, room, opn, fz, hg, hl, e⟩ := readK_inv e
        obtain ⟨vs, e, hs⟩ := ih e
        refine ⟨_ :: vs, e, fun σ vt nx own n0 w tmps H hr => ?_⟩
        obtain ⟨q, hq, hpy⟩ := vr_ptr (hr p _ hv)
        rw [List.mapM_cons, SW_bind]
        show SW P N0 own n0 (asAddr (tmps.getD a undef) >>= fun ad => loadVar t ad) w _
        rw [SW_bind, ← hp, hpy]
        refine SW_loadVarN H hq hd hag hi hg hl fun u hu => ?_
        show SW P N0 own n0 (rs.mapM (resF tmps) >>= _) w _
        rw [SW_bind]
        refine SW.mono (hs σ vt nx own n0 w tmps H hr) ?_
        rintro us w' ⟨rfl, hus⟩
        exact ⟨rfl, hu, hus⟩
      · obtain ⟨cs, el, room, opn, fz, hg, hl, e⟩ := readK_inv e
        rw [lhead_eq] at e
        generalize hc1 : (cs.drop off).take 1 = c1 at e hl
        match c1, hl, e with
        | [u0], hl, e =>
          obtain ⟨vs, e, hs⟩ := ih e
          refine ⟨u0 :: vs, e, fun σ vt nx own n0 w tmps H hr => ?_⟩
          obtain ⟨q, hq, hpy⟩ := vr_ptr (hr p _ hv)
          rw [List.mapM_cons, SW_bind]
          show SW P N0 own n0 (asAddr (tmps.getD a undef) >>= fun ad => loadVar t ad) w _
          rw [SW_bind, ← hp, hpy]
          refine SW_loadVar1 H hq hd hag hg hc1 fun u hu => ?_
          show SW P N0 own n0 (rs.mapM (resF tmps) >>= _) w _
          rw [SW_bind]
          refine SW.mono (hs σ vt nx own n0 w tmps H hr) ?_
          rintro us w' ⟨rfl, hus⟩
          exact ⟨rfl, hu, hus⟩
/-- What a function's results are. -/
theorem tells (hE : E.Tys P) {f : Func} {regs : Regs} {k : V → OR} (e : (resK E f.results.toList regs h fun vs => tupK vs k) = some r) : ∃ v, k v = some r ∧ Tells P N0 mla ml f regs h v := by
  obtain ⟨vs, e, hs⟩ := resK_inv (N0 := N0) (mla := mla) (ml := ml) hE _ e
  have key : ∀ {σ : Sg} {us : List Value} {v : V}, (∀ k : V → OR, tupK vs k = k v) → VRL ml σ vs us → VR ml σ v (if h : us.toArray.size = 1 then us.toArray[0] else .tuple us.toArray) := by
    intro σ us v hv hu
    match vs, us, hu with
    | [], [], hu =>
      have : V.tup [] = v := by have := hv fun v => some (.done v default); exact (Rs.done.inj (Option.some.inj this)).1
      subst this; exact trivial
    | [a], [b], hu =>
      have : a = v := by have := hv fun v => some (.done v default); exact (Rs.done.inj (Option.some.inj this)).1
      subst this; exact hu.1
    | a :: a2 :: as, b :: b2 :: bs, hu =>
      have : V.tup (a :: a2 :: as) = v := by have := hv fun v => some (.done v default); exact (Rs.done.inj (Option.some.inj this)).1
      subst this
      have : (if h : (b :: b2 :: bs).toArray.size = 1 then (b :: b2 :: bs).toArray[0] else Value.tuple (b :: b2 :: bs).toArray) = .tuple (b :: b2 :: bs).toArray := by simp
      rw [this]; exact hu
  obtain ⟨v, hv, e⟩ : ∃ v, (∀ k : V → OR, tupK vs k = k v) ∧ k v = some r := by
    match vs, e with
    | [], e => exact ⟨_, fun _ => rfl, e⟩
    | [a], e => exact ⟨_, fun _ => rfl, e⟩
    | a :: a2 :: as, e => exact ⟨_, fun _ => rfl, e⟩
  refine ⟨v, e, fun σ vt nx own n0 w tmps H hr => ?_⟩
  have hm : ∀ (F : ResultVar → Sem Value), f.results.mapM F = (do let us ← f.results.toList.mapM F; pure us.toArray) := by
    intro F
    rw [Array.mapM_eq_mapM_toList]; rfl
  have hF : (fun (x : ResultVar) => match x with | .tmp t => (pure (tmps.getD t undef) : Sem Value) | .cell a t => do loadVar t (← asAddr (tmps.getD a undef))) = resF tmps := by
    funext x; cases x <;> rfl
  unfold results
  rw [SW_bind, hm, SW_bind]
  refine SW.mono (Q := fun us w' => w' = w ∧ VRL ml σ vs us) ?_ ?_
  · have := hs σ vt nx own n0 w tmps H hr
    rw [← hF] at this
    exact this
  · rintro us w' ⟨rfl, hu⟩
    exact ⟨rfl, key hv hu⟩
end
end Go.Gb
end
section
/-! Returning, unwinding. -/
set_option linter.unusedSimpArgs false
set_option linter.unusedVariables false
set_option linter.unusedSectionVars false
namespace Go.Gb
open Go.Conc
theorem chr_drop {ml : Gl} {σ : Sg} : ∀ {l : List PE} {c : List PanicEntry}, ChR ml σ l c → c.dropWhile (!·.goexit) = []
  | [], [], _ => rfl
  | a :: l, b :: c, h => by
    rw [List.dropWhile_cons]
    simp only [h.1.2.2, Bool.not_false, if_true]
    exact chr_drop h.2
theorem returnK_cons {v : V} {top caller : Fr} {rest : List Fr} {h : Heap} {nx : Gb.P} {io : AIo} {r : Rs} (e : returnK v top (caller :: rest) h nx io = some r) : (top.dfd = false ∧ finK v caller (fun caller => some (.go ⟨caller, rest, h, nx, io⟩)) = some r) ∨
    (top.dfd = true ∧ ((∃ pv older, caller.md = .panicking (⟨pv, true⟩ :: older) ∧ r = .go ⟨{ caller with md := .returning }, rest, h, nx, io⟩) ∨ ((∀ c, caller.md ≠ .panicking c) ∧ r = .go ⟨caller, rest, h, nx, io⟩))) := by
  unfold returnK at e
  rcases boolK_cases e with ⟨hd, e2⟩ | ⟨hd, e2⟩
  · refine .inr ⟨hd, ?_⟩
    clear e
    obtain ⟨cfn, cnt, cregs, ctodo, cds, cmd, cdfd, crd⟩ := caller
    simp only at e2
    split at e2
    · exact .inl ⟨_, _, rfl, (Option.some.inj e2).symm⟩
    · cases e2
    · rename_i _ hne
      exact .inr ⟨fun c hc => hne c hc, (Option.some.inj e2).symm⟩
  · exact .inl ⟨hd, e2⟩
section
variable {P : Program} {N0 : Nat} {mla : Addr} {ml : Gl} {θ : Th} {Post : Value → World → Prop} {E : Env}
variable {top : Fr} {cs : List Fr} {h : Heap} {nx : Gb.P} {io : AIo} {r : Rs}
theorem doReturn_def {f c : Frame} {cs : List Frame} {main : Bool} {w : World} {v : Value} (hk : f.kind = .deferred) : doReturn P main f (c :: cs) none v w = .go (G (match c.mode with
        | .panicking ({ recovered := true, .. } :: older) => (match older.dropWhile (!·.goexit) with
          | [] => { c with mode := .returning }
          | rest => { c with mode := .panicking rest })
        | _ => c) cs) w #[] := by
  unfold doReturn; simp only [hk]; rfl
theorem okay_return (hF : FunOk P E) (hE : E.Tys P) {fn : Gb.P} {nt : Nat} {regs : Regs} {todo : List AIt} {dfd : Bool} (hnd : NoDg todo)
    (e : (optK (T.get fn E.funs) none fun f => resK E f.results.toList regs h fun vs => tupK vs fun v => returnK v ⟨fn, nt, regs, todo, [], .returning, dfd, none⟩ cs h nx io) = some r) (hr : Suc P N0 mla ml θ Post E r) : Okay P N0 mla ml θ Post ⟨⟨fn, nt, regs, todo, [], .returning, dfd, none⟩, cs, h, nx, io⟩ := by
  obtain ⟨fd, hfd, e⟩ := optK_inv e
  obtain ⟨hp, _⟩ := hF.funs fn fd hfd
  obtain ⟨v, e, ht⟩ := tells (P := P) (N0 := N0) (mla := mla) (ml := ml) hE e
  cases cs with
  | nil =>
    replace e : some (Rs.done v ⟨⟨fn, nt, regs, todo, [], .returning, dfd, none⟩, [], h, nx, io⟩) = some r := e
    cases e
    exact hr ⟨hnd, rfl, rfl, rfl, rfl, fd, hfd, ht⟩
  | cons caller rest =>
    rintro io' own g w ⟨σ, vt, vs, vss, ids, f, fs, rfl, S⟩
    refine beh_go fun w1 ag => ?_
    have S1 := S.agree ag
    obtain ⟨vs1, vss', f1, fs', rfl, rfl, F1, F2⟩ := S1.cs.cons
    have F := S1.top
    have hv0 : vs = [] := vids_no hnd F.vids
    have hmd : f.mode = .returning := by
      have := F.md
      cases hm : f.mode <;> rw [hm] at this <;> first | rfl | exact this.elim
    have hdf : f.defers = [] := by
      have := F.defers
      cases hd : f.defers with
      | nil => rfl
      | cons a b => rw [hd] at this; exact this.elim
    have hfn : f.fn = fn.toNat := F.fn
    obtain ⟨u, w', es, k1, k2, rfl, hu⟩ := SW.sound (P := P) (N0 := N0) (own := own) (n0 := w1.heap.size) (results fd f.tmps) #[] (ht σ vt nx own w1.heap.size w1 f.tmps S1.ar fun p v hpv => F.regs p v hpv (by rw [pnd_no hnd]; exact fun x => x))
    have hstep : stepG P io'.main (G f (f1 :: fs' ++ θ.outer)) w' = GStep.after (seen P f.fn (#[] ++ es)) (doReturn P io'.main f (f1 :: (fs' ++ θ.outer)) none u w') := by
      rw [stepG_unwind (by rw [hmd]; exact fun x => by cases x)]
      unfold unwind
      simp only [hdf, hmd, hfn, hp, k1]
      rfl
    have kd := k2.does (P := P) (fn := f.fn)
    have har := S1.ar.shift
    have kept := S1.kept.does S1.ar.n0le.1 S1.ar.apart kd
    have fin : ∀ (caller' : Fr) (f1' : Frame), doReturn P io'.main f (f1 :: (fs' ++ θ.outer)) none u w' = .go (G f1' (fs' ++ θ.outer)) w' #[] → FrR P N0 mla ml σ vs1 caller' f1' → Okay P N0 mla ml θ Post ⟨caller', rest, h, nx, io⟩ →
        ∃ own' f' cs' w2 es, stepG P io'.main (G f (f1 :: fs' ++ θ.outer)) w' = .go (G f' cs') w2 es ∧ Does N0 own own' w' w2 es ∧ FBeh P N0 ml θ Post io' own' (G f' cs') w2 := by
      intro caller' f1' h1 h2 h3
      exact ⟨_, _, _, _, seen P f.fn (#[] ++ es), hstep.trans (by rw [h1]; exact after_go ..), by rw [Array.empty_append]; exact kd, h3 _ _ _ _ ⟨σ, vt, vs1, vss', ids, _, fs', rfl, har, h2, F2, S1.io, by rw [S1.vids, hv0]; simp, S1.nodup, S1.hf, kept, mine_lt S1.lt kd.size⟩⟩
    rcases returnK_cons e with ⟨hd, e⟩ | ⟨hd, ⟨pv, older, hcmd, rfl⟩ | ⟨hne, rfl⟩⟩
    · have hkd : f.kind = .normal := by have := F.kind; simp only at hd; simp only [hd] at this; exact this
      obtain ⟨fr', e3, hfin, _⟩ := fin_rel F1 hu e
      cases e3
      exact fin fr' _ (doReturn_cons hkd) hfin hr
    · have hkd : f.kind = .deferred := by have := F.kind; simp only at hd; simp only [hd] at this; exact this
      have hcm := F1.md
      rw [hcmd] at hcm
      generalize hmm : f1.mode = m1 at hcm
      cases m1 <;> (try exact hcm.elim)
      rename_i chain
      cases chain with
      | nil => exact hcm.elim
      | cons pe chain =>
        obtain ⟨⟨q1, q2, q3⟩, q4⟩ := hcm
        obtain ⟨a1, a2, a3⟩ := pe
        simp only at q2
        subst q2
        refine fin { caller with md := .returning } { f1 with mode := .returning } ?_ ⟨F1.fn, F1.nt, F1.regs, F1.todo, F1.tail, F1.vids, F1.defers, trivial, F1.kind, F1.round⟩ hr
        rw [doReturn_def hkd, hmm]
        simp only [chr_drop q4]
    · have hkd : f.kind = .deferred := by have := F.kind; simp only at hd; simp only [hd] at this; exact this
      have hcm := F1.md
      refine fin _ f1 ?_ F1 hr
      rw [doReturn_def hkd]
      cases hc : caller.md with
      | run => rw [hc] at hcm; cases hmm : f1.mode <;> rw [hmm] at hcm <;> first | rfl | exact hcm.elim
      | returning => rw [hc] at hcm; cases hmm : f1.mode <;> rw [hmm] at hcm <;> first | rfl | exact hcm.elim
      | panicking c => exact absurd hc (hne c)
end
end Go.Gb
end
section
/-! Unwinding. -/
set_option linter.unusedSimpArgs false
set_option linter.unusedVariables false
set_option linter.unusedSectionVars false
namespace Go.Gb
open Go.Conc
section
variable {P : Program} {N0 : Nat} {mla : Addr} {ml : Gl} {θ : Th} {Post : Value → World → Prop} {E : Env}
variable {top : Fr} {cs : List Fr} {h : Heap} {nx : Gb.P} {io : AIo} {r : Rs}
theorem mdR_run {σ : Sg} {md : Md} {m : FrameMode} (h : MdR ml σ md m) (hm : md ≠ .run) : m ≠ .run := by
  intro e; subst e
  cases md <;> first | exact hm rfl | exact h.elim
theorem its_no_call {σ : Sg} {nt : Nat} {l : List AIt} {k : List Item} (h : ItsR P N0 mla ml σ nt l k) : ∀ d b s v k', k ≠ .call d b s v :: k' := by
  rintro d b s v k' rfl
  cases l with
  | nil => exact h.elim
  | cons a l => cases a <;> exact h.1.elim
theorem catches_no {σ : Sg} {vs : List Gb.P} {fr : Fr} {f : Frame} (F : FrR P N0 mla ml σ vs fr f) : f.catches P = false := by
  have := its_no_call F.todo
  unfold Frame.catches
  split
  · rename_i h2; exact absurd h2 (this _ _ _ _ _)
  · rfl
theorem SW_take {own : Own} {n0 : Nat} {w : World} {b : Nat} {ds : List Deferred} (hb : w.heap[b]? = some (.deferred (some ds))) (hm : mine own n0 w b) {Q : List Deferred → World → Prop} (hq : Q ds { w with heap := w.heap.setIfInBounds b (.deferred none) }) : SW P N0 own n0 (Instr.takeDeferred b) w Q := by
  unfold Instr.takeDeferred
  rw [SW_bind]
  refine SW_getObj hb trivial hm ?_
  show SW P N0 own n0 (setObj b _ >>= _) w Q
  rw [SW_bind]
  exact SW_setObj (ob' := .deferred none) hb trivial hm rfl hq
theorem okay_unwind (hF : FunOk P E) (hX : ExtsOk P E mla ml) (hE : E.Tys P) {fn : Gb.P} {nt : Nat} {regs : Regs} {todo : List AIt} {ds : List ATgt} {md : Md} {dfd : Bool} {rd : Option Gb.P} (hmd : md ≠ .run)
    (e : unwindK E ⟨fn, nt, regs, todo, ds, md, dfd, rd⟩ cs h nx io = some r) (hr : Suc P N0 mla ml θ Post E r) : Okay P N0 mla ml θ Post ⟨⟨fn, nt, regs, todo, ds, md, dfd, rd⟩, cs, h, nx, io⟩ := by
  cases ds with
  | cons d ds =>
    cases d with
    | coll id =>
      replace e : getOb (C := Rs) id h (fun o => match o with
        | .dfr true => T.putK (some (.dfr false)) id h fun h => some (.go ⟨⟨fn, nt, regs, todo, ds, md, dfd, rd⟩, cs, h, nx, io⟩)
        | _ => none) = some r := e
      obtain ⟨ob, hob, e2⟩ := getOb_inv e
      clear e
      split at e2
      case h_2 => cases e2
      rw [T.putK_eq] at e2
      cases e2
      rintro io' own g w ⟨σ, vt, vs, vss, ids, f, fs, rfl, S⟩
      refine beh_go fun w1 ag => ?_
      have S1 := S.agree ag
      have F := S1.top
      have hd := F.defers
      cases hfd : f.defers with
      | nil => rw [hfd] at hd; exact hd.elim
      | cons d0 ds0 =>
        rw [hfd] at hd
        obtain ⟨⟨p, hp, htg⟩, hds⟩ := hd
        obtain ⟨tg, ar⟩ := d0
        simp only at htg
        subst htg
        obtain ⟨o, ho, hor⟩ := S1.ar.obs id p _ hp hob
        cases o <;> simp only [ObR, if_true] at hor
        subst hor
        obtain ⟨u, w', es, k1, k2, rfl, rfl⟩ := SW.sound (P := P) (N0 := N0) (own := own) (n0 := w1.heap.size) (Instr.takeDeferred p.bl) #[] (SW_take (Q := fun v w' => v = [] ∧ w' = { w1 with heap := w1.heap.setIfInBounds p.bl (.deferred none) }) ho (S1.ar.has id p _ hp hob) ⟨rfl, rfl⟩)
        have hstep : stepG P io'.main (G f (fs ++ θ.outer)) w1 = GStep.after (seen P f.fn (#[] ++ es)) (.go (G { f with defers := ds0 } (fs ++ θ.outer)) { w1 with heap := w1.heap.setIfInBounds p.bl (.deferred none) } #[]) := by
          rw [stepG_unwind (mdR_run F.md hmd)]
          unfold unwind
          simp only [hfd, k1]
          rfl
        have kd := k2.does (P := P) (fn := f.fn)
        refine ⟨_, _, _, _, seen P f.fn (#[] ++ es), hstep.trans (after_go ..), by rw [Array.empty_append]; exact kd, hr _ _ _ _ ⟨σ, vt, vs, vss, ids, _, fs, rfl, ?_, ⟨F.fn, F.nt, F.regs, F.todo, F.tail, F.vids, hds, F.md, F.kind, F.round⟩, S1.cs, S1.io, S1.vids, S1.nodup, S1.hf, S1.kept.does S1.ar.n0le.1 S1.ar.apart kd, mine_lt S1.lt kd.size⟩⟩
        exact (obj_put S1.ar hp hob ho (ob' := .dfr false) (obj' := .deferred none) (by simp only [ObR]; rfl)).shift
    | close c =>
      simp only [unwindK] at e
      split at e
      case h_2 => cases e
      split at e
      case isFalse => cases e
      rename_i hcc
      subst hcc
      obtain ⟨hd, e⟩ := boolK_inv e
      obtain ⟨fd, hfd, e⟩ := optK_inv e
      split at e
      case h_2 => cases e
      rename_i hres
      cases e
      exact hr ⟨fn, nt, regs, todo, _, dfd, rd, h, nx, _, fd, rfl, hd, hfd, hres⟩
    | fn g args =>
      replace e : enterK E g args true ⟨fn, nt, regs, todo, ds, md, dfd, rd⟩ cs h nx io = some r := e
      rintro io' own gg w ⟨σ, vt, vs, vss, ids, f, fs, rfl, S⟩
      refine beh_go fun w1 ag => ?_
      have S1 := S.agree ag
      have F := S1.top
      have hd := F.defers
      cases hfd : f.defers with
      | nil => rw [hfd] at hd; exact hd.elim
      | cons d0 ds0 =>
        rw [hfd] at hd
        obtain ⟨⟨caps, htg, hargs⟩, hds⟩ := hd
        obtain ⟨tg, ar⟩ := d0
        simp only at htg hargs
        subst htg
        obtain ⟨nxt, w', es, k1, k2, rfl, hout⟩ := SW.sound (P := P) (N0 := N0) (own := own) (n0 := w1.heap.size) (callFunc g.toNat (ar ++ caps)) #[] (enter_sw hF hX (N0 := N0) (mla := mla) (w := w1) S1.ar.glob hargs e)
        rcases hout with ⟨g2, us, top', rfl, rfl, hT⟩ | ⟨hf, _⟩ | ⟨hf, _⟩
        · have hstep : stepG P io'.main (G f (fs ++ θ.outer)) w' = GStep.after (seen P f.fn (#[] ++ es)) (.go (G (Frame.enter P g2 us .deferred) ({ f with defers := ds0 } :: (fs ++ θ.outer))) w' #[]) := by
            rw [stepG_unwind (mdR_run F.md hmd)]
            unfold unwind
            simp only [hfd]
            unfold callDeferred
            have hinv : invoke (.fn (.func g.toNat) caps) ar = callFunc g.toNat (ar ++ caps) := rfl
            simp only [Bool.false_and, Bool.false_eq_true, if_false, hinv, k1]
            rfl
          have kd := k2.does (P := P) (fn := f.fn)
          refine ⟨_, _, { f with defers := ds0 } :: fs ++ θ.outer, _, seen P f.fn (#[] ++ es), hstep.trans (after_go ..), by rw [Array.empty_append]; exact kd, hr _ _ _ _ ⟨σ, vt, [], vs :: vss, ids, _, { f with defers := ds0 } :: fs, rfl, S1.ar.shift, hT, ⟨⟨F.fn, F.nt, F.regs, F.todo, F.tail, F.vids, hds, F.md, F.kind, F.round⟩, S1.cs⟩, S1.io, by rw [S1.vids]; simp, S1.nodup, S1.hf, S1.kept.does S1.ar.n0le.1 S1.ar.apart kd, mine_lt S1.lt kd.size⟩⟩
        · cases hf
        · cases hf
  | nil =>
    have hnd : NoDg todo := by
      cases todo with
      | nil => trivial
      | cons a l => cases a <;> first | trivial | cases e
    cases md with
    | run => exact absurd rfl hmd
    | returning =>
      have e : (match (generalizing := false) rd with
        | some _ => none
        | none => optK (T.get fn E.funs) none fun f => resK E f.results.toList regs h fun vs => tupK vs fun v => returnK v ⟨fn, nt, regs, todo, [], .returning, dfd, none⟩ cs h nx io) = some r := by
        cases todo with
        | nil => exact e
        | cons a l => cases a <;> first | exact e | cases e
      cases rd with
      | some l => cases e
      | none => exact okay_return hF hE hnd e hr
    | panicking chain =>
      have e : (List.rec (motive := fun _ => OR) none (fun caller rest _ => match caller with
          | ⟨fn, nt, regs, todo, ds, md, dfd, rd⟩ => match md with
            | .panicking _ => none
            | _ => some (.go ⟨⟨fn, nt, regs, todo, ds, .panicking chain, dfd, rd⟩, rest, h, nx, io⟩)) cs) = some r := by
        cases todo with
        | nil => exact e
        | cons a l => cases a <;> first | exact e | cases e
      cases cs with
      | nil => cases e
      | cons caller rest =>
        obtain ⟨hne, rfl⟩ : (∀ c, caller.md ≠ .panicking c) ∧ r = .go ⟨{ caller with md := .panicking chain }, rest, h, nx, io⟩ := by
          obtain ⟨cfn, cnt, cregs, ctodo, cds, cmd, cdfd, crd⟩ := caller
          cases cmd with
          | panicking c => cases e
          | run => exact ⟨fun c h => (by cases h), (Option.some.inj e).symm⟩
          | returning => exact ⟨fun c h => (by cases h), (Option.some.inj e).symm⟩
        rintro io' own g w ⟨σ, vt, vs, vss, ids, f, fs, rfl, S⟩
        refine beh_go fun w1 ag => ?_
        have S1 := S.agree ag
        obtain ⟨vs1, vss', f1, fs', rfl, rfl, F1, F2⟩ := S1.cs.cons
        have F := S1.top
        have hv0 : vs = [] := vids_no hnd F.vids
        have hch := F.md
        simp only at hch
        generalize hmm : f.mode = m at hch
        cases m <;> (try exact hch.elim)
        rename_i chain'
        have hdf : f.defers = [] := by
          have := F.defers
          cases hd : f.defers with
          | nil => rfl
          | cons a b => rw [hd] at this; exact this.elim
        have hraise : f1.raise chain' = { f1 with mode := .panicking chain' } := by
          unfold Frame.raise
          have := F1.md
          cases hm1 : f1.mode with
          | run => rfl
          | returning => rfl
          | panicking c => rw [hm1] at this; cases hcm : caller.md <;> rw [hcm] at this <;> first | exact this.elim | exact absurd hcm (hne _)
        have hstep : stepG P io'.main (G f (f1 :: fs' ++ θ.outer)) w1 = .go (G { f1 with mode := .panicking chain' } (fs' ++ θ.outer)) w1 #[] := by
          rw [stepG_unwind (mdR_run F.md hmd)]
          unfold unwind
          simp only [hdf, hmm, catches_no F, Bool.false_eq_true, if_false, ← hraise]
          rfl
        exact ⟨own, _, _, _, #[], hstep, does_refl, hr _ _ _ _ ⟨σ, vt, vs1, vss', ids, _, fs', rfl, S1.ar, ⟨F1.fn, F1.nt, F1.regs, F1.todo, F1.tail, F1.vids, F1.defers, hch, F1.kind, F1.round⟩, F2, S1.io, by rw [S1.vids, hv0]; simp, S1.nodup, S1.hf, S1.kept, S1.lt⟩⟩
end
end Go.Gb
end
