/- A part of the proof of the statement Rows.TopMissingCardSaid (at every argument the law returns true on every schedule, and its argument reads as before; the listed variables as laid). This text: a stepper over symbolic states of the translated program and its soundness, part 37 of 41. -/
import Derived.Test.YtgabhijnigpbdaaGreatDoorM36
section
/-! A worker, from its birth to its end. -/
set_option linter.unusedSimpArgs false
set_option linter.unusedVariables false
set_option linter.unusedSectionVars false
namespace Go.Gb
open Go.Conc
/-- Below every worker: the frame it was born with. -/
def bornF (P : Program) : Frame := { (default : Frame) with fn := P.funcs.size, defers := [], mode := .panicking [goexitEntry] }
section
variable {P : Program} {N0 : Nat} {mla : Addr} {ml : Gl} {Post : Value → World → Prop} {E : Env}
theorem quits_born : QuitsIn P 1 (G (bornF P) []) := by
  right
  refine ⟨rfl, { frame := bornF P, callers := [], status := .finished, dying := none }, fun w => ?_, rfl⟩
  have hcat : (bornF P).catches P = false := by
    unfold Frame.catches
    have h1 : P.funcs[(bornF P).fn]? = none := by show P.funcs[P.funcs.size]? = none; simp
    rw [h1]
    rfl
  rw [stepG_unwind (by unfold bornF; exact fun h => by cases h)]
  unfold unwind
  simp only [hcat, show (bornF P).defers = [] from rfl, show (bornF P).mode = .panicking [goexitEntry] from rfl, Bool.false_eq_true, if_false]
  rfl
/-- The worker's last step but its leaving. -/
theorem work_fin (hF : FunOk P E) {c : Cfg} (hfin : FinIs E c) {θ : Th} (hout : θ.outer = [bornF P]) (hfree : θ.Free) (htot : θ.total = []) : Okay P N0 mla ml θ Post c := by
  obtain ⟨fn, nt, regs, todo, ch, dfd, rd, h, nx, e, fd, rfl, rfl, hfd, hres⟩ := hfin
  rintro io own g w ⟨σ, vt, vs, vss, ids, f, fs, rfl, S⟩
  refine FBeh.of (Beh.intro P N0 (MsgR N0 ml) Post ⟨rfl, fun w1 ag => ?_⟩) hfree
  have S1 := S.agree ag
  have hfs : fs = [] := by
    have := S1.cs
    cases vss <;> cases fs <;> first | rfl | exact this.elim
  subst hfs
  have F := S1.top
  have hio := S1.io
  generalize hioe : (⟨⟨fn, nt, regs, todo, [.close ch], .returning, true, rd⟩, [], h, nx, AIo.work ch e⟩ : Cfg).io = ioe at hio
  cases hio with
  | solo => cases hioe
  | off => cases hioe
  | duo => cases hioe
  | @work c2 e2 cb eb p q hc hb he hq hids hz =>
    cases hioe
    subst hb
    obtain ⟨hp1, _⟩ := hF.funs fn fd hfd
    have hfn : f.fn = fn.toNat := F.fn
    have hmd : f.mode = .returning := by
      have := F.md
      cases hm : f.mode <;> rw [hm] at this <;> first | rfl | exact this.elim
    have hkd : f.kind = .deferred := F.kind
    have hd := F.defers
    cases hdf : f.defers with
    | nil => rw [hdf] at hd; exact hd.elim
    | cons d0 ds0 =>
      rw [hdf] at hd
      obtain ⟨⟨p', ats, ty, cs, hp', htg, hargs⟩, hds⟩ := hd
      rw [hc] at hp'; cases hp'
      have hds0 : ds0 = [] := by cases ds0 with | nil => rfl | cons => exact hds.elim
      subst hds0
      obtain ⟨tg, ar⟩ := d0
      simp only at htg hargs
      subst htg hargs
      rw [htot]
      refine .close (g' := G { f with defers := [] } [bornF P]) (n := 2) ?_ (fun s r tm hch => ?_) ?_
      · unfold mayWake
        simp only [G, hmd]
      · rw [hout]
        rw [stepG_unwind (by rw [hmd]; exact fun x => by cases x)]
        unfold unwind
        simp only [hdf]
        unfold callDeferred
        have hrun : (invoke (.builtin .close ats ty cs) #[.chan (some p.bl)]).runT P w1 #[] = (.ok (.value (.tuple #[])) (w1.setChan p.bl 0 #[] true s r tm), #[⟨.obj p.bl, false, true⟩, ⟨.obj p.bl, true, true⟩]) := by
          have hcl : Builtin.close_ ats ty #[.chan (some p.bl)] = (getObj p.bl >>= fun o => match o with
              | .chan room buf closed sent received timer => (if closed then runtimePanic (.plain "close of closed channel") else do
                  setObj p.bl (.chan room buf true sent received timer)
                  pure (.tuple #[]))
              | _ => stuck "close: no channel in this block") := by
            conv => lhs; whnf
            rfl
          show (Builtin.close_ ats ty #[.chan (some p.bl)] >>= fun v => pure (.value v) : Sem Next).runT P w1 #[] = _
          rw [hcl]
          simp [getObj, setObj, Sem.runT, bind, Sem.bind, pure, hch, World.setChan, -Sem.runT_eq]
          exact ⟨rfl, rfl⟩
        have hseen : seen P f.fn #[⟨.obj p.bl, false, true⟩, ⟨.obj p.bl, true, true⟩] = #[⟨.obj p.bl, false, true⟩, ⟨.obj p.bl, true, true⟩] := by
          simp [seen]
        simp only [Bool.false_and, Bool.false_eq_true, if_false, hrun, hseen]
        rfl
      · right
        refine ⟨rfl, G (bornF P) [], fun w => ?_, quits_born⟩
        rw [stepG_unwind (by show f.mode ≠ .run; rw [hmd]; exact fun x => by cases x)]
        unfold unwind
        have hrs : fd.results = #[] := by
          cases hr : fd.results with
          | mk l => rw [hr] at hres; simp at hres; subst hres; rfl
        have hrr : (results fd f.tmps).runT P w #[] = (.ok (.tuple #[]) w, #[]) := by
          unfold results
          rw [hrs]
          simp [Array.mapM_eq_mapM_toList, Sem.runT, bind, Sem.bind, pure, Functor.map, -Sem.runT_eq]
        simp only [hmd, hfn, hp1, hrr, seen_none, after_none]
        have := doReturn_def (P := P) (f := { f with defers := [] }) (c := bornF P) (cs := []) (main := false) (w := w) (v := .tuple #[]) hkd
        simp only [hmd, hfn] at this
        rw [this]
        rfl
/-- A worker that the evaluator has followed behaves. -/
theorem work_ok (hF : FunOk P E) {st : Cfg → OR} (hst : StOk P N0 mla ml Post E st) (n : Nat) {sub : Gb.P → List V → Heap → Gb.P → OR → (V → Heap → Gb.P → OR) → OR} (hsub : SubOk P N0 mla ml Post E sub) : GkOk P N0 mla ml Post E ⟨work E st n, sub⟩ := by
  refine ⟨hsub, fun g s c e nx k r h => ?_⟩
  unfold work at h
  simp only at h
  obtain ⟨fd, hfd, h⟩ := optK_inv h
  obtain ⟨hp1, hname⟩ := hF.funs g fd hfd
  split at h
  case h_2 => cases h
  rename_i b hb
  rw [natK_eq] at h
  obtain ⟨hn, h⟩ := boolK_inv h
  obtain ⟨regs, h, hregs⟩ := argsK_inv (R := Unit) _ _ _ h
  obtain ⟨ms, nx', h, hok⟩ := workB_suc (P := P) (N0 := N0) (mla := mla) (ml := ml) (Post := Post) (E := E) (fun θ hz c r e hr => iterS_suc (fun c r e hr => hst θ c r hz e hr) n e hr) 4096 h
  refine ⟨ms, nx', h, fun pc pe us w hce hc1 he1 hc2 he2 hpl hv hg1 hg2 hN => ?_⟩
  have hlen : [s, V.chan c, .chan e].length ≤ fd.ntmps := by have := Nat.le_of_ble_eq_true hn; rw [llen_eq] at this; omega
  refine Beh.intro P N0 (MsgR N0 ml) Post ⟨rfl, fun w1 ag => ?_⟩
  have hcall : (callFunc g.toNat (us ++ #[])).runT P w1 #[] = (.ok (.enter g.toNat us) w1, #[]) := by
    have : (us ++ #[] : Array Value) = us := by simp
    rw [this]
    have hst : Still P (callFunc g.toNat us) (.enter g.toNat us) := by
      unfold callFunc
      refine Still.program.bind ?_
      simp only [hp1, hname, Bool.false_eq_true, if_false, hb, Option.isNone_some]
      exact Still.pure
    exact hst w1 #[]
  have hstep : stepG P false (born P g.toNat us) w1 = .go (G (Frame.enter P g.toNat us .deferred) [bornF P]) w1 #[] := by
    unfold born
    rw [stepG_unwind (by exact fun h => by cases h)]
    unfold unwind callDeferred
    have hinv : invoke (.fn (.func g.toNat) #[]) us = callFunc g.toNat (us ++ #[]) := rfl
    simp only [Bool.false_and, Bool.false_eq_true, if_false, hinv, hcall, seen_none, after_none]
    rfl
  let θ : Th := { outer := [bornF P], ov := [], hf := .nil, total := [], w0 := w1, X := fun _ => False, io0 := .solo }
  have hfree : ∀ ms, Th.Free { θ with total := ms } := fun ms => ⟨rfl, fun b hb => hb⟩
  have hO := hok θ rfl (fun c' hf => work_fin hF hf rfl (hfree []) rfl)
  refine .go (own' := fun _ => False) hstep rfl ⟨rfl, rfl, rfl, Nat.le_refl _, fun _ _ _ => rfl, fun _ h => h.elim, fun _ h => .inl h, by simp, by simp⟩ ?_
  refine FBeh.off (θ := { θ with total := ms }) (hO _ _ _ _ ⟨two c e pc pe, ⟨[], .nil⟩, [], [], [], Frame.enter P g.toNat us .deferred, [], rfl, ?_⟩) (hfree ms)
  have tw : ∀ id p, two c e pc pe id = some p → (id = c ∧ p = pc) ∨ (id = e ∧ p = pe) := by
    intro id p hp
    unfold two at hp
    split at hp
    · cases hp; exact .inl ⟨‹_›, rfl⟩
    · split at hp
      · cases hp; exact .inr ⟨‹_›, rfl⟩
      · cases hp
  refine ⟨⟨fun id p hp => ?_, fun id p ob _ hob => (by rw [T.get_nil] at hob; cases hob), fun id p hp => ?_, fun id ob hob => (by rw [T.get_nil] at hob; cases hob), fun id id' p p' o1 o2 _ _ h1 => (by rw [T.get_nil] at h1; cases h1), fun id p ob _ hob => (by rw [T.get_nil] at hob; cases hob), fun id hid => (by simp at hid), fun id p ob _ hob => (by rw [T.get_nil] at hob; cases hob), fun id id' p p' o1 o2 _ _ h1 => (by rw [T.get_nil] at h1; cases h1), fun id p ob _ hob => (by rw [T.get_nil] at hob; cases hob), fun id ob hob => (by rw [T.get_nil] at hob; cases hob), ⟨hg1, ?_⟩, ⟨Nat.le_trans hN ag.size, Nat.le_refl _⟩, fun b hb => hb.elim⟩,
    enter_rel hF hfd hb hv hlen (fun p v hpv => ?_) true, trivial, .work (p := pc) (q := pe) (by simp [two]) rfl (by simp [two, Ne.symm hce]) rfl rfl (hfree ms), rfl, List.nodup_nil, rfl, ⟨rfl, rfl, rfl, Nat.le_refl _, fun _ _ => rfl⟩, fun b hb => hb.elim⟩
  · rcases tw id p hp with ⟨_, rfl⟩ | ⟨_, rfl⟩
    · exact Nat.lt_of_lt_of_le hc2 ag.size
    · exact Nat.lt_of_lt_of_le he2 ag.size
  · rcases tw id p hp with ⟨rfl, _⟩ | ⟨rfl, _⟩
    · exact hc1
    · exact he1
  · unfold World.cell? at hg2 ⊢
    rw [ag.base _ hg1]; exact hg2
  · rcases hregs p v hpv with ⟨j, h1, h2⟩ | h1
    · exact ⟨j, h1.trans (Nat.zero_add j), h2⟩
    · rw [T.get_nil] at h1; cases h1
end
end Go.Gb
end
section
/-! The run's end. -/
set_option linter.unusedSimpArgs false
set_option linter.unusedVariables false
set_option linter.unusedSectionVars false
namespace Go.Gb
open Go.Conc
section
variable {P : Program} {N0 : Nat} {mla : Addr} {ml : Gl} {E : Env} {θ : Th}
theorem done_ok (hF : FunOk P E) {Post : Value → World → Prop} {g0 : Gb.P} {fd : Func} {t : Nat} (hg0 : T.get g0 E.funs = some fd) (hres : fd.results = #[.tmp t]) (hini : P.inits.idxOf? g0.toNat = none) (hout : θ.outer = []) (hfree : θ.Free) (hpost : ∀ w, Kept N0 θ.w0 w → Post (.bool true) w)
    {v : V} {c : Cfg} (hv : goodV v = true) (hfn : c.top.fn = g0) (hio : c.io = .solo) (hd : DoneIs P N0 mla ml E v c) : Okay P N0 mla ml θ Post c := by
  obtain ⟨hnd, hcs, hmd, hdf, hrd, fd', hfd', ht⟩ := hd
  rw [hfn, hg0] at hfd'
  cases hfd'
  obtain ⟨hp1, _⟩ := hF.funs g0 fd hg0
  rintro io own g w ⟨σ, vt, vs, vss, ids, f, fs, rfl, S⟩
  refine FBeh.of (Beh.intro P N0 (MsgR N0 ml) Post ⟨rfl, fun w1 ag => ?_⟩) hfree
  have S1 := S.agree ag
  have F := S1.top
  have hfs : fs = [] := by
    have := S1.cs
    rw [hcs] at this
    cases vss <;> cases fs <;> first | rfl | exact this.elim
  subst hfs
  have hsolo : io = .solo := by
    have := S1.io
    rw [hio] at this
    cases this; rfl
  subst hsolo
  have hmode : f.mode = .returning := by
    have := F.md
    rw [hmd] at this
    cases hm : f.mode <;> rw [hm] at this <;> first | rfl | exact this.elim
  have hdef : f.defers = [] := by
    have := F.defers
    rw [hdf] at this
    cases hd : f.defers with
    | nil => rfl
    | cons a b => rw [hd] at this; exact this.elim
  have hfnn : f.fn = g0.toNat := by rw [F.fn, hfn]
  have hres1 : results fd f.tmps = Pure.pure (f.tmps.getD t undef) := by
    unfold results
    rw [hres]
    simp [Array.mapM_eq_mapM_toList, pure, bind, Sem.bind, Functor.map]
  have hval := ht σ vt c.nx own w1.heap.size w1 f.tmps S1.ar fun p v hpv => F.regs p v hpv (by rw [pnd_no hnd]; exact fun x => x)
  rw [hres1] at hval
  have hval : VR ml σ v (f.tmps.getD t undef) := hval.2
  have hv2 : v = .bool true := by
    cases v with
    | bool b => cases b with
      | true => rfl
      | false => cases hv
    | _ => cases hv
  subst hv2
  have hb := vr_bool hval
  have hkd : f.kind = .normal ∨ f.kind = .deferred := by
    have := F.kind
    rw [this]
    cases c.top.dfd <;> simp
  refine .stop (v := .bool true) (w' := w1) ?_ (hpost w1 S1.kept)
  rw [hout]
  rw [stepG_unwind (by rw [hmode]; exact fun x => by cases x)]
  unfold unwind
  have hrun : (results fd f.tmps).runT P w1 #[] = (.ok (.bool true) w1, #[]) := by rw [hres1, hb]; rfl
  simp only [hdef, hmode, hfnn, hp1, hrun, seen_none, after_none]
  unfold doReturn
  rcases hkd with hk | hk <;> simp [hk, hfnn, hini]
end
end Go.Gb
end
section
/-! A run of the evaluator that comes to its end: the program's run does. -/
set_option linter.unusedSimpArgs false
set_option linter.unusedVariables false
set_option linter.unusedSectionVars false
namespace Go.Gb
open Go.Conc
/-- The entry's state. -/
def entryC (g0 : P) (nt : Nat) (regs : Regs) (b : Code) : Cfg := ⟨⟨g0, nt, regs, [.code b], [], .run, false, none⟩, [], .nil, .z, .solo⟩
/-- It returned true, and what was there stands as it was. -/
def PostT (w : World) : Value → World → Prop := fun v w' => v = .bool true ∧ Kept w.heap.size w w'
/-- What is given with the entry. -/
def th0 (w : World) : Th := { outer := [], ov := [], hf := .nil, total := [], w0 := w, X := fun _ => False, io0 := .solo }
section
variable {P : Program} {mla : Addr} {ml : Gl} {E : Env} {st : Cfg → OR}
/-- A run that came to its end. -/
theorem run_okay (hF : FunOk P E) {g0 : Gb.P} {fd : Func} {t : Nat} (hg0 : T.get g0 E.funs = some fd) (hres : fd.results = #[.tmp t]) (hini : P.inits.idxOf? g0.toNat = none) {w : World} (hst : StOk P w.heap.size mla ml (PostT w) E st)
    {n : Nat} {c : Cfg} {l : List Cfg} (hrun : iterB g0 st n c = some l) (hl : ∀ c ∈ l, Okay P w.heap.size mla ml (th0 w) (PostT w) c) : Okay P w.heap.size mla ml (th0 w) (PostT w) c :=
  iterB_suc (E := E) (fun c r e hr => hst (th0 w) c r rfl e hr) (fun v c hv hfn hio hd => done_ok hF hg0 hres hini rfl ⟨rfl, fun b hb => hb⟩ (fun w' hk => ⟨rfl, hk⟩) hv hfn hio hd) n hrun hl
theorem entry_beh (hF : FunOk P E) {g0 : Gb.P} {fd : Func} {b : Code} (hg0 : T.get g0 E.funs = some fd) (hb : fd.body = some b)
    {w : World} (hg1 : mla.block < w.heap.size) (hg2 : w.cell? mla = some (.int .i64 ml.val)) {vs : List V} {us : Array Value} (hv : ∀ σ, VRL ml σ vs us.toList) (hn : vs.length ≤ fd.ntmps) {regs : Regs} (hregs : ∀ p v, T.get p regs = some v → ∃ j, p.toNat = j ∧ vs[j]? = some v)
    (hO : Okay P w.heap.size mla ml (th0 w) (PostT w) (entryC g0 fd.ntmps regs b)) :
    Beh P w.heap.size (MsgR w.heap.size ml) (PostT w) .solo (fun _ => False) (G (Frame.enter P g0.toNat us .normal) []) w := by
  have hfree : (th0 w).Free := ⟨rfl, fun b hb => hb⟩
  refine FBeh.off (θ := th0 w) (hO _ _ _ _ ⟨fun _ => none, ⟨[], .nil⟩, [], [], [], Frame.enter P g0.toNat us .normal, [], rfl, ?_⟩) hfree
  exact ⟨⟨fun id p hp => (by cases hp), fun id p ob hp => (by cases hp), fun id p hp => (by cases hp), fun id ob hob => (by rw [show (entryC g0 fd.ntmps regs b).h = .nil from rfl, T.get_nil] at hob; cases hob), fun id id' p p' o1 o2 hp => (by cases hp), fun id p ob hp => (by cases hp), fun id hid => (by simp at hid), fun id p ob hp => (by cases hp), fun id id' p p' o1 o2 hp => (by cases hp), fun id p ob hp => (by cases hp), fun id ob hob => (by rw [show (⟨[], .nil⟩ : Vt).hf = .nil from rfl, T.get_nil] at hob; cases hob), ⟨hg1, hg2⟩, ⟨Nat.le_refl _, Nat.le_refl _⟩, fun b hb => hb.elim⟩,
    enter_rel hF hg0 hb (hv _) hn hregs false, trivial, .solo rfl hfree, rfl, List.nodup_nil, rfl, ⟨rfl, rfl, rfl, Nat.le_refl _, fun _ _ => rfl⟩, fun b hb => hb.elim⟩
/-- Whatever the scheduler picks, the run ends well. -/
theorem entry_ends (hF : FunOk P E) {g0 : Gb.P} {fd : Func} {b : Code} (hg0 : T.get g0 E.funs = some fd) (hb : fd.body = some b)
    {w : World} (hg1 : mla.block < w.heap.size) (hg2 : w.cell? mla = some (.int .i64 ml.val)) {vs : List V} {us : Array Value} (hv : ∀ σ, VRL ml σ vs us.toList) (hn : vs.length ≤ fd.ntmps) {regs : Regs} (hregs : ∀ p v, T.get p regs = some v → ∃ j, p.toNat = j ∧ vs[j]? = some v)
    (hO : Okay P w.heap.size mla ml (th0 w) (PostT w) (entryC g0 fd.ntmps regs b)) :
    ∃ n last o w' t', runNT P (n + 1) (solo (G (Frame.enter P g0.toNat us .normal) []) w) #[] = (.ended o w', t') ∧ runN P n (solo (G (Frame.enter P g0.toNat us .normal) []) w) = .next last ∧ step P last = .ended o w' ∧ Conc.Good P (PostT w) last o w' t' :=
  run_ends MsgR.stable rfl (entry_beh hF hg0 hb hg1 hg2 hv hn hregs hO)
end
end Go.Gb
end
