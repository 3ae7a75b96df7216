/- A part of the proof of the statement Rows.TopMissingCardSaid (at every argument the law returns true on every schedule, and its argument reads as before; the listed variables as laid). This text: a stepper over symbolic states of the translated program and its soundness, part 25 of 41. -/
import Derived.Test.YtgabhijnigpbdaaGreatDoorM24
import Derived.Conc.Events
section
/-! Recovering; panics. -/
set_option linter.unusedSimpArgs false
set_option linter.unusedVariables false
set_option linter.unusedSectionVars false
namespace Go.Gb
open Go.Conc
section
variable {P : Program} {N0 : Nat} {mla : Addr} {ml : Gl} {θ : Th} {Post : Value → World → Prop} {E : Env}
variable {top : Fr} {cs : List Fr} {h : Heap} {nx : Gb.P} {io : AIo} {r : Rs}
theorem FrsR.cons {σ : Sg} {vss : List (List Gb.P)} {c : Fr} {cs : List Fr} {fs : List Frame} (h : FrsR P N0 mla ml σ vss (c :: cs) fs) : ∃ vs vss' f fs', vss = vs :: vss' ∧ fs = f :: fs' ∧ FrR P N0 mla ml σ vs c f ∧ FrsR P N0 mla ml σ vss' cs fs' := by
  cases vss with
  | nil => cases fs <;> exact h.elim
  | cons vs vss' => cases fs with
    | nil => exact h.elim
    | cons f fs' => exact ⟨vs, vss', f, fs', rfl, rfl, h.1, h.2⟩
theorem SW_recover {own : Own} {n0 : Nat} {w : World} {a : Act} {oo : Oper} {c : Call} (ho : oo.op = .call c) (hc : c.callee = .builtin .recover) : SW P N0 own n0 (execOp a.eval oo) w fun nxt w' => nxt = .recover ∧ w' = w := by
  unfold execOp
  simp only [ho, resolve, hc]
  exact ⟨rfl, rfl⟩
theorem okay_recov (hat : Ats P N0 mla ml top .recov) {gk : GK} (e : fxK E gk .recov top cs h nx io = some r) (hr : Suc P N0 mla ml θ Post E r) : Okay P N0 mla ml θ Post ⟨top, cs, h, nx, io⟩ := by
  simp only [fxK] at e
  refine okay_fx hat fun σ vt vs vss fr fs ops i τ k' oo own w hF' hfs H hm ht hk hv hx => ?_
  generalize hop : oo.op = op at hx
  cases hx with
  | @recov c hc =>
    refine ⟨.inr fun c h => (by cases h), _, SW_recover hop hc, ?_⟩
    rintro nxt w' ⟨rfl, rfl⟩
    split at e
    · rename_i fn' nt' regs' todo' ds' v older dfd' rd' more hrd hdfd
      have hrn : fr.roundOf = none := by
        rcases hF'.round with h | ⟨_, _, h, _⟩
        · exact h.2
        · rw [hrd] at h; cases h
      have hkd : fr.kind = .deferred := by have := hF'.kind; rw [hdfd] at this; exact this
      obtain ⟨vs1, vss', f1, fs', rfl, rfl, h1, h2⟩ := hfs.cons
      have hmd := h1.md
      generalize hmm : f1.mode = m1 at hmd
      cases m1 <;> (try exact hmd.elim)
      rename_i chain
      cases chain with
      | nil => exact hmd.elim
      | cons pe chain =>
        obtain ⟨⟨q1, q2, q3⟩, q4⟩ := hmd
        obtain ⟨pv, prec, pgo⟩ := pe
        simp only at q1 q2 q3
        subst q2 q3
        obtain ⟨fr', e3, hfin, _⟩ := fin_rel hF' q1 e
        cases e3
        have hty : tryRecover fr (f1 :: (fs' ++ θ.outer)) = some (pv, { f1 with mode := .panicking ({ v := pv, recovered := true } :: chain) } :: (fs' ++ θ.outer)) := by
          unfold tryRecover; rw [hkd]; simp only [hmm]
        refine ⟨⟨fr', ⟨fn', nt', regs', todo', ds', .panicking (⟨v, true⟩ :: older), dfd', rd'⟩ :: more, h, nx, io⟩, σ, vs, vs1 :: vss', fr.finish pv, { f1 with mode := .panicking ({ v := pv, recovered := true } :: chain) } :: fs', ?_, rfl, Sub.refl _, hfin, ⟨?_, h2⟩, rfl, H, hr⟩
        · rw [apply_recover hk hrn]
          simp only [List.cons_append, hty]
        · exact ⟨h1.fn, h1.nt, h1.regs, h1.todo, h1.tail, h1.vids, h1.defers, ⟨⟨q1, rfl, rfl⟩, q4⟩, h1.kind, h1.round⟩
    · rename_i fn' nt' regs' todo' ds' dfd' rd' more hrd hdfd
      have hrn : fr.roundOf = none := by
        rcases hF'.round with h | ⟨_, _, h, _⟩
        · exact h.2
        · rw [hrd] at h; cases h
      have hkd : fr.kind = .deferred := by have := hF'.kind; rw [hdfd] at this; exact this
      obtain ⟨vs1, vss', f1, fs', rfl, rfl, h1, h2⟩ := id hfs.cons
      have hmd := h1.md
      generalize hmm : f1.mode = m1 at hmd
      cases m1 <;> (try exact hmd.elim)
      obtain ⟨fr', e3, hfin, _⟩ := fin_rel hF' (v := .nili) (u := .nilIface) trivial e
      cases e3
      have hty : tryRecover fr (f1 :: (fs' ++ θ.outer)) = none := by
        unfold tryRecover; rw [hkd]; simp only [hmm]
      refine ⟨⟨fr', ⟨fn', nt', regs', todo', ds', .returning, dfd', rd'⟩ :: more, h, nx, io⟩, σ, vs, vs1 :: vss', fr.finish .nilIface, f1 :: fs', ?_, rfl, Sub.refl _, hfin, ⟨h1, h2⟩, rfl, H, hr⟩
      rw [apply_recover hk hrn]
      simp only [List.cons_append, hty]
    · cases e
/-- A panic of the program's own. -/
theorem okay_panic {x : Opd} (hat : Ats P N0 mla ml top (.panic x)) {gk : GK} (hmd : top.md = .run) (e : fxK E gk (.panic x) top cs h nx io = some r) (hr : Suc P N0 mla ml θ Post E r) (htl : ∀ y ∈ top.todo, y ∈ top.todo) : Okay P N0 mla ml θ Post ⟨top, cs, h, nx, io⟩ := by
  simp only [fxK] at e
  obtain ⟨v, hv, e⟩ := opdK_some e
  split at e
  case h_2 => cases e
  rename_i t u
  cases e
  rintro io' own g w ⟨σ, vt, vs, vss, ids, f, fs, rfl, S⟩
  refine beh_go fun w1 a => ?_
  have S1 := S.agree a
  obtain ⟨hm, ⟨ops, i, τ, k', oo, ht, ho, hw, hx⟩, hvals⟩ := hat σ vs f S1.top
  have hk := dfd_kind S1.top.kind
  have hk' : (f.kind == CallKind.early) = false := by simpa using hk
  generalize hop : oo.op = op at hx
  cases hx with
  | @panic _ x' hx =>
    have h1 := opd_val (k := (some : V → O V)) (r := .nili) (hvals x (by simp [fxOpds])) hx hv
    generalize hff : (⟨f.tmps, f.defers⟩ : Act).eval x' = uf at h1
    cases uf <;> simp only [VR] at h1
    rename_i t' pv
    obtain ⟨rfl, h2⟩ := h1
    have hstep : stepG P io'.main (G f (fs ++ θ.outer)) w1 = .go (G (f.raise [{ v := .iface t' pv, recovered := false }]) (fs ++ θ.outer)) w1 #[] := by
      rw [step_oper hm ht ho hw (.inr fun c h => by rw [hop] at h; cases h)]
      have hex : execOp (Act.eval ⟨f.tmps, f.defers⟩) oo = (do let v ← Instr.panic (.iface t' pv); pure (.value v)) := by
        unfold execOp; simp only [hop, hff]
      rw [hex]
      unfold stepG.apply
      simp only [if_true, Instr.panic, goPanic, hk']
      simp [Sem.runT, bind, Sem.bind, seen_none, after_none, GStep.after, G]
    have hrs : f.raise [{ v := .iface t' pv, recovered := false }] = { f with mode := .panicking [{ v := .iface t' pv, recovered := false }] } := by
      unfold Frame.raise; rw [hm]
    rw [hrs] at hstep
    refine ⟨own, _, _, w1, #[], hstep, does_refl, hr io' _ _ _ ⟨σ, vt, vs, vss, ids, _, fs, rfl, S1.ar, ?_, S1.cs, S1.io, S1.vids, S1.nodup, S1.hf, S1.kept, S1.lt⟩⟩
    have F := S1.top
    exact ⟨F.fn, F.nt, F.regs, F.todo, F.tail, F.vids, F.defers, ⟨⟨⟨rfl, h2⟩, rfl, rfl⟩, trivial⟩, F.kind, F.round⟩
end
end Go.Gb
end
section
/-! Communication. -/
set_option linter.unusedSimpArgs false
set_option linter.unusedVariables false
set_option linter.unusedSectionVars false
namespace Go.Gb
open Go.Conc
/-- It tells v, and touches nothing. -/
def Still {α : Type} (P : Program) (s : Sem α) (v : α) : Prop := ∀ w es, s.runT P w es = (.ok v w, es)
section
variable {P : Program}
theorem Still.pure {α : Type} {v : α} : Still P (Pure.pure v) v := fun w es => rfl
theorem Still.bind {α β : Type} {s : Sem α} {f : α → Sem β} {v : α} {u : β} (h : Still P s v) (h2 : Still P (f v) u) : Still P (s >>= f) u := by
  intro w es
  show (s.bind f).runT P w es = _
  rw [Sem.runT_bind', h w es]
  exact h2 w es
theorem Still.program : Still P program P := fun w es => rfl
theorem Still.typeInfo {t : TypeId} {i : TypeInfo} (h : P.info? t = some i) : Still P (typeInfo t) i := by
  unfold Go.typeInfo
  exact Still.program.bind (by rw [h]; exact Still.pure)
theorem Still.underlying {t : TypeId} {d : TypeDesc} (h : P.underlying t = some d) : Still P (underlying t) d := by
  unfold Go.underlying
  exact Still.program.bind (by rw [h]; exact Still.pure)
theorem Still.zeroValue {t : TypeId} {i : TypeInfo} {z : Value} (h : P.info? t = some i) (hz : i.zero = some z) : Still P (zeroValue t) z := by
  unfold Go.zeroValue
  exact (Still.typeInfo h).bind (by rw [hz]; exact Still.pure)
end
section
variable {P : Program} {N0 : Nat} {mla : Addr} {ml : Gl} {θ : Th} {Post : Value → World → Prop} {E : Env}
variable {top : Fr} {cs : List Fr} {h : Heap} {nx : Gb.P} {io : AIo} {r : Rs}
theorem step_still {main : Bool} {f : Frame} {cs : List Frame} {w : World} {ops : Array Oper} {i : Nat} {τ : List Nat} {k' : List Item} {o : Oper} (hm : f.mode = .run) (ht : f.todo = .inRegion ops (i :: τ) :: k') (ho : ops[i]? = some o)
    (hw : Region.wanted o (yielded ops f.tmps) = true) (hnd : f.roundOf = none ∨ ∀ c, o.op ≠ .defer c) (hk : f.kind ≠ .early) {nx : Next} (hs : Still P (execOp (Act.eval ⟨f.tmps, f.defers⟩) o) nx) : stepG P main (G f cs) w = stepG.apply P true f cs none (.pure nx) w := by
  have hk' : (f.kind == CallKind.early) = false := by simpa using hk
  rw [step_oper hm ht ho hw hnd]
  unfold stepG.apply
  simp only [if_true, hs w #[], hk', Bool.false_eq_true, if_false, Sem.runT]
theorem IoR.free {σ : Sg} {θ : Th} {ids : List Gb.P} {a : AIo} {b : Io M} (h : IoR σ θ ids a b) (hn : a ≠ .off) : θ.Free := by
  cases h with
  | solo h hz => exact hz
  | off => exact absurd rfl hn
  | duo hc hb h hz => exact hz
  | work hc hb he hq h hz => exact hz
/-- A frame at a communication, in whatever company: what it offers. -/
theorem comm_at {x : Fx} (hio : io ≠ .off) (hat : Ats P N0 mla ml top x) {io' : Io M} {own : Own} {g : Goroutine} {w : World} (hc : CfgR P N0 mla ml θ ⟨top, cs, h, nx, io⟩ io' own g w) {Q : Sg → Vt → List Gb.P → List (List Gb.P) → List Gb.P → Frame → List Frame → World → Prop}
    (hn : ∀ σ vt vs vss ids f fs w1, Agree N0 own w w1 → g = G f (fs ++ θ.outer) → St P N0 mla ml θ ⟨top, cs, h, nx, io⟩ io' own w1 σ vt vs vss ids f fs → f.kind ≠ .early → ∀ oo, (∀ y ∈ fxOpds x, ∀ p, y = .r p → ∀ v, T.get p top.regs = some v → VR ml σ v (f.tmps.getD p.toNat undef)) → FxR P oo.op x →
      (∀ (nxt : Next), (∀ c, oo.op ≠ .defer c) → Still P (execOp (Act.eval ⟨f.tmps, f.defers⟩) oo) nxt → ∀ main, stepG P main (G f (fs ++ θ.outer)) w1 = stepG.apply P true f (fs ++ θ.outer) none (.pure nxt) w1) → Next1 P N0 (MsgR N0 ml) Post (FBeh P N0 ml θ Post) io' own (G f (fs ++ θ.outer)) w1) : FBeh P N0 ml θ Post io' own g w := by
  obtain ⟨σ, vt, vs, vss, ids, f, fs, rfl, S⟩ := hc
  have hz := S.io.free hio
  refine FBeh.of (Beh.intro P N0 (MsgR N0 ml) Post ⟨rfl, fun w1 a => ?_⟩) hz
  have S1 := S.agree a
  obtain ⟨hm, ⟨ops, i, τ, k', oo, ht, ho, hw, hx⟩, hvals⟩ := hat σ vs f S1.top
  have hk := dfd_kind S1.top.kind
  exact (hn σ vt vs vss ids f fs w1 a rfl S1 hk oo hvals hx fun nxt hnd hs main => step_still hm ht ho hw (.inr hnd) hk hs).mono _ _ _ _ fun io own g w F => F.off hz
theorem map_one' {α β : Type} (f : α → β) (x : α) : (#[x] : Array α).map f = #[f x] := by simp
theorem Kept.set {w0 w : World} {r cap s k : Nat} {buf : Array Value} {cl tm : Bool} (h : Kept N0 w0 w) (hr : N0 ≤ r) : Kept N0 w0 (w.setChan r cap buf cl s k tm) :=
  ⟨h.os, h.tape, h.output, Nat.le_trans h.size (by simp [World.setChan]), fun b hb => by rw [← h.base b hb]; exact Array.getElem?_setIfInBounds_ne (by omega)⟩
theorem vr_chan {σ : Sg} {id : Gb.P} {u : Value} (hv : VR ml σ (.chan id) u) : ∃ p, σ id = some p ∧ u = .chan (some p.bl) := by
  cases u <;> (try simp only [VR] at hv)
  rename_i o
  cases o <;> (try simp only [VR] at hv)
  obtain ⟨p, hp, rfl⟩ := hv
  exact ⟨p, hp, rfl⟩
theorem still_select1 {oo : Oper} {sc : SelectCase} {i : TypeInfo} {z : Value} {a : Act} {b : Bool} (ho : oo.op = .select #[sc] b) (hi : P.info? sc.elem = some i) (hz : i.zero = some z) : Still P (execOp a.eval oo) (.comm #[{ chan := a.eval sc.chan, send := sc.send.map a.eval, zero := z }] b .select) := by
  unfold execOp
  simp only [ho]
  refine Still.bind (v := #[{ chan := a.eval sc.chan, send := sc.send.map a.eval, zero := z }]) ?_ Still.pure
  have : ∀ (f : SelectCase → Sem CommCase), (#[sc] : Array SelectCase).mapM f = (do let x ← f sc; Pure.pure #[x]) := by
    intro f
    simp [Array.mapM_eq_mapM_toList]
  rw [this]
  exact Still.bind (Still.bind (Still.zeroValue hi hz) Still.pure) Still.pure
theorem commR_s {c : Nat} {v z : Value} {k : Int} {u : Value} {ok : Bool} : commResult #[scase c v z] .select k u ok = .tuple #[goInt k, .bool ok] := by
  simp [commResult, scase, Array.zipIdx, Array.filter, Array.map]
theorem commR_r {c : Nat} {z : Value} {k : Int} {u : Value} {ok : Bool} : commResult #[rcase c z] .select k u ok = .tuple #[goInt k, .bool ok, if 0 = k then u else z] := by
  simp [commResult, rcase, Array.zipIdx]
theorem commR_se {c e : Nat} {v z z' : Value} {k : Int} {u : Value} {ok : Bool} : commResult #[scase c v z, rcase e z'] .select k u ok = .tuple #[goInt k, .bool ok, if 1 = k then u else z'] := by
  simp [commResult, scase, rcase, Array.zipIdx]
/-- A send that is offered and not waited for, on a channel of one's own. -/
theorem okay_send1 {c x : Opd} (hat : Ats P N0 mla ml top (.send1 c x)) {gk : GK} (e : fxK E gk (.send1 c x) top cs h nx io = some r) (hr : Suc P N0 mla ml θ Post E r) : Okay P N0 mla ml θ Post ⟨top, cs, h, nx, io⟩ := by
  simp only [fxK] at e
  obtain ⟨cv, hcv, e⟩ := opdK_some e
  obtain ⟨xv, hxv, e⟩ := opdK_some e
  split at e
  case h_2 => cases e
  rename_i id e0 e1
  clear e0 e1
  replace e : getOb (C := Rs) id h _ = some r := e
  obtain ⟨ob, hob, e⟩ := getOb_inv e
  intro io' own g w hc
  refine comm_at (Q := fun _ _ _ _ _ _ _ _ => True) (fun h => by cases h) hat hc fun σ vt vs vss ids f fs w1 a hg S hk oo hv hx hst => ?_
  generalize hop : oo.op = op at hx
  cases hx with
  | @send1 _ _ c' x' t z hz hcr hxr =>
    obtain ⟨ti, z', h1, h2, hz'⟩ := hz
    have hcu := opd_val (k := (some : V → O V)) (r := .nili) (hv c (by simp [fxOpds])) hcr hcv
    have hxu := opd_val (k := (some : V → O V)) (r := .nili) (hv x (by simp [fxOpds])) hxr hxv
    obtain ⟨p, hp, hce⟩ := vr_chan hcu
    have hio := S.io
    generalize hioe : (⟨top, cs, h, nx, AIo.solo⟩ : Cfg).io = ioe at hio
    cases hio with
    | duo => cases hioe
    | work => cases hioe
    | off => cases hioe
    | solo hids hz =>
      obtain ⟨o, ho, hor⟩ := S.ar.obs id p ob hp hob
      have hown : own p.bl := mine_self.1 (S.ar.has id p ob hp hob)
      cases ob <;> (try simp only [reduceCtorEq] at e)
      rename_i cap buf cl s rc
      cases cl <;> (try simp only [reduceCtorEq] at e)
      cases o <;> simp only [ObR] at hor
      rename_i cap' buf' cl' s' r' tm
      obtain ⟨rfl, rfl, rfl, rfl, rfl, hbuf⟩ := hor
      have hstep : ∀ main, stepG P main (G f (fs ++ θ.outer)) w1 = .comm (G f (fs ++ θ.outer)) #[scase p.bl ((⟨f.tmps, f.defers⟩ : Act).eval x') z'] false .select w1 #[] := by
        intro main
        rw [hst _ (fun c h => by rw [hop] at h; cases h) (still_select1 hop h1 h2) main, apply_comm hk]
        simp only [hce, Option.map_some]
        rfl
      have hN : N0 ≤ p.bl := S.ar.apart _ hown
      rcases boolK_cases e with ⟨hb, e⟩ | ⟨hb, e⟩
      · rw [lappK_eq, natK_eq, T.putK_eq] at e
        have hlt : buf'.size < cap' := by
          have := Nat.le_of_ble_eq_true hb
          rw [llen_eq, hbuf.length] at this; simp at this; omega
        obtain ⟨fr', e3, hfin, _⟩ := fin_rel S.top (v := .tup [.int .i64 (.ofNat 0), .bool false]) (u := commResult #[scase p.bl ((⟨f.tmps, f.defers⟩ : Act).eval x') z'] .select 0 undef false) (by rw [commR_s]; exact ⟨⟨rfl, rfl⟩, rfl, trivial⟩) e
        cases e3
        refine .room (hstep true) hown ho hlt (hr _ _ _ _ ⟨σ, vt, vs, vss, ids, _, fs, rfl, ?_, hfin, S.cs, .solo hids hz, S.vids, S.nodup, S.hf, S.kept.set hN, fun b hb => by simpa [World.setChan] using S.lt b hb⟩)
        have har := S.ar.put (w' := w1.setChan p.bl cap' (buf'.push ((⟨f.tmps, f.defers⟩ : Act).eval x')) false (s' + 1) r' false) hp hob (ob' := .chan cap' (buf ++ [xv]) false (s' + 1) r') (o' := .chan cap' (buf'.push ((⟨f.tmps, f.defers⟩ : Act).eval x')) false (s' + 1) r' false)
          ⟨rfl, rfl, rfl, rfl, rfl, by rw [Array.toList_push]; exact VRL.append hbuf ⟨hxu, trivial⟩⟩ (get_setChan ⟨_, _, _, _, _, _, ho⟩) (fun b hb => get_setChan_ne hb) (by simp [World.setChan])
        have : (w1.setChan p.bl cap' (buf'.push ((⟨f.tmps, f.defers⟩ : Act).eval x')) false (s' + 1) r' false).heap.size = w1.heap.size := by simp [World.setChan]
        rw [this]; exact har
      · have hle : cap' ≤ buf'.size := by
          rcases Nat.lt_or_ge buf'.size cap' with h1 | h1
          · have h2 : Nat.blt (llen buf 0) cap' = true := by
              apply Nat.ble_eq_true_of_le; rw [llen_eq, hbuf.length]; simp; omega
            rw [h2] at hb; cases hb
          · exact h1
        obtain ⟨fr', e3, hfin, _⟩ := fin_rel S.top (v := .tup [.int .i64 (.negSucc 0), .bool false]) (u := commResult #[scase p.bl ((⟨f.tmps, f.defers⟩ : Act).eval x') z'] .select (-1) undef false) (by rw [commR_s]; exact ⟨⟨rfl, rfl⟩, rfl, trivial⟩) e
        cases e3
        exact .full (hstep true) hown ho hle (hr _ _ _ _ ⟨σ, vt, vs, vss, ids, _, fs, rfl, S.ar, hfin, S.cs, .solo hids hz, S.vids, S.nodup, S.hf, S.kept, S.lt⟩)
end
end Go.Gb
end
