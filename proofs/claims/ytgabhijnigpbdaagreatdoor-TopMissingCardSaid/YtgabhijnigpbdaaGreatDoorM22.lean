/- A part of the proof of the statement Rows.TopMissingCardSaid (at every argument the law returns true on every schedule, and its argument reads as before; the listed variables as laid). This text: a stepper over symbolic states of the translated program and its soundness, part 22 of 41. -/
import Derived.Test.YtgabhijnigpbdaaGreatDoorM18
import Derived.Test.YtgabhijnigpbdaaGreatDoorM21
section
/-! A goroutine that is told by the evaluator: what stays, what steps. -/
set_option linter.unusedSimpArgs false
set_option linter.unusedVariables false
set_option linter.unusedSectionVars false
namespace Go.Gb
open Go.Conc
/-- What a message hands over. -/
def MsgR (N0 : Nat) (ml : Gl) : M → Value → World → Own → Prop := fun m v w o => ∃ σm : Sg, VR ml σm m.1 v ∧ (∀ id p, σm id = some p → ∃ ob, (id, ob) ∈ m.2) ∧
  (∀ id ob, (id, ob) ∈ m.2 → ∃ p obj, σm id = some p ∧ w.heap[p.bl]? = some obj ∧ ObR ml σm p ob obj ∧ o p.bl) ∧ (∀ id id' p p', σm id = some p → σm id' = some p' → p.bl = p'.bl → id = id') ∧ ∀ b, o b → N0 ≤ b ∧ b < w.heap.size
theorem MsgR.stable {N0 : Nat} {ml : Gl} : Stable N0 (MsgR N0 ml) := by
  intro m v w w' own ⟨σm, h1, h2, h3, h4, h5⟩ ha
  refine ⟨σm, h1, h2, fun id ob hm => ?_, h4, fun b hb => ⟨(h5 b hb).1, Nat.lt_of_lt_of_le (h5 b hb).2 ha.size⟩⟩
  obtain ⟨p, obj, q1, q2, q3, q4⟩ := h3 id ob hm
  exact ⟨p, obj, q1, by rw [ha.own _ q4]; exact q2, q3, q4⟩
structure Kept (N0 : Nat) (w0 w : World) : Prop where
  os : w.os = w0.os
  tape : w.tape = w0.tape
  output : w.output = w0.output
  size : w0.heap.size ≤ w.heap.size
  base : ∀ b, b < N0 → w.heap[b]? = w0.heap[b]?
theorem Kept.agree {N0 : Nat} {own : Own} {w0 w w1 : World} (h : Kept N0 w0 w) (a : Agree N0 own w w1) : Kept N0 w0 w1 :=
  ⟨a.os.trans h.os, a.tape.trans h.tape, a.output.trans h.output, Nat.le_trans h.size a.size, fun b hb => (a.base b hb).trans (h.base b hb)⟩
theorem Kept.does {N0 : Nat} {own own' : Own} {w0 w w1 : World} {es : Array Event} (h : Kept N0 w0 w) (hn : N0 ≤ w.heap.size) (ha : ∀ b, own b → N0 ≤ b) (d : Does N0 own own' w w1 es) : Kept N0 w0 w1 :=
  ⟨d.os.trans h.os, d.tape.trans h.tape, d.output.trans h.output, Nat.le_trans h.size d.size, fun b hb => (d.keep b (by omega) (fun x => by have := ha b x; omega)).trans (h.base b hb)⟩
/-- What is given with a goroutine that is told. -/
structure Th where
  outer : List Frame
  ov : List P
  hf : Heap
  total : List M
  w0 : World
  X : Own
  io0 : Io M
/-- Nothing of it is set aside. -/
def Th.Free (θ : Th) : Prop := θ.hf = .nil ∧ ∀ b, ¬ θ.X b
inductive IoR (σ : Sg) (θ : Th) (ids : List P) : AIo → Io M → Prop
  | solo (h : ids = []) (hz : θ.Free) : IoR σ θ ids .solo .solo
  | off {io : Io M} (h : ids = []) (hi : io = θ.io0) : IoR σ θ ids .off io
  | duo {c : P} {ms : List M} {cb eb : Nat} {p : Pl} (hc : σ c = some p) (hb : p.bl = cb) (h : ids = ms.flatMap fun m => m.2.map (·.1)) (hz : θ.Free) : IoR σ θ ids (.duo c ms) (.duo cb eb ms)
  | work {c e : P} {cb eb : Nat} {p q : Pl} (hc : σ c = some p) (hb : p.bl = cb) (he : σ e = some q) (hq : q.bl = eb) (h : ids = []) (hz : θ.Free) : IoR σ θ ids (.work c e) (.work cb eb θ.total)
theorem IoR.mono {σ σ' : Sg} (hs : Sub σ σ') {θ : Th} {ids : List P} {a : AIo} {b : Io M} (h : IoR σ θ ids a b) : IoR σ' θ ids a b := by
  cases h with
  | solo h hz => exact .solo h hz
  | off h hi => exact .off h hi
  | duo hc hb h hz => exact .duo (hs _ _ hc) hb h hz
  | work hc hb he hq h hz => exact .work (hs _ _ hc) hb (hs _ _ he) hq h hz
section
variable (P : Program) (N0 : Nat) (mla : Addr) (ml : Gl) (θ : Th)
structure St (c : Cfg) (io : Io M) (own : Own) (w : World) (σ : Sg) (vt : Vt) (vs : List Gb.P) (vss : List (List Gb.P)) (ids : List Gb.P) (f : Frame) (fs : List Frame) : Prop where
  ar : AR N0 mla ml vt σ c.h c.nx own w.heap.size w
  top : FrR P N0 mla ml σ vs c.top f
  cs : FrsR P N0 mla ml σ vss c.cs fs
  io : IoR σ θ ids c.io io
  vids : vt.ids = vs ++ (vss.flatten ++ (ids ++ θ.ov))
  nodup : vt.ids.Nodup
  hf : vt.hf = θ.hf
  kept : Kept N0 θ.w0 w
  lt : ∀ b, own b → b < w.heap.size
def CfgR (c : Cfg) (io : Io M) (own : Own) (g : Goroutine) (w : World) : Prop := ∃ σ vt vs vss ids f fs, g = G f (fs ++ θ.outer) ∧ St P N0 mla ml θ c io own w σ vt vs vss ids f fs
variable (Post : Value → World → Prop)
/-- What is one's own: what the evaluator knows of, and what is set aside. -/
def Fram (own own' : Own) (w : World) : Prop := (∀ b, own' b ↔ own b ∨ θ.X b) ∧ ∀ b, θ.X b → ¬ own b ∧ N0 ≤ b ∧ b < w.heap.size ∧ w.heap[b]? = θ.w0.heap[b]?
def FBeh : Rl M := fun io own g w => ∀ own', Fram N0 θ own own' w → Beh P N0 (MsgR N0 ml) Post io own' g w
/-- The evaluator's state tells a goroutine that goes on to its end. -/
def Okay (c : Cfg) : Prop := ∀ io own g w, CfgR P N0 mla ml θ c io own g w → FBeh P N0 ml θ Post io own g w
end
section
variable {P : Program} {N0 : Nat} {mla : Addr} {ml : Gl} {θ : Th} {Post : Value → World → Prop} {io : Io M} {own : Own} {w : World}
theorem mine_self {b : Nat} : mine own w.heap.size w b ↔ own b := by
  unfold mine
  constructor
  · rintro (h | h)
    · exact h
    · omega
  · exact .inl
theorem AR.agree {vt : Vt} {σ : Sg} {h : Heap} {nx : Gb.P} {w1 : World} (H : AR N0 mla ml vt σ h nx own w.heap.size w) (a : Agree N0 own w w1) : AR N0 mla ml vt σ h nx own w1.heap.size w1 := by
  have hm : ∀ b, mine own w.heap.size w b → mine own w1.heap.size w1 b := fun b hb => .inl (mine_self.1 hb)
  refine ⟨fun id p hp => Nat.lt_of_lt_of_le (H.dom id p hp) a.size, fun id p ob h1 h2 => hm _ (H.has id p ob h1 h2), H.low, H.hlow, H.inj, fun id p ob h1 h2 => ?_, H.vts, fun id p ob h1 h2 => ?_, H.frx, fun id p ob h1 h2 => hm _ (H.fro id p ob h1 h2), H.frl, ⟨H.glob.1, ?_⟩, ⟨Nat.le_trans (Nat.le_trans H.n0le.1 H.n0le.2) a.size, Nat.le_refl _⟩, H.apart⟩
  · obtain ⟨o, h3, h4⟩ := H.obs id p ob h1 h2
    exact ⟨o, by rw [a.own _ (mine_self.1 (H.has id p ob h1 h2))]; exact h3, h4⟩
  · obtain ⟨o, h3, h4⟩ := H.fr id p ob h1 h2
    exact ⟨o, by rw [a.own _ (mine_self.1 (H.fro id p ob h1 h2))]; exact h3, h4⟩
  · have h1 := H.glob.2
    unfold World.cell? at h1 ⊢
    rw [a.base _ H.glob.1]; exact h1
/-- Behind a step. -/
theorem AR.shift {vt : Vt} {σ : Sg} {h : Heap} {nx : Gb.P} {w1 : World} (H : AR N0 mla ml vt σ h nx own w.heap.size w1) : AR N0 mla ml vt σ h nx (mine own w.heap.size w1) w1.heap.size w1 := by
  have hm : ∀ b, mine own w.heap.size w1 b → mine (mine own w.heap.size w1) w1.heap.size w1 b := fun b hb => .inl hb
  refine ⟨H.dom, fun id p ob h1 h2 => hm _ (H.has id p ob h1 h2), H.low, H.hlow, H.inj, H.obs, H.vts, H.fr, H.frx, fun id p ob h1 h2 => hm _ (H.fro id p ob h1 h2), H.frl, H.glob, ⟨Nat.le_trans H.n0le.1 H.n0le.2, Nat.le_refl _⟩, fun b hb => ?_⟩
  rcases hb with hb | hb
  · exact H.apart b hb
  · have := H.n0le.1; omega
theorem St.agree {c : Cfg} {w1 : World} {σ : Sg} {vt : Vt} {vs : List Gb.P} {vss : List (List Gb.P)} {ids : List Gb.P} {f : Frame} {fs : List Frame} (S : St P N0 mla ml θ c io own w σ vt vs vss ids f fs) (a : Agree N0 own w w1) : St P N0 mla ml θ c io own w1 σ vt vs vss ids f fs :=
  ⟨S.ar.agree a, S.top, S.cs, S.io, S.vids, S.nodup, S.hf, S.kept.agree a, fun b hb => Nat.lt_of_lt_of_le (S.lt b hb) a.size⟩
theorem does_refl : Does N0 own own w w #[] := ⟨rfl, rfl, rfl, Nat.le_refl _, fun _ _ _ => rfl, fun _ h => .inl h, fun _ h => .inl h, by simp, by simp⟩
theorem mine_lt {own : Own} {w w' : World} (h : ∀ b, own b → b < w.heap.size) (hs : w.heap.size ≤ w'.heap.size) : ∀ b, mine own w.heap.size w' b → b < w'.heap.size := fun b hb => hb.elim (fun x => Nat.lt_of_lt_of_le (h b x) hs) fun x => x.2
theorem FBeh.off {g : Goroutine} (h : FBeh P N0 ml θ Post io own g w) (hz : θ.Free) : Beh P N0 (MsgR N0 ml) Post io own g w := h own ⟨fun b => ⟨.inl, fun x => x.elim id fun x => absurd x (hz.2 b)⟩, fun b hb => absurd hb (hz.2 b)⟩
theorem FBeh.of {g : Goroutine} (h : Beh P N0 (MsgR N0 ml) Post io own g w) (hz : θ.Free) : FBeh P N0 ml θ Post io own g w := by
  intro own' hf
  have : own' = own := funext fun b => propext ⟨fun x => ((hf.1 b).1 x).elim id fun x => absurd x (hz.2 b), fun x => (hf.1 b).2 (.inl x)⟩
  rw [this]; exact h
/-- One step of one's own. -/
theorem beh_go {f : Frame} {cs : List Frame} (h : ∀ w1, Agree N0 own w w1 → ∃ own' f' cs' w' es, stepG P io.main (G f cs) w1 = .go (G f' cs') w' es ∧ Does N0 own own' w1 w' es ∧ FBeh P N0 ml θ Post io own' (G f' cs') w') :
    FBeh P N0 ml θ Post io own (G f cs) w := by
  intro ownx hx
  refine Beh.intro P N0 (MsgR N0 ml) Post ⟨rfl, fun w1 a => ?_⟩
  obtain ⟨own', f', cs', w', es, h1, h2, h3⟩ := h w1 (a.mono fun b hb => (hx.1 b).2 (.inl hb))
  have fx : ∀ b, θ.X b → ¬ own b ∧ N0 ≤ b ∧ b < w1.heap.size ∧ w1.heap[b]? = θ.w0.heap[b]? := fun b hb => by
    obtain ⟨x1, x2, x3, x4⟩ := hx.2 b hb
    exact ⟨x1, x2, Nat.lt_of_lt_of_le x3 a.size, (a.own b ((hx.1 b).2 (.inr hb))).trans x4⟩
  refine .go (own' := fun b => own' b ∨ θ.X b) h1 rfl ⟨h2.os, h2.tape, h2.output, h2.size, fun b hb hn => h2.keep b hb fun x => hn ((hx.1 b).2 (.inl x)), fun b hb => ?_, h2.chans, h2.marks, fun e he x hx' b hb => ?_⟩ (h3 _ ⟨fun b => Iff.rfl, fun b hb => ?_⟩)
  · rcases hb with hb | hb
    · exact (h2.grows b hb).imp (fun x => (hx.1 b).2 (.inl x)) fun x => x
    · exact .inl ((hx.1 b).2 (.inr hb))
  · obtain ⟨y1, y2, y3⟩ := h2.touch e he x hx' b hb
    exact ⟨y1, y2, y3.imp .inl fun x => x⟩
  · obtain ⟨x1, x2, x3, x4⟩ := fx b hb
    refine ⟨fun x => ?_, x2, Nat.lt_of_lt_of_le x3 h2.size, (h2.keep b x3 x1).trans x4⟩
    rcases h2.grows b x with y | y
    · exact x1 y
    · omega
/-- A move of control. -/
theorem okay_move {c c' : Cfg} (hcs : c'.cs = c.cs) (hh : c'.h = c.h) (hnx : c'.nx = c.nx) (hio : c'.io = c.io) (hmv : ∀ σ vs f, FrR P N0 mla ml σ vs c.top f → ∃ f', (∀ main cs w, stepG P main (G f cs) w = .go (G f' cs) w #[]) ∧ FrR P N0 mla ml σ vs c'.top f')
    (hc : Okay P N0 mla ml θ Post c') : Okay P N0 mla ml θ Post c := by
  rintro io own g w ⟨σ, vt, vs, vss, ids, f, fs, rfl, S⟩
  obtain ⟨f', h1, h2⟩ := hmv σ vs f S.top
  refine beh_go fun w1 a => ⟨own, f', fs ++ θ.outer, w1, #[], h1 _ _ _, does_refl, hc io own _ w1 ?_⟩
  have S1 := S.agree a
  exact ⟨σ, vt, vs, vss, ids, f', fs, rfl, ⟨by rw [hh, hnx]; exact S1.ar, h2, by rw [hcs]; exact S1.cs, by rw [hio]; exact S1.io, S1.vids, S1.nodup, S1.hf, S1.kept, S1.lt⟩⟩
/-- An item that is no drawn region. -/
def NoDg : List AIt → Prop
  | .dg _ _ :: _ => False
  | _ => True
theorem pnd_no {todo : List AIt} {k : List Item} (h : NoDg todo) : Pnd todo k = fun _ => False := by
  funext p
  cases todo with
  | nil => rfl
  | cons a l => cases a <;> first | rfl | exact h.elim
theorem vids_no {todo : List AIt} {k : List Item} {regs : Regs} {vs : List Gb.P} (h : NoDg todo) (hv : Vids todo k regs vs) : vs = [] := by
  cases todo with
  | nil => exact hv
  | cons a l => cases a <;> first | exact hv | exact h.elim
theorem vids_nil {todo : List AIt} {k : List Item} {regs : Regs} (h : NoDg todo) : Vids todo k regs [] := by
  cases todo with
  | nil => rfl
  | cons a l => cases a <;> first | rfl | exact h.elim
end
end Go.Gb
end
section
/-! Moves of control. -/
set_option linter.unusedSimpArgs false
set_option linter.unusedVariables false
set_option linter.unusedSectionVars false
namespace Go.Gb
open Go.Conc
section
variable {P : Program} {N0 : Nat} {mla : Addr} {ml : Gl} {θ : Th} {Post : Value → World → Prop}
theorem noDg_of {l : List AIt} (h : ∀ x ∈ l, NotDg x) : NoDg l := by
  cases l with
  | nil => trivial
  | cons a l => have := h a (by simp); cases a <;> first | trivial | exact this.elim
/-- A running frame whose head item is no drawn region. -/
structure Run (σ : Sg) (fn : Gb.P) (nt : Nat) (regs : Regs) (it : AIt) (k : List AIt) (ds : List ATgt) (dfd : Bool) (rd : Option Gb.P) (f : Frame) (b : Item) (k' : List Item) : Prop where
  todo : f.todo = b :: k'
  mode : f.mode = .run
  it : ItR P N0 mla ml σ nt it b
  its : ItsR P N0 mla ml σ nt k k'
  tail : ∀ x ∈ k, NotDg x
  regs : RegR ml σ regs ⟨f.tmps, f.defers⟩
theorem FrR.run {σ : Sg} {vs : List Gb.P} {fn : Gb.P} {nt : Nat} {regs : Regs} {it : AIt} {k : List AIt} {ds : List ATgt} {dfd : Bool} {rd : Option Gb.P} {f : Frame} (h : FrR P N0 mla ml σ vs ⟨fn, nt, regs, it :: k, ds, .run, dfd, rd⟩ f) (hn : NotDg it) :
    ∃ b k', Run (P := P) (N0 := N0) (mla := mla) (ml := ml) σ fn nt regs it k ds dfd rd f b k' ∧ vs = [] := by
  have h1 := h.todo
  have hm := h.md
  cases hf : f.todo with
  | nil => rw [hf] at h1; exact h1.elim
  | cons b k' =>
    rw [hf] at h1
    have hnd : NoDg (it :: k) := by cases it <;> first | trivial | exact hn.elim
    refine ⟨b, k', ⟨hf, ?_, h1.1, h1.2, h.tail, fun p v hv => h.regs p v hv ?_⟩, vids_no hnd h.vids⟩
    · cases hmm : f.mode <;> rw [hmm] at hm <;> first | rfl | exact hm.elim
    · rw [pnd_no hnd]; exact fun x => x
/-- The items of a running frame are laid anew. -/
theorem FrR.items {σ : Sg} {vs : List Gb.P} {fn : Gb.P} {nt : Nat} {regs : Regs} {it : AIt} {k : List AIt} {ds : List ATgt} {dfd : Bool} {rd : Option Gb.P} {f : Frame} (h : FrR P N0 mla ml σ vs ⟨fn, nt, regs, it :: k, ds, .run, dfd, rd⟩ f) (hn : NotDg it)
    {k2 : List AIt} {k3 : List Item} (hk : ItsR P N0 mla ml σ nt k2 k3) (h2 : ∀ x ∈ k2, NotDg x) : FrR P N0 mla ml σ vs ⟨fn, nt, regs, k2, ds, .run, dfd, rd⟩ { f with todo := k3 } := by
  obtain ⟨b, k', R, rfl⟩ := h.run hn
  refine ⟨h.fn, h.nt, fun p v hv _ => R.regs p v hv, hk, fun x hx => h2 x (List.mem_of_mem_tail hx), vids_nil (noDg_of h2), h.defers, h.md, h.kind, h.round⟩
theorem stepG_run {main : Bool} {f : Frame} {cs : List Frame} {w : World} (hm : f.mode = .run) : stepG P main (G f cs) w = stepG.exec P main true f cs none w := by
  obtain ⟨fn, tmps, todo, defers, mode, kind, roundOf⟩ := f
  simp only at hm
  subst hm
  rfl
variable {c : Cfg} {fn : Gb.P} {nt : Nat} {regs : Regs} {it : AIt} {k : List AIt} {ds : List ATgt} {dfd : Bool} {rd : Option Gb.P} {cs : List Fr} {h : Heap} {nx : Gb.P} {io : AIo}
/-- A step that lays the items anew and does nothing else. -/
theorem okay_items {k2 : List AIt} (hn : NotDg it) (hmv : ∀ σ f b k', Run (P := P) (N0 := N0) (mla := mla) (ml := ml) σ fn nt regs it k ds dfd rd f b k' → ∃ k3, (∀ main cs w, stepG P main (G f cs) w = .go (G { f with todo := k3 } cs) w #[]) ∧ ItsR P N0 mla ml σ nt k2 k3) (h2 : (∀ x ∈ k, NotDg x) → ∀ x ∈ k2, NotDg x)
    (hc : Okay P N0 mla ml θ Post ⟨⟨fn, nt, regs, k2, ds, .run, dfd, rd⟩, cs, h, nx, io⟩) : Okay P N0 mla ml θ Post ⟨⟨fn, nt, regs, it :: k, ds, .run, dfd, rd⟩, cs, h, nx, io⟩ := by
  refine okay_move (c' := ⟨⟨fn, nt, regs, k2, ds, .run, dfd, rd⟩, cs, h, nx, io⟩) rfl rfl rfl rfl (fun σ vs f H => ?_) hc
  obtain ⟨b, k', R, hv⟩ := FrR.run H hn
  obtain ⟨k3, h3, h4⟩ := hmv σ f b k' R
  exact ⟨_, h3, FrR.items H hn h4 (h2 R.tail)⟩
theorem go_todo {f : Frame} {b : Item} {k' k3 : List Item} (hm : f.mode = .run) (ht : f.todo = b :: k') (h : ∀ main cs w, stepG.exec P main true f cs none w = .go { frame := { f with todo := k3 }, callers := cs, status := .running, dying := none } w) : ∀ main cs w, stepG P main (G f cs) w = .go (G { f with todo := k3 } cs) w #[] := by
  intro main cs w
  rw [stepG_run hm, h]; rfl
theorem okay_code {a : Code} {k2 : List AIt} (h2 : ∀ x ∈ k2, NotDg x) (hmv : ∀ σ f k', f.mode = .run → f.todo = .code a :: k' → RegR ml σ regs ⟨f.tmps, f.defers⟩ → ∃ k3, (∀ main cs w, stepG.exec P main true f cs none w = .go { frame := { f with todo := k3 ++ k' }, callers := cs, status := .running, dying := none } w) ∧ (∀ k'', ItsR P N0 mla ml σ nt k k'' → ItsR P N0 mla ml σ nt (k2 ++ k) (k3 ++ k'')))
    (hc : Okay P N0 mla ml θ Post ⟨⟨fn, nt, regs, k2 ++ k, ds, .run, dfd, rd⟩, cs, h, nx, io⟩) : Okay P N0 mla ml θ Post ⟨⟨fn, nt, regs, .code a :: k, ds, .run, dfd, rd⟩, cs, h, nx, io⟩ := by
  refine okay_items (k2 := k2 ++ k) trivial (fun σ f b k' R => ?_) (fun hk x hx => ?_) hc
  · have hb := R.it
    cases b <;> try exact hb.elim
    rename_i c
    have hb : c = a := hb
    subst hb
    obtain ⟨k3, h3, h4⟩ := hmv σ f k' R.mode R.todo R.regs
    exact ⟨k3 ++ k', go_todo R.mode R.todo h3, h4 _ R.its⟩
  · rcases List.mem_append.1 hx with hx | hx
    · exact h2 x hx
    · exact hk x hx
theorem exec_items {f : Frame} {main : Bool} {cs : List Frame} {w : World} {a : Code} {k' : List Item} (ht : f.todo = .code a :: k') :
    (a = .skip → stepG.exec P main true f cs none w = .go { frame := { f with todo := k' }, callers := cs, status := .running, dying := none } w) ∧
    (∀ l, a = .label l → stepG.exec P main true f cs none w = .go { frame := { f with todo := k' }, callers := cs, status := .running, dying := none } w) ∧
    (∀ x y, a = .seq x y → stepG.exec P main true f cs none w = .go { frame := { f with todo := .code x :: .code y :: k' }, callers := cs, status := .running, dying := none } w) ∧
    (∀ i x, a = .block i x → stepG.exec P main true f cs none w = .go { frame := { f with todo := .code x :: .inBlock i :: k' }, callers := cs, status := .running, dying := none } w) ∧
    (∀ x, a = .loop x → stepG.exec P main true f cs none w = .go { frame := { f with todo := .code x :: .inLoop x :: k' }, callers := cs, status := .running, dying := none } w) ∧
    (∀ x, a = .scope x → stepG.exec P main true f cs none w = .go { frame := { f with todo := .code x :: .inScope x :: k' }, callers := cs, status := .running, dying := none } w) ∧
    (∀ x y z b, a = .cond x y z → f.eval x = .bool b → stepG.exec P main true f cs none w = .go { frame := { f with todo := .code (if b then y else z) :: k' }, callers := cs, status := .running, dying := none } w) ∧
    (∀ id ops, a = .region id ops false → stepG.exec P main true f cs none w = .go { frame := { f with todo := .inRegion ops (List.range ops.size) :: k' }, callers := cs, status := .running, dying := none } w) ∧
    (∀ id k3, a = .exit id → exitTo id k' = some k3 → stepG.exec P main true f cs none w = .go { frame := { f with todo := k3 }, callers := cs, status := .running, dying := none } w) := by
  refine ⟨?_, ?_, ?_, ?_, ?_, ?_, ?_, ?_, ?_⟩
  · rintro rfl; simp [stepG.exec, ht]
  · rintro l rfl; simp [stepG.exec, ht]
  · rintro x y rfl; simp [stepG.exec, ht]
  · rintro i x rfl; simp [stepG.exec, ht]
  · rintro x rfl; simp [stepG.exec, ht]
  · rintro x rfl; simp [stepG.exec, ht]
  · rintro x y z b rfl hb; simp [stepG.exec, ht, hb]
  · rintro id ops rfl; simp [stepG.exec, ht]
  · rintro id k3 rfl he; simp [stepG.exec, ht, he]
theorem feval (f : Frame) (x : Operand) : f.eval x = (⟨f.tmps, f.defers⟩ : Act).eval x := by cases x <;> rfl
theorem okay_skip (hc : Okay P N0 mla ml θ Post ⟨⟨fn, nt, regs, k, ds, .run, dfd, rd⟩, cs, h, nx, io⟩) : Okay P N0 mla ml θ Post ⟨⟨fn, nt, regs, .code .skip :: k, ds, .run, dfd, rd⟩, cs, h, nx, io⟩ :=
  okay_code (k2 := []) (by simp) (fun σ f k' hm ht _ => ⟨[], fun main cs w => (exec_items ht).1 rfl, fun k'' hk => hk⟩) hc
theorem okay_label {l : Nat} (hc : Okay P N0 mla ml θ Post ⟨⟨fn, nt, regs, k, ds, .run, dfd, rd⟩, cs, h, nx, io⟩) : Okay P N0 mla ml θ Post ⟨⟨fn, nt, regs, .code (.label l) :: k, ds, .run, dfd, rd⟩, cs, h, nx, io⟩ :=
  okay_code (k2 := []) (by simp) (fun σ f k' hm ht _ => ⟨[], fun main cs w => (exec_items ht).2.1 l rfl, fun k'' hk => hk⟩) hc
theorem okay_seq {x y : Code} (hc : Okay P N0 mla ml θ Post ⟨⟨fn, nt, regs, .code x :: .code y :: k, ds, .run, dfd, rd⟩, cs, h, nx, io⟩) : Okay P N0 mla ml θ Post ⟨⟨fn, nt, regs, .code (.seq x y) :: k, ds, .run, dfd, rd⟩, cs, h, nx, io⟩ :=
  okay_code (k2 := [.code x, .code y]) (by simp [NotDg]) (fun σ f k' hm ht _ => ⟨[.code x, .code y], fun main cs w => (exec_items ht).2.2.1 x y rfl, fun k'' hk => ⟨rfl, rfl, hk⟩⟩) hc
theorem okay_block {i : Nat} {x : Code} (hc : Okay P N0 mla ml θ Post ⟨⟨fn, nt, regs, .code x :: .inBlock i :: k, ds, .run, dfd, rd⟩, cs, h, nx, io⟩) : Okay P N0 mla ml θ Post ⟨⟨fn, nt, regs, .code (.block i x) :: k, ds, .run, dfd, rd⟩, cs, h, nx, io⟩ :=
  okay_code (k2 := [.code x, .inBlock i]) (by simp [NotDg]) (fun σ f k' hm ht _ => ⟨[.code x, .inBlock i], fun main cs w => (exec_items ht).2.2.2.1 i x rfl, fun k'' hk => ⟨rfl, rfl, hk⟩⟩) hc
theorem okay_loop {x : Code} (hc : Okay P N0 mla ml θ Post ⟨⟨fn, nt, regs, .code x :: .inLoop x :: k, ds, .run, dfd, rd⟩, cs, h, nx, io⟩) : Okay P N0 mla ml θ Post ⟨⟨fn, nt, regs, .code (.loop x) :: k, ds, .run, dfd, rd⟩, cs, h, nx, io⟩ :=
  okay_code (k2 := [.code x, .inLoop x]) (by simp [NotDg]) (fun σ f k' hm ht _ => ⟨[.code x, .inLoop x], fun main cs w => (exec_items ht).2.2.2.2.1 x rfl, fun k'' hk => ⟨rfl, rfl, hk⟩⟩) hc
theorem okay_scope {x : Code} (hc : Okay P N0 mla ml θ Post ⟨⟨fn, nt, regs, .code x :: .inScope x :: k, ds, .run, dfd, rd⟩, cs, h, nx, io⟩) : Okay P N0 mla ml θ Post ⟨⟨fn, nt, regs, .code (.scope x) :: k, ds, .run, dfd, rd⟩, cs, h, nx, io⟩ :=
  okay_code (k2 := [.code x, .inScope x]) (by simp [NotDg]) (fun σ f k' hm ht _ => ⟨[.code x, .inScope x], fun main cs w => (exec_items ht).2.2.2.2.2.1 x rfl, fun k'' hk => ⟨rfl, rfl, hk⟩⟩) hc
theorem okay_cond {x : Operand} {y z : Code} {r : Rs} (e : (oK x fun c => opdK c regs fun v => tfK v (some (.go ⟨⟨fn, nt, regs, .code y :: k, ds, .run, dfd, rd⟩, cs, h, nx, io⟩)) (some (.go ⟨⟨fn, nt, regs, .code z :: k, ds, .run, dfd, rd⟩, cs, h, nx, io⟩))) = some r) :
    ∃ c', r = .go c' ∧ (Okay P N0 mla ml θ Post c' → Okay P N0 mla ml θ Post ⟨⟨fn, nt, regs, .code (.cond x y z) :: k, ds, .run, dfd, rd⟩, cs, h, nx, io⟩) := by
  obtain ⟨x', hx, e⟩ := oK_inv e
  obtain ⟨v, hv, e⟩ := opdK_inv e
  obtain ⟨b, rfl, e⟩ := tfK_inv e
  refine ⟨⟨⟨fn, nt, regs, .code (if b then y else z) :: k, ds, .run, dfd, rd⟩, cs, h, nx, io⟩, ?_, fun hc => okay_code (k2 := [.code (if b then y else z)]) (by simp [NotDg]) (fun σ f k' hm ht hr => ⟨[.code (if b then y else z)], fun main cs w => (exec_items ht).2.2.2.2.2.2.1 x y z b rfl ?_, fun k'' hk => ⟨rfl, hk⟩⟩) hc⟩
  · cases b with
    | true => exact (Option.some.inj e).symm
    | false => exact (Option.some.inj e).symm
  · rw [feval]
    have : ∃ v', VR ml σ v' ((⟨f.tmps, f.defers⟩ : Act).eval x) ∧ some v' = some (V.bool b) := opd_rel (k := some) hr hx (by
      cases x' with
      | r p => simp only [opdK]; rw [hv]; rfl
      | c v' => simp only [opdK]; rw [← hv])
    obtain ⟨v', h1, h2⟩ := this
    cases h2
    exact vr_bool h1
end
end Go.Gb
end
