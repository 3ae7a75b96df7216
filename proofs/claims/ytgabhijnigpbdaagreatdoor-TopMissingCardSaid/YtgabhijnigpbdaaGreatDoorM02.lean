/- A part of the proof of the statement Rows.TopMissingCardSaid (at every argument the law returns true on every schedule, and its argument reads as before; the listed variables as laid). This text: a stepper over symbolic states of the translated program and its soundness, part 2 of 41. -/
import Derived.Test.YtgabhijnigpbdaaGreatDoorM01
section
/-! What one goroutine does, in whatever company. -/
namespace Go.Gb
open Go.Conc

structure Agree (N0 : Nat) (own : Own) (w w' : World) : Prop where
  os : w'.os = w.os
  tape : w'.tape = w.tape
  output : w'.output = w.output
  size : w.heap.size ≤ w'.heap.size
  base : ∀ b, b < N0 → w'.heap[b]? = w.heap[b]?
  own : ∀ b, own b → w'.heap[b]? = w.heap[b]?
theorem Agree.refl (N0 : Nat) (own : Own) (w : World) : Agree N0 own w w := ⟨rfl, rfl, rfl, Nat.le_refl _, fun _ _ => rfl, fun _ _ => rfl⟩
theorem Agree.at (N0 : Nat) (own : Own) (w : World) (d : Nat) : Agree N0 own w (w.at d) := ⟨rfl, rfl, rfl, Nat.le_refl _, fun _ _ => rfl, fun _ _ => rfl⟩
theorem Agree.trans {N0 : Nat} {own : Own} {a b c : World} (h : Agree N0 own a b) (h' : Agree N0 own b c) : Agree N0 own a c :=
  ⟨h'.os.trans h.os, h'.tape.trans h.tape, h'.output.trans h.output, Nat.le_trans h.size h'.size, fun k hk => (h'.base k hk).trans (h.base k hk), fun k hk => (h'.own k hk).trans (h.own k hk)⟩
theorem Agree.mono {N0 : Nat} {own own' : Own} {a b : World} (h : Agree N0 own a b) (hs : ∀ k, own' k → own k) : Agree N0 own' a b :=
  ⟨h.os, h.tape, h.output, h.size, h.base, fun k hk => h.own k (hs k hk)⟩

def ChanAt (w : World) (b : Nat) : Prop := ∃ cap buf cl s r tm, w.heap[b]? = some (.chan cap buf cl s r tm)

/-- A step of one's own: from w to w', with these accesses; what was own is own', what is new may be. -/
structure Does (N0 : Nat) (own own' : Own) (w w' : World) (es : Array Event) : Prop where
  os : w'.os = w.os
  tape : w'.tape = w.tape
  output : w'.output = w.output
  size : w.heap.size ≤ w'.heap.size
  keep : ∀ b, b < w.heap.size → ¬ own b → w'.heap[b]? = w.heap[b]?
  grows : ∀ b, own' b → own b ∨ (w.heap.size ≤ b ∧ b < w'.heap.size)
  chans : ∀ b, ChanAt w' b → ChanAt w b ∨ w.heap.size ≤ b
  marks : ∀ e ∈ es, ∀ m, e.loc = .mark m → Neutral m
  touch : ∀ e ∈ es, ∀ x, (MemAct.ofEvent e).touch? = some x → ∀ b, blk x.loc = some b → b < w'.heap.size ∧ (ChanAt w' b → x.kind = .atomic) ∧ (own' b ∨ (b < N0 ∧ x.write = false))

/-- Where a goroutine stands in the one protocol: alone; with a worker under way, who will still send 'ms' over c (e: nobody uses it); that worker. -/
inductive Io (M : Type) where
  | solo
  | duo (c e : Nat) (ms : List M)
  | work (c e : Nat) (ms : List M)
def Io.main {M : Type} : Io M → Bool
  | .work .. => false
  | _ => true

/-- The same goroutine, but for what it offers. -/
structure Like (h g : Goroutine) : Prop where
  frame : h.frame = g.frame
  callers : h.callers = g.callers
  dying : h.dying = g.dying

section
variable {M : Type}
variable (P : Program) (N0 : Nat) (Msg : M → Value → World → Own → Prop) (Post : Value → World → Prop)

abbrev Rl (M : Type) := Io M → Own → Goroutine → World → Prop

/-- The next step of a goroutine in world w. -/
inductive Next1 (R : Rl M) : Rl M
  | go {io : Io M} {own own' : Own} {g g' : Goroutine} {w w' : World} {es : Array Event} (h : stepG P io.main g w = .go g' w' es) (hs : g'.status = .running)
      (hd : Does N0 own own' w w' es) (hr : R io own' g' w') : Next1 R io own g w
  | spawn {own own' ownc : Own} {g g' child : Goroutine} {w w' : World} {es : Array Event} {c e s s' r' : Nat} {tm tm' : Bool} {ms : List M} (h : stepG P true g w = .spawn g' child w' es)
      (hs : g'.status = .running) (hs' : child.status = .running) (hd : Does N0 own (fun b => own' b ∨ ownc b ∨ b = c ∨ b = e) w w' es)
      (hc : w'.heap[c]? = some (.chan 0 #[] false s s tm)) (he : w'.heap[e]? = some (.chan 0 #[] false s' r' tm')) (hce : c ≠ e)
      (d1 : ∀ b, own' b → ¬ ownc b ∧ b ≠ c ∧ b ≠ e) (d2 : ∀ b, ownc b → b ≠ c ∧ b ≠ e) (hr : R (.duo c e ms) own' g' w') (hr' : R (.work c e ms) ownc child w') : Next1 R .solo own g w
  | recv {own : Own} {g g₂ : Goroutine} {w : World} {c e : Nat} {m : M} {ms : List M} {z : Value} {f : Bool} (h : stepG P true g w = .comm g₂ #[rcase c z] true (.recv f) w #[]) (hl : Like g₂ g)
      (hr : ∀ v w₂ ownm, Agree N0 own w w₂ → Msg m v w₂ ownm → (∀ b, own b → ¬ ownm b) → R (.duo c e ms) (fun b => own b ∨ ownm b) (Go.Conc.served g₂ (recvd f v true)) w₂) : Next1 R (.duo c e (m :: ms)) own g w
  | shut {own : Own} {g g₂ : Goroutine} {w : World} {c e : Nat} {z : Value} {f : Bool} (h : stepG P true g w = .comm g₂ #[rcase c z] true (.recv f) w #[]) (hl : Like g₂ g)
      (hr : ∀ w₂, Agree N0 own w w₂ → R .solo own (Go.Conc.served g₂ (recvd f z false)) w₂) : Next1 R (.duo c e []) own g w
  | send {own own' ownm : Own} {g g₂ : Goroutine} {w : World} {c e : Nat} {m : M} {ms : List M} {v z z' : Value} (h : stepG P false g w = .comm g₂ #[scase c v z, rcase e z'] true .select w #[]) (hl : Like g₂ g)
      (hm : Msg m v w ownm) (ho : ∀ b, own b ↔ (own' b ∨ ownm b)) (hd : ∀ b, own' b → ¬ ownm b)
      (hr : ∀ w₂, Agree N0 own w w₂ → R (.work c e ms) own' (g₂.finishComm P #[scase c v z, rcase e z'] .select 0 undef false) w₂) : Next1 R (.work c e (m :: ms)) own g w
  | close {own : Own} {g g' : Goroutine} {w : World} {c e n : Nat} (hw : mayWake P g = true)
      (h : ∀ s r tm, w.heap[c]? = some (.chan 0 #[] false s r tm) → stepG P false g w = .go g' (w.setChan c 0 #[] true s r tm) #[⟨.obj c, false, true⟩, ⟨.obj c, true, true⟩]) (hq : QuitsIn P n g') : Next1 R (.work c e []) own g w
  | stop {own : Own} {g : Goroutine} {w w' : World} {v : Value} (h : stepG P true g w = .ended (.done v) w' #[]) (hp : Post v w') : Next1 R .solo own g w
  | room {own : Own} {g g₂ : Goroutine} {w : World} {r cap s k : Nat} {tm : Bool} {buf : Array Value} {v z : Value} (h : stepG P true g w = .comm g₂ #[scase r v z] false .select w #[]) (ho : own r)
      (hc : w.heap[r]? = some (.chan cap buf false s k tm)) (hb : buf.size < cap) (hr : R .solo own (g₂.finishComm P #[scase r v z] .select 0 undef false) (w.setChan r cap (buf.push v) false (s + 1) k tm)) : Next1 R .solo own g w
  | full {own : Own} {g g₂ : Goroutine} {w : World} {r cap s k : Nat} {tm : Bool} {buf : Array Value} {v z : Value} (h : stepG P true g w = .comm g₂ #[scase r v z] false .select w #[]) (ho : own r)
      (hc : w.heap[r]? = some (.chan cap buf false s k tm)) (hb : cap ≤ buf.size) (hr : R .solo own (g₂.finishComm P #[scase r v z] .select (-1) undef false) w) : Next1 R .solo own g w
  | take {own : Own} {g g₂ : Goroutine} {w : World} {r cap s k : Nat} {tm : Bool} {buf : Array Value} {z : Value} (h : stepG P true g w = .comm g₂ #[rcase r z] false .select w #[]) (ho : own r)
      (hc : w.heap[r]? = some (.chan cap buf false s k tm)) (hb : 0 < buf.size) (hr : R .solo own (g₂.finishComm P #[rcase r z] .select 0 (buf.getD 0 undef) true) (w.setChan r cap (buf.extract 1 buf.size) false s (k + 1) tm)) : Next1 R .solo own g w
  | none {own : Own} {g g₂ : Goroutine} {w : World} {r cap s k : Nat} {tm : Bool} {z : Value} (h : stepG P true g w = .comm g₂ #[rcase r z] false .select w #[]) (ho : own r)
      (hc : w.heap[r]? = some (.chan cap #[] false s k tm)) (hr : R .solo own (g₂.finishComm P #[rcase r z] .select (-1) undef false) w) : Next1 R .solo own g w

theorem Next1.mono {R R' : Rl M} (h : ∀ io own g w, R io own g w → R' io own g w) {io : Io M} {own : Own} {g : Goroutine} {w : World} (x : Next1 P N0 Msg Post R io own g w) : Next1 P N0 Msg Post R' io own g w := by
  cases x with
  | go a b c d => exact .go a b c (h _ _ _ _ d)
  | spawn a b c d e f g i j k l => exact .spawn a b c d e f g i j (h _ _ _ _ k) (h _ _ _ _ l)
  | recv a b c => exact .recv a b fun v w₂ o x y z => h _ _ _ _ (c v w₂ o x y z)
  | shut a b c => exact .shut a b fun w₂ x => h _ _ _ _ (c w₂ x)
  | send a b c d e f => exact .send a b c d e fun w₂ x => h _ _ _ _ (f w₂ x)
  | close a b c => exact .close a b c
  | stop a b => exact .stop a b
  | room a b c d e => exact .room a b c d (h _ _ _ _ e)
  | full a b c d e => exact .full a b c d (h _ _ _ _ e)
  | take a b c d e => exact .take a b c d (h _ _ _ _ e)
  | none a b c d => exact .none a b c (h _ _ _ _ d)

/-- It runs; whatever the others have done, this is its next step. -/
def Body (R : Rl M) : Rl M := fun io own g w => g.status = .running ∧ ∀ w₁, Agree N0 own w w₁ → Next1 P N0 Msg Post R io own g w₁
/-- The least such. -/
def Beh : Rl M := fun io own g w => ∀ R : Rl M, (∀ io own g w, Body P N0 Msg Post R io own g w → R io own g w) → R io own g w

theorem Body.mono {R R' : Rl M} (h : ∀ io own g w, R io own g w → R' io own g w) {io : Io M} {own : Own} {g : Goroutine} {w : World} (x : Body P N0 Msg Post R io own g w) : Body P N0 Msg Post R' io own g w :=
  ⟨x.1, fun w₁ a => (x.2 w₁ a).mono P N0 Msg Post h⟩
theorem Beh.intro {io : Io M} {own : Own} {g : Goroutine} {w : World} (x : Body P N0 Msg Post (Beh P N0 Msg Post) io own g w) : Beh P N0 Msg Post io own g w :=
  fun R hR => hR _ _ _ _ (x.mono P N0 Msg Post fun _ _ _ _ y => y R hR)
theorem Beh.out {io : Io M} {own : Own} {g : Goroutine} {w : World} (x : Beh P N0 Msg Post io own g w) : Body P N0 Msg Post (Beh P N0 Msg Post) io own g w :=
  x _ fun _ _ _ _ y => y.mono P N0 Msg Post fun _ _ _ _ z => Beh.intro P N0 Msg Post z
/-- Induction along the steps; the hypothesis holds of what is behind the step, and that is a behaviour too. -/
theorem Beh.ind {Q : Rl M} (h : ∀ io own g w, Body P N0 Msg Post (fun io own g w => Beh P N0 Msg Post io own g w ∧ Q io own g w) io own g w → Q io own g w) {io : Io M} {own : Own} {g : Goroutine} {w : World}
    (x : Beh P N0 Msg Post io own g w) : Q io own g w :=
  (x (fun io own g w => Beh P N0 Msg Post io own g w ∧ Q io own g w) fun _ _ _ _ y => ⟨Beh.intro P N0 Msg Post (y.mono P N0 Msg Post fun _ _ _ _ z => z.1), h _ _ _ _ y⟩).2
theorem Body.agree {R : Rl M} {io : Io M} {own : Own} {g : Goroutine} {w w' : World} (x : Body P N0 Msg Post R io own g w) (a : Agree N0 own w w') : Body P N0 Msg Post R io own g w' :=
  ⟨x.1, fun w₁ b => x.2 w₁ (a.trans b)⟩
theorem Beh.agree {io : Io M} {own : Own} {g : Goroutine} {w w' : World} (x : Beh P N0 Msg Post io own g w) (a : Agree N0 own w w') : Beh P N0 Msg Post io own g w' :=
  Beh.intro P N0 Msg Post ((x.out P N0 Msg Post).agree P N0 Msg Post a)
end
end Go.Gb
end
section
/-! What an operation of the model does, step by step: its result, its accesses, who owns what. -/
set_option linter.unusedSimpArgs false
set_option linter.unusedVariables false
namespace Go.Gb
open Go.Conc

/-- What is mine in the midst of a step that began where the heap had n0 blocks. -/
def mine (own : Own) (n0 : Nat) (w : World) : Own := fun b => own b ∨ (n0 ≤ b ∧ b < w.heap.size)

structure Part (N0 : Nat) (own : Own) (n0 : Nat) (w w' : World) (es : Array Event) : Prop where
  os : w'.os = w.os
  tape : w'.tape = w.tape
  output : w'.output = w.output
  size : w.heap.size ≤ w'.heap.size
  keep : ∀ b, b < w.heap.size → ¬ mine own n0 w b → w'.heap[b]? = w.heap[b]?
  chans : ∀ b, ChanAt w' b → ChanAt w b ∨ w.heap.size ≤ b
  marks : ∀ e ∈ es, ∀ m, e.loc = .mark m → Neutral m ∨ ∃ f, m = .extern f
  touch : ∀ e ∈ es, ∀ x, (MemAct.ofEvent e).touch? = some x → ∀ b, blk x.loc = some b → b < w'.heap.size ∧ (ChanAt w' b → x.kind = .atomic) ∧ (mine own n0 w' b ∨ (b < N0 ∧ x.write = false))
theorem Part.refl (N0 : Nat) (own : Own) (n0 : Nat) (w : World) : Part N0 own n0 w w #[] := ⟨rfl, rfl, rfl, Nat.le_refl _, fun _ _ _ => rfl, fun _ h => .inl h, by simp, by simp⟩
theorem mine_mono {own : Own} {n0 b : Nat} {w w' : World} (h : w.heap.size ≤ w'.heap.size) (hm : mine own n0 w b) : mine own n0 w' b := hm.imp id fun x => ⟨x.1, Nat.lt_of_lt_of_le x.2 h⟩
theorem Part.trans {N0 : Nat} {own : Own} {n0 : Nat} {w w' w'' : World} {es es' : Array Event} (h : Part N0 own n0 w w' es) (h' : Part N0 own n0 w' w'' es') : Part N0 own n0 w w'' (es ++ es') := by
  refine ⟨h'.os.trans h.os, h'.tape.trans h.tape, h'.output.trans h.output, Nat.le_trans h.size h'.size, fun b hb hm => ?_, fun b hb => ?_, fun e he => ?_, fun e he x hx b hb => ?_⟩
  · rw [h'.keep b (Nat.lt_of_lt_of_le hb h.size) (fun x => hm (x.imp id fun y => ⟨y.1, hb⟩)), h.keep b hb hm]
  · rcases h'.chans b hb with z | z
    · exact h.chans b z
    · exact .inr (Nat.le_trans h.size z)
  · rcases Array.mem_append.1 he with he | he
    · exact h.marks e he
    · exact h'.marks e he
  · rcases Array.mem_append.1 he with he | he
    · obtain ⟨a, c, d⟩ := h.touch e he x hx b hb
      refine ⟨Nat.lt_of_lt_of_le a h'.size, fun hc => ?_, d.imp (mine_mono h'.size) id⟩
      rcases h'.chans b hc with z | z
      · exact c z
      · omega
    · exact h'.touch e he x hx b hb

def OneCell : Value → Prop
  | .agg _ => False
  | .tuple _ => False
  | _ => True
def NotCells : Obj → Prop
  | .cells .. => False
  | _ => True

section
variable (P : Program) (N0 : Nat) (own : Own) (n0 : Nat)
def SW {α : Type} : Sem α → World → (α → World → Prop) → Prop
  | .pure a, w, Q => Q a w
  | .load _ a k, w, Q => ∃ v, w.cell? a = some v ∧ (mine own n0 w a.block ∨ a.block < N0) ∧ SW (k v) w Q
  | .store _ a v k, w, Q => OneCell v ∧ (∃ u, w.cell? a = some u) ∧ w.frozen? a = false ∧ mine own n0 w a.block ∧ SW k (w.setCell a v) Q
  | .new o k, w, Q => SW (k w.heap.size) { w with heap := w.heap.push o } Q
  | .shape r k, w, Q => SW (k (w.shape? r)) w Q
  | .freeze a n k, w, Q => mine own n0 w a.block ∧ SW k (w.freeze a n) Q
  | .frozen a k, w, Q => SW (k (w.frozen? a)) w Q
  | .getObj r k, w, Q => ∃ o, w.heap[r]? = some o ∧ NotCells o ∧ mine own n0 w r ∧ SW (k o) w Q
  | .setObj r o k, w, Q => ∃ o', w.heap[r]? = some o' ∧ NotCells o' ∧ mine own n0 w r ∧ o'.isChan = o.isChan ∧ SW k { w with heap := w.heap.setIfInBounds r o } Q
  | .choose q k, w, Q => (q.forced = true ∧ SW (k 0) w Q) ∨ (q.forced = false ∧ SW (k (q.cut (w.tape w.drawn q))) { w with drawn := w.drawn + 1 } Q)
  | .sys _ _, _, _ => False
  | .program k, w, Q => SW (k P) w Q
  | .mark m k, w, Q => (Neutral m ∨ ∃ f, m = .extern f) ∧ SW k w Q
  | .halt _, _, _ => False

variable {P N0 own n0}
theorem SW.mono {α : Type} {s : Sem α} : ∀ {w : World} {Q Q' : α → World → Prop}, SW P N0 own n0 s w Q → (∀ v w', Q v w' → Q' v w') → SW P N0 own n0 s w Q' := by
  induction s with
  | pure a => exact fun h hq => hq _ _ h
  | load m a k ih => exact fun ⟨v, a, b, c⟩ hq => ⟨v, a, b, ih _ c hq⟩
  | store m a v k ih => exact fun ⟨a, b, c, d, e⟩ hq => ⟨a, b, c, d, ih e hq⟩
  | new o k ih => exact fun h hq => ih _ h hq
  | shape r k ih => exact fun h hq => ih _ h hq
  | freeze a n k ih => exact fun ⟨a, b⟩ hq => ⟨a, ih b hq⟩
  | frozen a k ih => exact fun h hq => ih _ h hq
  | getObj r k ih => exact fun ⟨o, a, b, c, d⟩ hq => ⟨o, a, b, c, ih _ d hq⟩
  | setObj r o k ih => exact fun ⟨o', a, b, c, d, e⟩ hq => ⟨o', a, b, c, d, ih e hq⟩
  | choose q k ih => exact fun h hq => h.imp (fun x => ⟨x.1, ih _ x.2 hq⟩) fun x => ⟨x.1, ih _ x.2 hq⟩
  | sys c k ih => exact fun h _ => h.elim
  | program k ih => exact fun h hq => ih _ h hq
  | mark m k ih => exact fun ⟨a, b⟩ hq => ⟨a, ih b hq⟩
  | halt h => exact fun h _ => h.elim
theorem SW_bind {α β : Type} {s : Sem α} {f : α → Sem β} : ∀ {w : World} {Q : β → World → Prop}, SW P N0 own n0 (s >>= f) w Q ↔ SW P N0 own n0 s w (fun v w' => SW P N0 own n0 (f v) w' Q) := by
  show ∀ {w : World} {Q : β → World → Prop}, SW P N0 own n0 (s.bind f) w Q ↔ _
  induction s with
  | pure a => exact Iff.rfl
  | load m a k ih => intro w Q; simp only [Sem.bind, SW, ih]
  | store m a v k ih => intro w Q; simp only [Sem.bind, SW, ih]
  | new o k ih => intro w Q; simp only [Sem.bind, SW, ih]
  | shape r k ih => intro w Q; simp only [Sem.bind, SW, ih]
  | freeze a n k ih => intro w Q; simp only [Sem.bind, SW, ih]
  | frozen a k ih => intro w Q; simp only [Sem.bind, SW, ih]
  | getObj r k ih => intro w Q; simp only [Sem.bind, SW, ih]
  | setObj r o k ih => intro w Q; simp only [Sem.bind, SW, ih]
  | choose q k ih => intro w Q; simp only [Sem.bind, SW, ih]
  | sys c k ih => intro w Q; simp only [Sem.bind, SW]
  | program k ih => intro w Q; simp only [Sem.bind, SW, ih]
  | mark m k ih => intro w Q; simp only [Sem.bind, SW, ih]
  | halt h => intro w Q; simp only [Sem.bind, SW]

theorem part_one {w w' : World} {e : Event} (hp : Part N0 own n0 w w' #[]) (hm : ∀ m, e.loc = .mark m → Neutral m ∨ ∃ f, m = .extern f)
    (ht : ∀ x, (MemAct.ofEvent e).touch? = some x → ∀ b, blk x.loc = some b → b < w'.heap.size ∧ (ChanAt w' b → x.kind = .atomic) ∧ (mine own n0 w' b ∨ (b < N0 ∧ x.write = false))) : Part N0 own n0 w w' #[e] :=
  ⟨hp.os, hp.tape, hp.output, hp.size, hp.keep, hp.chans, fun e' he => by simp at he; subst he; exact hm, fun e' he => by simp at he; subst he; exact ht⟩
theorem block_of_cell {w : World} {a : Addr} {v : Value} (h : w.cell? a = some v) : ∃ c t f, w.heap[a.block]? = some (.cells c t f) ∧ a.spot = none ∧ c[a.off]? = some v := by
  unfold World.cell? at h
  split at h
  · rename_i c t f hb
    split at h
    · cases h
    · rename_i hs
      exact ⟨c, t, f, hb, by simpa using hs, h⟩
  · cases h
theorem cells_not_chan {w : World} {b : Nat} {c : Array Value} {t : TypeId} {f : Nat × Nat} (h : w.heap[b]? = some (.cells c t f)) : ¬ ChanAt w b := by
  rintro ⟨_, _, _, _, _, _, h'⟩; rw [h] at h'; cases h'
theorem part_modify {w : World} {r : Nat} {o o' : Obj} {f : Obj → Obj} (hb : w.heap[r]? = some o) (hm : mine own n0 w r) (ho : f o = o') (hc : ChanAt { w with heap := w.heap.modify r f } r → ChanAt w r) :
    Part N0 own n0 w { w with heap := w.heap.modify r f } #[] := by
  refine ⟨rfl, rfl, rfl, by simp, fun b hb' hn => ?_, fun b hb' => ?_, by simp, by simp⟩
  · have : b ≠ r := fun e => hn (e ▸ hm)
    simp [Array.getElem?_modify, Ne.symm this]
  · by_cases e : b = r
    · subst e; exact .inl (hc hb')
    · obtain ⟨a1, a2, a3, a4, a5, a6, h⟩ := hb'
      simp [Array.getElem?_modify, Ne.symm e] at h
      exact .inl ⟨a1, a2, a3, a4, a5, a6, h⟩

theorem SW.sound {α : Type} (s : Sem α) : ∀ {w : World} {Q : α → World → Prop} (es : Array Event), SW P N0 own n0 s w Q →
    ∃ v w' es', s.runT P w es = (.ok v w', es ++ es') ∧ Part N0 own n0 w w' es' ∧ Q v w' := by
  induction s with
  | pure a => exact fun es h => ⟨_, _, #[], by simp [Sem.runT], Part.refl .., h⟩
  | load m a k ih =>
    rintro w Q es ⟨v, hv, hm, h⟩
    obtain ⟨v', w', es', h1, h2, h3⟩ := ih v (es.push ⟨.cell a, false, m == .atomic⟩) h
    obtain ⟨c, t, f, hb, _, _⟩ := block_of_cell hv
    refine ⟨v', w', #[⟨.cell a, false, m == .atomic⟩] ++ es', by rw [Sem.runT]; simp only [hv, h1]; simp, (part_one (Part.refl N0 own n0 w) (by simp) ?_).trans h2, h3⟩
    intro x hx b hxb
    simp [MemAct.ofEvent, MemAct.touch?] at hx
    subst hx
    simp [blk] at hxb
    subst hxb
    exact ⟨(Array.getElem?_eq_some_iff.1 hb).1, fun z => absurd z (cells_not_chan hb), hm.imp id fun z => ⟨z, rfl⟩⟩
  | store m a v k ih =>
    rintro w Q es ⟨hv, ⟨u, hu⟩, hf, hm, h⟩
    obtain ⟨v', w', es', h1, h2, h3⟩ := ih (es.push ⟨.cell a, true, m == .atomic⟩) h
    obtain ⟨c, t, f, hb, hs, _⟩ := block_of_cell hu
    have hp : Part N0 own n0 w (w.setCell a v) #[] := by
      refine part_modify hb hm rfl ?_
      rintro ⟨a1, a2, a3, a4, a5, a6, h⟩
      simp [Array.getElem?_modify, hb] at h
    refine ⟨v', w', #[⟨.cell a, true, m == .atomic⟩] ++ es', ?_, (part_one hp (by simp) ?_).trans h2, h3⟩
    · cases v <;> first | exact hv.elim | (rw [Sem.runT]; simp only [hu, hf, h1]; simp)
      all_goals intros; simp_all
    intro x hx b hxb
    simp [MemAct.ofEvent, MemAct.touch?] at hx
    subst hx
    simp [blk] at hxb
    subst hxb
    refine ⟨?_, fun z => ?_, .inl (mine_mono hp.size hm)⟩
    · have := (Array.getElem?_eq_some_iff.1 hb).1; have := hp.size; omega
    · rcases hp.chans _ z with z | z
      · exact absurd z (cells_not_chan hb)
      · have := (Array.getElem?_eq_some_iff.1 hb).1; omega
  | new o k ih =>
    rintro w Q es h
    obtain ⟨v', w', es', h1, h2, h3⟩ := ih _ es h
    have hp : Part N0 own n0 w { w with heap := w.heap.push o } #[] := by
      refine ⟨rfl, rfl, rfl, by simp, fun b hb hn => ?_, fun b hb => ?_, by simp, by simp⟩
      · show (w.heap.push o)[b]? = _
        rw [Array.getElem?_push, if_neg (by omega)]
      · rcases Nat.lt_or_ge b w.heap.size with z | z
        · obtain ⟨a1, a2, a3, a4, a5, a6, h⟩ := hb
          refine .inl ⟨a1, a2, a3, a4, a5, a6, ?_⟩
          replace h : (w.heap.push o)[b]? = _ := h
          rw [Array.getElem?_push, if_neg (by omega)] at h
          exact h
        · exact .inr z
    exact ⟨v', w', #[] ++ es', by rw [Sem.runT, h1]; simp, hp.trans h2, h3⟩
  | shape r k ih => exact fun es h => by obtain ⟨v', w', es', h1, h2, h3⟩ := ih _ es h; exact ⟨v', w', es', by rw [Sem.runT]; exact h1, h2, h3⟩
  | freeze a n k ih =>
    rintro w Q es ⟨hm, h⟩
    obtain ⟨v', w', es', h1, h2, h3⟩ := ih es h
    refine ⟨v', w', #[] ++ es', by rw [Sem.runT, h1]; simp, Part.trans ?_ h2, h3⟩
    unfold World.freeze
    split
    · exact Part.refl ..
    · cases hb : w.heap[a.block]? with
      | none =>
        refine ⟨rfl, rfl, rfl, by simp, fun b hb' hn => ?_, fun b hb' => ?_, by simp, by simp⟩
        · have : b ≠ a.block := fun e => hn (e ▸ hm)
          simp [Array.getElem?_modify, Ne.symm this]
        · obtain ⟨a1, a2, a3, a4, a5, a6, h⟩ := hb'
          by_cases e : a.block = b
          · subst e; simp [Array.getElem?_modify, hb] at h
          · simp [Array.getElem?_modify, e] at h; exact .inl ⟨a1, a2, a3, a4, a5, a6, h⟩
      | some o =>
        refine part_modify hb hm rfl ?_
        rintro ⟨a1, a2, a3, a4, a5, a6, h⟩
        simp only [Array.getElem?_modify, hb, if_true, Option.map_some, Option.some.injEq] at h
        split at h
        · cases h
        · exact ⟨a1, a2, a3, a4, a5, a6, by rw [hb, h]⟩
  | frozen a k ih => exact fun es h => by obtain ⟨v', w', es', h1, h2, h3⟩ := ih _ es h; exact ⟨v', w', es', by rw [Sem.runT]; exact h1, h2, h3⟩
  | getObj r k ih =>
    rintro w Q es ⟨o, ho, hn, hm, h⟩
    obtain ⟨v', w', es', h1, h2, h3⟩ := ih o (es.push ⟨.obj r, false, o.isChan⟩) h
    refine ⟨v', w', #[⟨.obj r, false, o.isChan⟩] ++ es', ?_, (part_one (Part.refl N0 own n0 w) (by simp) ?_).trans h2, h3⟩
    · rw [Sem.runT]
      cases o <;> first | exact hn.elim | (simp only [ho, h1]; simp)
    intro x hx b hxb
    have hx' : x = ⟨.obj r, false, if o.isChan then .atomic else .plain⟩ := by
      simp [MemAct.ofEvent, MemAct.touch?] at hx; exact hx.symm
    subst hx'
    simp [blk] at hxb
    subst hxb
    refine ⟨(Array.getElem?_eq_some_iff.1 ho).1, fun ⟨a1, a2, a3, a4, a5, a6, z⟩ => ?_, .inl hm⟩
    rw [ho] at z; cases z; rfl
  | setObj r o k ih =>
    rintro w Q es ⟨o', ho, hn, hm, hc, h⟩
    obtain ⟨v', w', es', h1, h2, h3⟩ := ih (es.push ⟨.obj r, true, o.isChan⟩) h
    have hl := (Array.getElem?_eq_some_iff.1 ho).1
    have hp : Part N0 own n0 w { w with heap := w.heap.setIfInBounds r o } #[] := by
      refine ⟨rfl, rfl, rfl, by simp, fun b hb' hn => ?_, fun b hb' => ?_, by simp, by simp⟩
      · exact Array.getElem?_setIfInBounds_ne (fun e => hn (by rw [← e]; exact hm))
      · obtain ⟨a1, a2, a3, a4, a5, a6, h⟩ := hb'
        by_cases e : r = b
        · subst e
          simp [hl] at h
          subst h
          cases o' <;> simp [Obj.isChan] at hc
          exact .inl ⟨_, _, _, _, _, _, ho⟩
        · simp only [Array.getElem?_setIfInBounds_ne e] at h; exact .inl ⟨a1, a2, a3, a4, a5, a6, h⟩
    refine ⟨v', w', #[⟨.obj r, true, o.isChan⟩] ++ es', ?_, (part_one hp (by simp) ?_).trans h2, h3⟩
    · rw [Sem.runT]
      cases o' <;> first | exact hn.elim | (simp only [ho, h1]; simp)
    intro x hx b hxb
    cases hcc : o.isChan with
    | true => rw [hcc] at hx; simp [MemAct.ofEvent, MemAct.touch?] at hx
    | false =>
      rw [hcc] at hx
      simp [MemAct.ofEvent, MemAct.touch?] at hx
      subst hx
      simp [blk] at hxb
      subst hxb
      refine ⟨by simpa using hl, fun ⟨a1, a2, a3, a4, a5, a6, z⟩ => ?_, .inl (mine_mono hp.size hm)⟩
      simp [hl] at z
      subst z
      simp [Obj.isChan] at hcc
  | choose q k ih =>
    rintro w Q es (⟨hf, h⟩ | ⟨hf, h⟩)
    · obtain ⟨v', w', es', h1, h2, h3⟩ := ih _ es h
      exact ⟨v', w', es', by rw [Sem.runT, if_pos hf]; exact h1, h2, h3⟩
    · obtain ⟨v', w', es', h1, h2, h3⟩ := ih _ es h
      exact ⟨v', w', es', by rw [Sem.runT, if_neg (by simp [hf])]; exact h1, ⟨h2.os, h2.tape, h2.output, h2.size, h2.keep, h2.chans, h2.marks, h2.touch⟩, h3⟩
  | sys c k ih => exact fun es h => h.elim
  | program k ih => exact fun es h => by obtain ⟨v', w', es', h1, h2, h3⟩ := ih _ es h; exact ⟨v', w', es', by rw [Sem.runT]; exact h1, h2, h3⟩
  | mark m k ih =>
    rintro w Q es ⟨hm, h⟩
    obtain ⟨v', w', es', h1, h2, h3⟩ := ih (es.push ⟨.mark m, false, true⟩) h
    refine ⟨v', w', #[⟨.mark m, false, true⟩] ++ es', by rw [Sem.runT, h1]; simp, (part_one (Part.refl N0 own n0 w) ?_ ?_).trans h2, h3⟩
    · intro m' e; cases e; exact hm
    · intro x hx b hxb
      rcases hm with hm | ⟨f, rfl⟩
      · simp [MemAct.ofEvent, hm.touch] at hx
      · simp [MemAct.ofEvent, MemAct.touch?] at hx
  | halt h => exact fun es h => h.elim
end
end Go.Gb
end
