/- A part of the proof of the statement Rows.TopMissingCardSaid (at every argument the law returns true on every schedule, and its argument reads as before; the listed variables as laid). This text: a stepper over symbolic states of the translated program and its soundness, part 19 of 41. -/
import Derived.Test.YtgabhijnigpbdaaGreatDoorM02
import Derived.Conc.CrowdBase
import Derived.Conc.CrowdStepC
section
/-! Two laws of a communication: a receive meets a goroutine parked at a send of several cases; several cases, one a send, meet a parked receiver. -/
set_option linter.unusedSimpArgs false
set_option linter.unusedVariables false
namespace Go.Gb
open Go.Conc
section
variable {P : Program} {gs : Array Goroutine} {w w₁ : World} {sl : Option (Nat × Nat)} {i j k : Nat} {g g₂ gj : Goroutine} {es : Array Event} {c cap s r : Nat} {buf : Array Value} {tm closed : Bool} {v z zj : Value}
  {blocking : Bool} {shape shj : CommShape} {cs cases : Array CommCase}
theorem crowd_recv_meets_sel (hi : gs[i]? = some g) (h : stepG P (i == 0) g w = .comm g₂ #[rcase c z] blocking shape w₁ es) (hc : w₁.heap[c]? = some (.chan cap #[] closed s r tm))
    (hij : j ≠ i) (hj : gs[j]? = some (parked gj cs shj)) (hk : cs[k]? = some (scase c v zj)) (hp : partners (gs.setIfInBounds i ph) c true = [(j, k)]) :
    runT P (crowd gs w sl) i = (.next (crowd ((gs.setIfInBounds j (gj.finishComm P cs shj k undef false)).setIfInBounds i (g₂.finishComm P #[rcase c z] shape 0 v true)) (w₁.setChan c cap #[] closed (s + 1) (r + 1) tm) sl),
      MemOp.ofEvents i g.frame.fn g.frame.place es ++ #[{ g := j, fn := gj.frame.fn, pos := gj.frame.place, act := .send c s }, { g := i, fn := g₂.frame.fn, pos := g₂.frame.place, act := .recv c r cap },
        { g := j, fn := gj.frame.fn, pos := gj.frame.place, act := .sendDone c s }, { g := i, fn := g₂.frame.fn, pos := g₂.frame.place, act := .recvDone c r }]) := by
  rw [runT_crowd_comm hi h]
  have hj' := stand_get (i := i) hij hj
  have hfp := finishPartner_at P (gs.setIfInBounds i ph) hj' (cs := cs) (sh := shj) rfl k undef
  have hgd : (gs.setIfInBounds i ph).getD j default = parked gj cs shj := by rw [Array.getD_eq_getD_getElem?, hj']; rfl
  have hov : offeredValue (gs.setIfInBounds i ph) j k = v := by simp [offeredValue, hj', parked, hk, scase]
  simp [communicate, ways, rcase, hc, hp, choose, Sem.run, Question.forced, bind, Sem.bind, pure, World.setChan, crowd, hfp, hgd, hov, set_stand2, finishComm_parked, parked, hk, scase]
  rfl
theorem crowd_sel_send_meets (hi : gs[i]? = some g) (h : stepG P (i == 0) g w = .comm g₂ cases blocking shape w₁ es) (hk : cases[k]? = some (scase c v z))
    (ho : ∀ (m : Nat) (c' : CommCase), m ≠ k → cases[m]? = some c' → NoWays w₁ (gs.setIfInBounds i ph) c')
    (hc : w₁.heap[c]? = some (.chan cap buf false s r tm)) (hij : j ≠ i) (hj : gs[j]? = some (parked gj #[rcase c zj] shj)) (hp : partners (gs.setIfInBounds i ph) c false = [(j, 0)]) :
    runT P (crowd gs w sl) i = (.next (crowd ((gs.setIfInBounds j (gj.finishComm P #[rcase c zj] shj 0 v true)).setIfInBounds i (g₂.finishComm P cases shape k undef false)) (w₁.setChan c cap buf false (s + 1) (r + 1) tm) sl),
      MemOp.ofEvents i g.frame.fn g.frame.place es ++ #[{ g := i, fn := g₂.frame.fn, pos := g₂.frame.place, act := .send c s }, { g := j, fn := gj.frame.fn, pos := gj.frame.place, act := .recv c r cap },
        { g := i, fn := g₂.frame.fn, pos := g₂.frame.place, act := .sendDone c s }, { g := j, fn := gj.frame.fn, pos := gj.frame.place, act := .recvDone c r }]) := by
  have hw : ways w₁ (gs.setIfInBounds i ph) (scase c v z) = [.partner j 0] := by simp [ways, scase, hc, hp]
  have hj' := stand_get (i := i) hij hj
  have hfp := finishPartner_at P (gs.setIfInBounds i ph) hj' (cs := #[rcase c zj]) (sh := shj) rfl 0 v
  have hgd : (gs.setIfInBounds i ph).getD j default = parked gj #[rcase c zj] shj := by rw [Array.getD_eq_getD_getElem?, hj']; rfl
  rw [runT_crowd_comm hi h]
  unfold communicate
  simp only [ready_one hk (by rw [hw]; simp) ho, hw]
  rw [if_neg]
  · simp [choose, Sem.run, Question.forced, bind, Sem.bind, pure, scase, crowd, hc, hfp, hgd, set_stand2, finishComm_parked, rcase, parked, World.setChan]
    rfl
  · rw [Bool.not_eq_true]; exact any_ill (made_of_one hk (made_send v z hc) ho)
end
/-- Whatever another's step has unblocked, it stays as it is. -/
def Steady (w : World) (h : Goroutine) : Prop := h.again w = h
theorem steady_up {w : World} {h : Goroutine} (hs : h.status = .running ∨ h.status = .finished) : Steady w h := again_running w hs
theorem steady_recv {w : World} {g : Goroutine} {c s r : Nat} {tm : Bool} {z : Value} {sh : CommShape} (hc : w.heap[c]? = some (.chan 0 #[] false s r tm)) : Steady w (parked g #[rcase c z] sh) := again_recv_open hc
theorem steady_sel {w : World} {g : Goroutine} {c e s r s' r' : Nat} {tm tm' : Bool} {v z z' : Value} {sh : CommShape} (hc : w.heap[c]? = some (.chan 0 #[] false s r tm)) (he : w.heap[e]? = some (.chan 0 #[] false s' r' tm')) :
    Steady w (parked g #[scase c v z, rcase e z'] sh) := by
  unfold Steady
  simp [Goroutine.again, parked, rcase, scase, hc, he]
theorem steady_woken {P : Program} {g g' h : Goroutine} {w : World} (hs : Steady w h) : woken P g g' w h = h := by
  unfold woken; split
  · exact hs
  · rfl
theorem map_steady {P : Program} {gs : Array Goroutine} {i : Nat} {g g' : Goroutine} {w : World} (hs : ∀ j h, gs[j]? = some h → j ≠ i → Steady w h) :
    (gs.map (woken P g g' w)).setIfInBounds i g' = gs.setIfInBounds i g' := by
  apply Array.ext_getElem?
  intro j
  by_cases hj : i = j
  · subst hj
    by_cases hl : i < gs.size
    · simp [hl]
    · simp [hl]
  · rw [Array.getElem?_setIfInBounds_ne hj, Array.getElem?_setIfInBounds_ne hj, Array.getElem?_map]
    cases hx : gs[j]? with
    | none => rfl
    | some h => simp [steady_woken (hs j h hx (Ne.symm hj))]
theorem offers_sel (g : Goroutine) {c e : Nat} (v z z' : Value) (sh : CommShape) : offersAt (parked g #[scase c v z, rcase e z'] sh) c true = [0] := by
  simp [offersAt, parked, scase, rcase]
theorem offers_sel' (g : Goroutine) {c e : Nat} (v z z' : Value) (sh : CommShape) {r : Nat} (h : r ≠ e) : offersAt (parked g #[scase c v z, rcase e z'] sh) r false = [] := by
  simp [offersAt, parked, scase, rcase]
  exact fun x => h x.symm
end Go.Gb
end
section
/-! The state of a machine of many goroutines of which all but two only leave. -/
set_option linter.unusedSimpArgs false
set_option linter.unusedVariables false
namespace Go.Gb
open Go.Conc
open Go.ConcN (upd upd_same upd_ne sumTo sumTo_congr le_sumTo)

def Ends (P : Program) (Post : Value → World → Prop) (gs : Array Goroutine) (w : World) (sl : Option (Nat × Nat)) (t : Trace) : Prop :=
  ∃ n last o w' t', runNT P (n + 1) (crowd gs w sl) t = (.ended o w', t') ∧ runN P n (crowd gs w sl) = .next last ∧ step P last = .ended o w' ∧ Conc.Good P Post last o w' t'
theorem Ends.next {P : Program} {Post : Value → World → Prop} {gs gs' : Array Goroutine} {w w' : World} {sl sl' : Option (Nat × Nat)} {t ops : Trace} (h : stepT P (crowd gs w sl) = (.next (crowd gs' w' sl'), ops))
    (hE : Ends P Post gs' w' sl' (t ++ ops)) : Ends P Post gs w sl t := by
  obtain ⟨n, last, o, wl, tl, h1, h2, h3, h4⟩ := hE
  exact ⟨n + 1, last, o, wl, tl, by rw [runNT_succ_next h]; exact h1, by rw [runN_succ_next h]; exact h2, h3, h4⟩

section
variable {P : Program} {N0 : Nat}

variable (P N0) in
structure Co (gs : Array Goroutine) (w : World) (t : Trace) (own : Nat → Own) (act : Nat → Prop) (nL : Nat → Nat) : Prop where
  past : Past N0 (ChanAt w) own t w.heap.size
  n0 : N0 ≤ w.heap.size
  disj : ∀ i j b, i ≠ j → own i b → ¬ own j b
  lo : ∀ i b, own i b → N0 ≤ b ∧ b < w.heap.size
  idle : ∀ i, i ≠ 0 → ¬ act i → ∀ b, ¬ own i b
  quit : ∀ i g, gs[i]? = some g → i ≠ 0 → ¬ act i → QuitsIn P (nL i) g
  told : ∀ i, i ≠ 0 → ¬ act i → Told t i
  few : ∀ (i : Nat) (op : MemOp), t[i]? = some op → op.g < gs.size
  pos : 0 < gs.size
variable {gs : Array Goroutine} {w w' : World} {t : Trace} {own : Nat → Own} {act : Nat → Prop} {nL : Nat → Nat} {sl : Option (Nat × Nat)}

theorem Co.at (H : Co P N0 gs w t own act nL) (d : Nat) : Co P N0 gs (w.at d) t own act nL := ⟨H.past, H.n0, H.disj, H.lo, H.idle, H.quit, H.told, H.few, H.pos⟩

theorem get_set {gs : Array Goroutine} {i j : Nat} {x y : Goroutine} (h : (gs.setIfInBounds i x)[j]? = some y) : (j = i ∧ y = x) ∨ (j ≠ i ∧ gs[j]? = some y) := by
  by_cases e : i = j
  · subst e
    by_cases hl : i < gs.size
    · simp [hl] at h; exact .inl ⟨rfl, h.symm⟩
    · simp [hl] at h
  · rw [Array.getElem?_setIfInBounds_ne e] at h; exact .inr ⟨Ne.symm e, h⟩

theorem ops_g {i : Nat} {fn : FuncId} {pos : String} {es : Array Event} : ∀ op ∈ MemOp.ofEvents i fn pos es, op.g = i := by
  intro op hop
  rw [ofEvents_eq] at hop
  obtain ⟨e, he, rfl⟩ := Array.mem_map.1 hop
  rfl

/-- What i does is nothing to j. -/
theorem Does.other {own1 : Own} {i j : Nat} {es : Array Event} (hd : Does N0 (own i) own1 w w' es) (H : Co P N0 gs w t own act nL) (h : j ≠ i) : Agree N0 (own j) w w' :=
  ⟨hd.os, hd.tape, hd.output, hd.size, fun b hb => hd.keep b (Nat.lt_of_lt_of_le hb H.n0) (fun x => by have := (H.lo i b x).1; omega), fun b hb => hd.keep b (H.lo j b hb).2 (H.disj j i b h hb)⟩

theorem Co.step {own1 : Own} {i : Nat} {g g' : Goroutine} {es : Array Event} {fn : FuncId} {pos : String} (H : Co P N0 gs w t own act nL) (hi : gs[i]? = some g) (h0 : i = 0 ∨ act i) (hd : Does N0 (own i) own1 w w' es) :
    Co P N0 (gs.setIfInBounds i g') w' (t ++ MemOp.ofEvents i fn pos es) (upd own i own1) act nL := by
  have hlt := (Array.getElem?_eq_some_iff.1 hi).1
  have disj : ∀ h k b, h ≠ k → upd own i own1 h b → ¬ upd own i own1 k b := by
    intro h k b hne hh hk
    by_cases e1 : h = i
    · subst e1
      rw [upd_same] at hh
      rw [upd_ne _ _ (Ne.symm hne)] at hk
      rcases hd.grows b hh with x | x
      · exact H.disj _ _ b hne x hk
      · have := (H.lo k b hk).2; omega
    · rw [upd_ne _ _ e1] at hh
      by_cases e2 : k = i
      · subst e2
        rw [upd_same] at hk
        rcases hd.grows b hk with x | x
        · exact H.disj _ _ b hne hh x
        · have := (H.lo h b hh).2; omega
      · rw [upd_ne _ _ e2] at hk
        exact H.disj _ _ b hne hh hk
  have lo : ∀ h b, upd own i own1 h b → N0 ≤ b ∧ b < w'.heap.size := by
    intro h b hb
    by_cases e1 : h = i
    · subst e1
      rw [upd_same] at hb
      rcases hd.grows b hb with x | x
      · have := H.lo _ b x; have := hd.size; omega
      · have := H.n0; omega
    · rw [upd_ne _ _ e1] at hb
      have := H.lo _ b hb; have := hd.size; omega
  have hnot : ∀ j, j ≠ 0 → ¬ act j → j ≠ i := fun j h h' e => by subst e; exact h0.elim h h'
  refine ⟨H.past.app (g := i) ops_g ?_ hd.size ?_ ?_ ?_ (fun h b hne hh hk => disj h i b hne hh hk) (fun h b hb => (lo h b hb).1) hd.chans, Nat.le_trans H.n0 hd.size, disj, lo, ?_, ?_, ?_, ?_, by simpa using H.pos⟩
  · rw [ofEvents_eq]
    intro op hop
    obtain ⟨e, he, rfl⟩ := Array.mem_map.1 hop
    exact ofEvent_noMark (hd.marks e he)
  · rw [ofEvents_eq]
    intro op hop a ha b hb
    obtain ⟨e, he, rfl⟩ := Array.mem_map.1 hop
    obtain ⟨h1, h2, h3⟩ := hd.touch e he a ha b hb
    rw [upd_same]
    exact ⟨h1, h2, h3.imp id .inl⟩
  · intro b hb
    rw [upd_same] at hb
    exact (hd.grows b hb).imp id (·.1)
  · intro h hne b hb
    rwa [upd_ne _ _ hne] at hb
  · intro j hj ha b hb
    rw [upd_ne _ _ (hnot j hj ha)] at hb
    exact H.idle j hj ha b hb
  · intro j x hx hj ha
    rcases get_set hx with ⟨e, _⟩ | ⟨_, hx⟩
    · exact absurd e (hnot j hj ha)
    · exact H.quit j x hx hj ha
  · intro j hj ha
    exact (H.told j hj ha).app fun op hop e => absurd ((ops_g op hop).symm.trans e).symm (hnot j hj ha)
  · intro k op hk
    rw [Array.size_setIfInBounds]
    rcases getElem?_append_cases hk with ⟨_, hk'⟩ | ⟨_, hm⟩
    · exact H.few k op hk'
    · rw [ops_g op hm]; exact hlt

/-- A goroutine that only leaves takes a step. -/
theorem Co.leave {i : Nat} {g : Goroutine} (H : Co P N0 gs w t own act nL) (hi : gs[i]? = some g) (h0 : i ≠ 0) (ha : ¬ act i) (hs : g.status = .running)
    (st : ∀ j h, gs[j]? = some h → j ≠ i → Steady w h) :
    ∃ g', runT P (crowd gs w sl) i = (.next (crowd (gs.setIfInBounds i g') w sl), #[]) ∧ Co P N0 (gs.setIfInBounds i g') w t own act (upd nL i (nL i - 1)) ∧ 0 < nL i := by
  have hq := H.quit i g hi h0 ha
  have hlt := (Array.getElem?_eq_some_iff.1 hi).1
  cases hn : nL i with
  | zero => rw [hn] at hq; rw [QuitsIn, hs] at hq; cases hq
  | succ n =>
    rw [hn] at hq
    rcases hq with hq | ⟨_, g', hgo, hq'⟩
    · rw [hs] at hq; cases hq
    · have hb : (i == 0) = false := by simpa using h0
      refine ⟨g', ?_, ?_, by omega⟩
      · rw [runT_crowd_go hi (by rw [hb]; exact hgo w), map_steady st]
        simp [ofEvents_eq]
      · refine ⟨H.past, H.n0, H.disj, H.lo, H.idle, ?_, H.told, by simpa using H.few, by simpa using H.pos⟩
        intro j x hx hj haj
        rcases get_set hx with ⟨e, e'⟩ | ⟨hne, hx⟩
        · subst e e'; rw [upd_same]; simpa using hq'
        · rw [upd_ne _ _ hne]; exact H.quit j x hx hj haj

theorem sumTo_less {f : Nat → Nat} {i : Nat} : ∀ {n : Nat}, i < n → 0 < f i → sumTo n (upd f i (f i - 1)) < sumTo n f
  | n + 1, h, hp => by
    simp only [sumTo]
    rcases Nat.lt_or_ge i n with hlt | hge
    · have := sumTo_less (f := f) hlt hp
      rw [upd_ne _ _ (by omega : n ≠ i)]
      omega
    · have e : i = n := by omega
      subst e
      rw [upd_same, sumTo_congr (f := upd f i (f i - 1)) (g := f) (fun a ha => upd_ne _ _ (by omega))]
      omega

theorem partners_none {gs : Array Goroutine} {i r : Nat} {b : Bool} (h : ∀ j x, gs[j]? = some x → j ≠ i → offersAt x r b = []) : partners (gs.setIfInBounds i ph) r b = [] := by
  refine partners_nil fun j x hx => ?_
  rcases get_set hx with ⟨_, rfl⟩ | ⟨hne, hx⟩
  · rfl
  · exact h j x hx hne
theorem partners_single {gs : Array Goroutine} {i j r : Nat} {b : Bool} {g : Goroutine} (hij : j ≠ i) (hj : gs[j]? = some g) (ho : offersAt g r b = [0]) (h : ∀ k x, gs[k]? = some x → k ≠ i → k ≠ j → offersAt x r b = []) :
    partners (gs.setIfInBounds i ph) r b = [(j, 0)] := by
  rw [partners_one (gs := gs.setIfInBounds i ph) (r := r) (send := b) (j := j) (g := g) (stand_get hij hj), ho]
  · rfl
  · intro k x hk hx
    rcases get_set hx with ⟨_, rfl⟩ | ⟨hne, hx⟩
    · rfl
    · exact h k x hx hne hk
end
end Go.Gb
end
section
/-! Whatever the scheduler picks, the run ends well. -/
set_option linter.unusedSimpArgs false
set_option linter.unusedVariables false
namespace Go.Gb
open Go.Conc
open Go.ConcN (upd upd_same upd_ne sumTo sumTo_congr le_sumTo runT_crowd_ended)

section
variable {M : Type} (P : Program) (N0 : Nat) (Msg : M → Value → World → Own → Prop) (Post : Value → World → Prop)

structure Pub (c e : Nat) (own : Nat → Own) (w : World) : Prop where
  ne : c ≠ e
  c0 : N0 ≤ c
  noc : ∀ i, ¬ own i c
  noe : ∀ i, ¬ own i e
  he : ∃ s r tm, w.heap[e]? = some (.chan 0 #[] false s r tm)

/-- The worker: it runs; it is parked at its send; it has closed its channel and only leaves. -/
inductive WS (c e k : Nat) (w : World) (t : Trace) (own1 : Own) : List M → Goroutine → Prop
  | run {ms : List M} {h g : Goroutine} (like : Like h g) (st : h.status = .running) (hb : Beh P N0 Msg Post (.work c e ms) own1 g w) (hc : ∃ s tm, w.heap[c]? = some (.chan 0 #[] false s s tm)) : WS c e k w t own1 ms h
  | park {m : M} {ms : List M} {g₂ : Goroutine} {v z z' : Value} {own' ownm : Own} (hm : Msg m v w ownm) (ho : ∀ b, own1 b ↔ (own' b ∨ ownm b)) (hd : ∀ b, own' b → ¬ ownm b)
      (hr : ∀ w₂, Agree N0 own1 w w₂ → Beh P N0 Msg Post (.work c e ms) own' (g₂.finishComm P #[scase c v z, rcase e z'] .select 0 undef false) w₂)
      (hc : ∃ s tm, w.heap[c]? = some (.chan 0 #[] false s s tm)) : WS c e k w t own1 (m :: ms) (parked g₂ #[scase c v z, rcase e z'] .select)
  | shut {g : Goroutine} {n m : Nat} (hq : QuitsIn P n g) (hs : Shut t k c m) (ho : ∀ b, ¬ own1 b) (hc : ∃ s r tm, w.heap[c]? = some (.chan 0 #[] true s r tm)) : WS c e k w t own1 [] g

def Rm : Rl M := fun io own0 g _w₀ => match io with
  | .solo => ∀ gs w sl t own nL h, Agree N0 own0 _w₀ w → own 0 = own0 → gs[0]? = some h → Like h g → h.status = .running → Co P N0 gs w t own (fun _ => False) nL → Ends P Post gs w sl t
  | .duo c e ms => ∀ gs w sl t own nL h k h1, Agree N0 own0 _w₀ w → own 0 = own0 → gs[0]? = some h → Like h g → h.status = .running → k ≠ 0 → gs[k]? = some h1 → Co P N0 gs w t own (fun i => i = k) nL → Pub N0 c e own w →
      WS P N0 Msg Post c e k w t (own k) ms h1 → Ends P Post gs w sl t
  | .work .. => True
/-- a behaviour, and what it leads to -/
def Br : Rl M := fun io own g w => Beh P N0 Msg Post io own g w ∧ Rm P N0 Msg Post io own g w
end

section
variable {M : Type} {P : Program} {N0 : Nat} {Msg : M → Value → World → Own → Prop} {Post : Value → World → Prop}

theorem Like.refl (g : Goroutine) : Like g g := ⟨rfl, rfl, rfl⟩
theorem Like.trans {a b c : Goroutine} (h : Like a b) (h' : Like b c) : Like a c := ⟨h.frame.trans h'.frame, h.callers.trans h'.callers, h.dying.trans h'.dying⟩
theorem Like.stepG {h g : Goroutine} (l : Like h g) (m : Bool) (w : World) : stepG P m h w = stepG P m g w := stepG_same l.frame l.callers l.dying w

theorem Co.up {gs : Array Goroutine} {w : World} {t : Trace} {own : Nat → Own} {act : Nat → Prop} {nL : Nat → Nat} (H : Co P N0 gs w t own act nL) {i : Nat} {g : Goroutine} (hi : gs[i]? = some g) (h0 : i ≠ 0) (ha : ¬ act i) :
    g.status = .running ∨ g.status = .finished := (H.quit i g hi h0 ha).status

theorem served_up (g : Goroutine) (v : Value) : (Go.Conc.served g v).status = .running := rfl
theorem finish_up (g : Goroutine) (cs : Array CommCase) (sh : CommShape) (k : Int) (v : Value) (ok : Bool) : (g.finishComm P cs sh k v ok).status = .running := rfl

/-- Goroutine 0 alone, beside such as only leave: its step. -/
theorem wordless_nil : Wordless (#[] : Trace) := fun op h => by simp at h
theorem co_mutes {gs gs' : Array Goroutine} {w w' : World} {t u : Trace} {own : Nat → Own} {act : Nat → Prop} {nL : Nat → Nat} (H : Co P N0 gs w t own act nL) (hsz : gs'.size = gs.size)
    (hq : ∀ i g, gs'[i]? = some g → i ≠ 0 → ¬ act i → gs[i]? = some g) (hn : w.heap.size ≤ w'.heap.size) (hS : ∀ b, ChanAt w' b → ChanAt w b) (hw : Wordless u) (hm : ∀ op ∈ u, op.act.touch? = none) (hg : ∀ op ∈ u, op.g < gs.size) :
    Co P N0 gs' w' (t ++ u) own act nL := by
  refine ⟨H.past.mutes hw hn hm (fun h i a b hi hb ho => (H.past.mine h i a b hi hb ho).app u) (fun i a b hi hb hs => H.past.sh i a b hi hb (hS b hs)), Nat.le_trans H.n0 hn, H.disj, fun i b hb => ⟨(H.lo i b hb).1, Nat.lt_of_lt_of_le (H.lo i b hb).2 hn⟩, H.idle,
    fun i g hi h0 ha => H.quit i g (hq i g hi h0 ha) h0 ha, fun i h0 ha => (H.told i h0 ha).app fun op hop _ => hm op hop, fun i op hi => ?_, by rw [hsz]; exact H.pos⟩
  rw [hsz]
  rcases getElem?_append_cases hi with ⟨_, hi'⟩ | ⟨_, hx⟩
  · exact H.few i op hi'
  · exact hg op hx
theorem chanAt_set {w : World} {r cap s k : Nat} {buf : Array Value} {cl tm : Bool} (hc : ChanAt w r) (b : Nat) : ChanAt (w.setChan r cap buf cl s k tm) b → ChanAt w b := by
  rintro ⟨x1, x2, x3, x4, x5, x6, h⟩
  by_cases e : r = b
  · exact e ▸ hc
  · exact ⟨x1, x2, x3, x4, x5, x6, by simpa [World.setChan, Array.getElem?_setIfInBounds_ne e] using h⟩
theorem agree_setChan {w : World} {own : Own} {r cap s k : Nat} {buf : Array Value} {cl tm : Bool} (h0 : N0 ≤ r) (ho : ¬ own r) : Agree N0 own w (w.setChan r cap buf cl s k tm) := by
  refine ⟨rfl, rfl, rfl, by simp [World.setChan], fun b hb => ?_, fun b hb => ?_⟩
  · exact Array.getElem?_setIfInBounds_ne (by omega)
  · exact Array.getElem?_setIfInBounds_ne (fun e => ho (by rw [e]; exact hb))
theorem size_setChan {w : World} {r cap s k : Nat} {buf : Array Value} {cl tm : Bool} : w.heap.size ≤ (w.setChan r cap buf cl s k tm).heap.size := by simp [World.setChan]
theorem get_setChan {w : World} {r cap s k : Nat} {buf : Array Value} {cl tm : Bool} (hc : ChanAt w r) : (w.setChan r cap buf cl s k tm).heap[r]? = some (.chan cap buf cl s k tm) := by
  obtain ⟨_, _, _, _, _, _, h⟩ := hc
  have := (Array.getElem?_eq_some_iff.1 h).1
  simp [World.setChan, this]
theorem get_setChan_ne {w : World} {r b cap s k : Nat} {buf : Array Value} {cl tm : Bool} (h : b ≠ r) : (w.setChan r cap buf cl s k tm).heap[b]? = w.heap[b]? := Array.getElem?_setIfInBounds_ne (fun e => h e.symm)

theorem solo_ends {own0 : Own} {g : Goroutine} {w0 : World} (hB : Body P N0 Msg Post (Br P N0 Msg Post) .solo own0 g w0) : Rm P N0 Msg Post .solo own0 g w0 := by
  intro gs w sl t own nL h ha0 ho hg like hst H
  have hB := hB.agree P N0 Msg Post ha0
  clear ha0
  generalize hμ : sumTo gs.size nL = μ
  induction μ using Nat.strongRecOn generalizing gs sl nL h w with
  | _ μ ih =>
    have up : ∀ (j : Nat) (x : Goroutine), gs[j]? = some x → x.status = .running ∨ x.status = .finished := by
      intro j x hx
      by_cases hj : j = 0
      · subst hj; rw [hg] at hx; cases hx; exact .inl hst
      · exact H.up hx hj (fun x => x)
    have st : ∀ (w' : World) (j : Nat) (x : Goroutine), gs[j]? = some x → j ≠ 0 → Steady w' x := fun w' j x hx _ => steady_up (up j x hx)
    have noff : ∀ (r : Nat) (b : Bool) (j : Nat) (x : Goroutine), gs[j]? = some x → j ≠ 0 → offersAt x r b = [] := fun r b j x hx _ =>
      offersAt_of_not_blocked (by rcases up j x hx with e | e <;> rw [e] <;> simp) r b
    have aw : ∀ x ∈ gs, awake x := by
      intro x hx
      obtain ⟨j, hj⟩ := Array.getElem?_of_mem hx
      exact awake_of ((up j x hj).imp id .inr)
    obtain ⟨i, x, d, sl', hi, hrun, hstep⟩ := crowd_pick (P := P) (w := w) (sl := sl) aw ⟨0, h, hg, hst⟩
    have H' := H.at d
    by_cases i0 : i = 0
    · subst i0
      rw [hg] at hi; cases hi
      have hlt := (Array.getElem?_eq_some_iff.1 hg).1
      have zer : ∀ g', (gs.setIfInBounds 0 g')[0]? = some g' := fun g' => by simp [hlt]
      have hn := hB.2 (w.at d) (Agree.at _ _ _ d)
      have mutd : ∀ (cs : Array CommCase) (g₂ : Goroutine) (sh : CommShape) (k : Int) (v : Value) (ok : Bool) (w' : World) (u : Trace) (own1 : Own),
          Br P N0 Msg Post .solo own0 (g₂.finishComm P cs sh k v ok) w' → w.heap.size ≤ w'.heap.size → (∀ b, ChanAt w' b → ChanAt w b) → Wordless u → (∀ op ∈ u, op.act.touch? = none) → (∀ op ∈ u, op.g = 0) →
          Ends P Post (gs.setIfInBounds 0 (g₂.finishComm P cs sh k v ok)) w' sl' (t ++ u) := by
        intro cs g₂ sh k v ok w' u own1 hr h1 h2 h3 h4 h5
        refine hr.2 _ _ _ _ own nL _ (Agree.refl _ _ _) ho (zer _) (Like.refl _) rfl (co_mutes H' (by simp) ?_ h1 h2 h3 h4 fun op hop => by rw [h5 op hop]; exact H.pos)
        intro i x hx hi0 _
        rcases get_set hx with ⟨e, _⟩ | ⟨_, hx⟩
        · exact absurd e hi0
        · exact hx
      generalize eio : (Io.solo : Io M) = io at hn
      cases hn with
      | go hgo hs' hd hr =>
        subst eio
        have e := runT_crowd_go (sl := sl') hg (by rw [like.stepG]; exact hgo)
        rw [map_steady (st _)] at e
        refine Ends.next (hstep.trans e) ?_
        refine hr.2 _ _ _ _ _ nL _ (Agree.refl _ _ _) (upd_same _ _ _) (zer _) (Like.refl _) hs' (H'.step hg (.inl rfl) (ho ▸ hd))
      | spawn hgo hs1 hs2 hd hc he hce d1 d2 hr hr' =>
        rename_i own1 ownc g' child w' es c e s s' r' tm tm' ms
        have e0 := runT_crowd_spawn (sl := sl') hg (by rw [like.stepG]; exact hgo)
        refine Ends.next (hstep.trans e0) ?_
        have H1 := H'.step (g' := g') (fn := h.frame.fn) (pos := h.frame.place) hg (.inl rfl) (ho ▸ hd)
        have hk : gs.size ≠ 0 := by omega
        have ne : ∀ i b, own i b → b ≠ c ∧ b ≠ e ∨ i = 0 := by
          intro i b hb
          by_cases hi : i = 0
          · exact .inr hi
          · exact absurd hb (H.idle i hi (fun x => x) b)
        have kn : ∀ i, i ≠ 0 → ∀ b, ¬ own i b := fun i hi => H.idle i hi (fun x => x)
        generalize hown : (fun i => if i = 0 then own1 else if i = gs.size then ownc else own i) = own2
        have o0 : own2 0 = own1 := by subst hown; simp
        have ok : own2 gs.size = ownc := by subst hown; simp [hk]
        have oo : ∀ i, i ≠ 0 → i ≠ gs.size → ∀ b, ¬ own2 i b := by
          intro i h1 h2 b hb; subst hown; simp [h1, h2] at hb; exact kn i h1 b hb
        have sub : ∀ i b, own2 i b → own1 b ∨ ownc b := by
          intro i b hb
          by_cases h1 : i = 0
          · subst h1; rw [o0] at hb; exact .inl hb
          · by_cases h2 : i = gs.size
            · subst h2; rw [ok] at hb; exact .inr hb
            · exact absurd hb (oo i h1 h2 b)
        have u1 : upd own 0 (fun b => own1 b ∨ ownc b ∨ b = c ∨ b = e) 0 = (fun b => own1 b ∨ ownc b ∨ b = c ∨ b = e) := upd_same _ _ _
        have lo : ∀ b, own1 b ∨ ownc b ∨ b = c ∨ b = e → N0 ≤ b ∧ b < w'.heap.size := fun b hb => H1.lo 0 b (by rw [u1]; exact hb)
        have hW : Wordless (#[act 0 h.frame.fn h.frame.place (.go gs.size), act gs.size child.frame.fn h.frame.place .start] : Trace) := by
          intro op hop m hm
          simp at hop
          rcases hop with rfl | rfl <;> cases hm
        have tapp : ((MemOp.ofEvents 0 h.frame.fn h.frame.place es).push { g := 0, fn := h.frame.fn, pos := h.frame.place, act := .go gs.size }).push { g := gs.size, fn := child.frame.fn, pos := h.frame.place, act := .start } =
            MemOp.ofEvents 0 h.frame.fn h.frame.place es ++ #[act 0 h.frame.fn h.frame.place (.go gs.size), act gs.size child.frame.fn h.frame.place .start] := by
          apply Array.ext'; simp [act]
        rw [tapp, ← Array.append_assoc]
        refine hr.2 _ _ _ _ own2 nL g' gs.size child (Agree.refl _ _ _) o0 ?_ (Like.refl _) hs1 hk ?_ ⟨?_, H1.n0, ?_, ?_, ?_, ?_, ?_, ?_, ?_⟩ ⟨hce, (lo c (by simp)).1, ?_, ?_, ⟨_, _, _, he⟩⟩ (.run (Like.refl _) hs2 (by rw [ok]; exact hr'.1) ⟨_, _, hc⟩)
        · rw [Array.getElem?_push]; simp [Nat.ne_of_gt hlt, hlt]; omega
        · rw [Array.getElem?_push]; simp
        · refine H1.past.mutes hW (Nat.le_refl _) (by intro op hop; simp at hop; rcases hop with rfl | rfl <;> rfl) (fun i x a b hx hb hob => ?_) H1.past.sh
          have k0 : Knows (t ++ MemOp.ofEvents 0 h.frame.fn h.frame.place es) 0 x := H1.past.mine 0 x a b hx hb (by rw [u1]; exact (sub i b hob).elim .inl fun z => .inr (.inl z))
          by_cases h1 : i = 0
          · subst h1; exact k0.app _
          · by_cases h2 : i = gs.size
            · subst h2; exact knows_spawn H1.past.mute k0
            · exact absurd hob (oo i h1 h2 b)
        · intro i j b hne hi hj
          by_cases h1 : i = 0
          · subst h1
            rw [o0] at hi
            by_cases h2 : j = gs.size
            · subst h2; rw [ok] at hj; exact (d1 b hi).1 hj
            · exact oo j (Ne.symm hne) h2 b hj
          · by_cases h2 : i = gs.size
            · subst h2
              rw [ok] at hi
              by_cases h3 : j = 0
              · subst h3; rw [o0] at hj; exact (d1 b hj).1 hi
              · exact oo j h3 (Ne.symm hne) b hj
            · exact oo i h1 h2 b hi
        · intro i b hb
          exact lo b ((sub i b hb).elim .inl fun z => .inr (.inl z))
        · intro i h1 h2 b hb
          exact oo i h1 h2 b hb
        · intro i x hx h1 h2
          rw [Array.getElem?_push] at hx
          simp only [Array.size_setIfInBounds] at hx
          rw [if_neg h2] at hx
          exact H1.quit i x hx h1 (fun x => x)
        · intro i h1 h2
          refine (H1.told i h1 (fun x => x)).app fun op hop _ => ?_
          simp at hop; rcases hop with rfl | rfl <;> rfl
        · intro i op hop
          simp only [Array.size_push, Array.size_setIfInBounds]
          rcases getElem?_append_cases hop with ⟨_, hi'⟩ | ⟨_, hx⟩
          · have := H1.few i op hi'; simp at this; omega
          · simp at hx
            rcases hx with rfl | rfl
            · show 0 < _; omega
            · show gs.size < _; omega
        · simp
        · intro i hi
          rcases sub i c hi with z | z
          · exact (d1 c z).2.1 rfl
          · exact (d2 c z).1 rfl
        · intro i hi
          rcases sub i e hi with z | z
          · exact (d1 e z).2.2 rfl
          · exact (d2 e z).2 rfl
      | recv => cases eio
      | shut => cases eio
      | send => cases eio
      | close => cases eio
      | stop hgo hp =>
        have e := runT_crowd_ended (sl := sl') hg (by rw [like.stepG]; exact hgo)
        rw [ofEvents_eq, Array.map_empty] at e
        refine ⟨0, _, _, _, t, by simp [runNT, hstep, e], rfl, by simp [step, hstep, e], _, rfl, hp, H.past.clean, ?_, ⟨fun x hx => ?_, rfl⟩, fun i x hi hi0 => ?_⟩
        · refine handedOver fun i op hop hne ht => ?_
          exact H.told op.g hne (fun x => x) i op hop rfl ht
        · obtain ⟨j, hj⟩ := List.getElem?_of_mem hx
          rw [List.getElem?_drop] at hj
          have hj' : gs[1 + j]? = some x := by simpa [crowd] using hj
          exact ⟨_, (QuitsD.of_quitsIn (H.quit _ x hj' (by omega) (fun x => x))).leaves⟩
        · have hi' : gs[i]? = some x := hi
          refine ⟨nL i, ?_⟩
          rw [H.past.mute.deaf]
          exact (QuitsD.of_quitsIn (H.quit i x hi' hi0 (fun x => x))).hears _
      | room hgo hor hc hb hr =>
        have e := crowd_send_room (sl := sl') hg (by rw [like.stepG]; exact hgo) hc hb (partners_none (noff _ _))
        refine Ends.next (hstep.trans e) ?_
        rw [ofEvents_eq, Array.map_empty, Array.empty_append]
        refine mutd _ _ _ _ _ _ _ _ own0 hr size_setChan (chanAt_set ⟨_, _, _, _, _, _, hc⟩) ?_ ?_ ?_
        · intro op hop m hm; simp at hop; rcases hop with rfl | rfl <;> cases hm
        · intro op hop; simp at hop; rcases hop with rfl | rfl <;> rfl
        · intro op hop; simp at hop; rcases hop with rfl | rfl <;> rfl
      | full hgo hor hc hb hr =>
        have e := crowd_default (sl := sl') hg (by rw [like.stepG]; exact hgo) (fun cc hcc => by
          simp at hcc; subst hcc; exact ways_send_none hc hb (partners_none (noff _ _)))
        refine Ends.next (hstep.trans e) ?_
        rw [ofEvents_eq, Array.map_empty]
        exact mutd _ _ _ _ _ _ _ _ own0 hr (Nat.le_refl _) (fun b x => x) wordless_nil (by simp) (by simp)
      | take hgo hor hc hb hr =>
        have e := crowd_recv_buf (sl := sl') hg (by rw [like.stepG]; exact hgo) hc hb (partners_none (noff _ _))
        refine Ends.next (hstep.trans e) ?_
        rw [ofEvents_eq, Array.map_empty, Array.empty_append]
        refine mutd _ _ _ _ _ _ _ _ own0 hr size_setChan (chanAt_set ⟨_, _, _, _, _, _, hc⟩) ?_ ?_ ?_
        · intro op hop m hm; simp at hop; rcases hop with rfl | rfl <;> cases hm
        · intro op hop; simp at hop; rcases hop with rfl | rfl <;> rfl
        · intro op hop; simp at hop; rcases hop with rfl | rfl <;> rfl
      | none hgo hor hc hr =>
        have e := crowd_default (sl := sl') hg (by rw [like.stepG]; exact hgo) (fun cc hcc => by
          simp at hcc; subst hcc; exact ways_recv_none hc (partners_none (noff _ _)))
        refine Ends.next (hstep.trans e) ?_
        rw [ofEvents_eq, Array.map_empty]
        exact mutd _ _ _ _ _ _ _ _ own0 hr (Nat.le_refl _) (fun b x => x) wordless_nil (by simp) (by simp)
    · obtain ⟨g', e, H2, hpos⟩ := H'.leave (sl := sl') hi i0 (fun x => x) hrun (fun j x hx _ => steady_up (up j x hx))
      refine Ends.next (hstep.trans e) ?_
      have hlt := (Array.getElem?_eq_some_iff.1 hi).1
      rw [Array.append_empty]
      refine ih _ ?_ _ _ _ _ _ (by rw [Array.getElem?_setIfInBounds_ne i0]; exact hg) like hst H2 (hB.agree P N0 Msg Post (Agree.at _ _ _ d)) rfl
      rw [Array.size_setIfInBounds, ← hμ]
      exact sumTo_less hlt hpos
end
end Go.Gb
end
