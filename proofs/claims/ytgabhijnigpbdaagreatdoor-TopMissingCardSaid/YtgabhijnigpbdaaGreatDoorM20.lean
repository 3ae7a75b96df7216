/- A part of the proof of the statement Rows.TopMissingCardSaid (at every argument the law returns true on every schedule, and its argument reads as before; the listed variables as laid). This text: a stepper over symbolic states of the translated program and its soundness, part 20 of 41. -/
import Derived.Test.YtgabhijnigpbdaaGreatDoorM19
section
/-! .. with a worker under way. -/
set_option linter.unusedSimpArgs false
set_option linter.unusedVariables false
namespace Go.Gb
open Go.Conc
open Go.ConcN (upd upd_same upd_ne sumTo sumTo_congr le_sumTo)
section
variable {M : Type} {P : Program} {N0 : Nat} {Msg : M → Value → World → Own → Prop} {Post : Value → World → Prop}
variable {gs : Array Goroutine} {w w' : World} {t : Trace} {own : Nat → Own} {act : Nat → Prop} {nL : Nat → Nat} {sl : Option (Nat × Nat)} {c e k : Nat}

theorem lt_of_get {w : World} {b : Nat} {o : Obj} (h : w.heap[b]? = some o) : b < w.heap.size := (Array.getElem?_eq_some_iff.1 h).1
theorem Pub.step {i : Nat} {own1 : Own} {es : Array Event} (hp : Pub N0 c e own w) (hc : c < w.heap.size) (hd : Does N0 (own i) own1 w w' es) : Pub N0 c e (upd own i own1) w' := by
  obtain ⟨s, r, tm, he⟩ := hp.he
  have hel := lt_of_get he
  refine ⟨hp.ne, hp.c0, fun j hj => ?_, fun j hj => ?_, ⟨s, r, tm, by rw [hd.keep e hel (hp.noe i)]; exact he⟩⟩
  · by_cases h : j = i
    · subst h; rw [upd_same] at hj
      rcases hd.grows c hj with x | x
      · exact hp.noc _ x
      · omega
    · rw [upd_ne _ _ h] at hj; exact hp.noc _ hj
  · by_cases h : j = i
    · subst h; rw [upd_same] at hj
      rcases hd.grows e hj with x | x
      · exact hp.noe _ x
      · omega
    · rw [upd_ne _ _ h] at hj; exact hp.noe _ hj

theorem duo_shut {own0 : Own} {g : Goroutine} {w0 : World} (hB : Body P N0 Msg Post (Br P N0 Msg Post) (.duo c e []) own0 g w0) {h h1 : Goroutine} {n m : Nat} (ha0 : Agree N0 own0 w0 w) (ho : own 0 = own0) (hg : gs[0]? = some h) (like : Like h g) (hst : h.status = .running)
    (hk : k ≠ 0) (h1g : gs[k]? = some h1) (H : Co P N0 gs w t own (fun i => i = k) nL) (hp : Pub N0 c e own w) (hq : QuitsIn P n h1) (hs : Shut t k c m) (hok : ∀ b, ¬ own k b) (hc : ∃ s r tm, w.heap[c]? = some (.chan 0 #[] true s r tm)) : Ends P Post gs w sl t := by
  have hB := hB.agree P N0 Msg Post ha0
  clear ha0
  generalize hμ : sumTo gs.size nL + n = μ
  induction μ using Nat.strongRecOn generalizing gs sl nL h h1 n w with
  | _ μ ih =>
    have up : ∀ (j : Nat) (x : Goroutine), gs[j]? = some x → x.status = .running ∨ x.status = .finished := by
      intro j x hx
      by_cases hj : j = 0
      · subst hj; rw [hg] at hx; cases hx; exact .inl hst
      · by_cases hj' : j = k
        · subst hj'; rw [h1g] at hx; cases hx; exact hq.status
        · exact H.up hx hj hj'
    have noff : ∀ (r : Nat) (b : Bool) (j : Nat) (x : Goroutine), gs[j]? = some x → j ≠ 0 → offersAt x r b = [] := fun r b j x hx _ =>
      offersAt_of_not_blocked (by rcases up j x hx with e | e <;> rw [e] <;> simp) r b
    have aw : ∀ x ∈ gs, awake x := by
      intro x hx
      obtain ⟨j, hj⟩ := Array.getElem?_of_mem hx
      exact awake_of ((up j x hj).imp id .inr)
    obtain ⟨i, x, d, sl', hi, hrun, hstep⟩ := crowd_pick (P := P) (w := w) (sl := sl) aw ⟨0, h, hg, hst⟩
    have H' := H.at d
    obtain ⟨s, r, tm, hc'⟩ := id hc
    have hcl := lt_of_get hc'
    by_cases i0 : i = 0
    · subst i0
      rw [hg] at hi; cases hi
      have hlt := (Array.getElem?_eq_some_iff.1 hg).1
      have zer : ∀ g', (gs.setIfInBounds 0 g')[0]? = some g' := fun g' => by simp [hlt]
      have hn := hB.2 (w.at d) (Agree.at _ _ _ d)
      generalize eio : (Io.duo c e [] : Io M) = io at hn
      cases hn with
      | go hgo hs' hd hr =>
        subst eio
        have e0 := runT_crowd_go (sl := sl') hg (by rw [like.stepG]; exact hgo)
        rw [map_steady (fun j x hx _ => steady_up (up j x hx))] at e0
        refine Ends.next (hstep.trans e0) ?_
        refine hr.2 _ _ _ _ _ nL _ k h1 (Agree.refl _ _ _) (upd_same _ _ _) (zer _) (Like.refl _) hs' hk (by rw [Array.getElem?_setIfInBounds_ne (Ne.symm hk)]; exact h1g) (H'.step hg (.inl rfl) (ho ▸ hd)) (Pub.step (w := w.at d) ⟨hp.ne, hp.c0, hp.noc, hp.noe, hp.he⟩ hcl (ho ▸ hd)) ?_
        refine .shut hq (hs.app fun op hop e => absurd ((ops_g op hop).symm.trans e).symm hk) (by rw [upd_ne _ _ hk]; exact hok) ⟨s, r, tm, ?_⟩
        rw [hd.keep c hcl (ho ▸ hp.noc 0)]; exact hc'
      | shut hgo hl hr =>
        cases eio
        have e0 := crowd_recv_closed (P := P) (w := w.at d) (sl := sl') hg (by rw [like.stepG]; exact hgo) (show (w.at d).heap[c]? = _ from hc') (partners_none (noff _ _))
        refine Ends.next (hstep.trans e0) ?_
        rw [ofEvents_eq, Array.map_empty, Array.empty_append, finishComm_recv]
        have hw1 : Wordless (#[act 0 g.frame.fn g.frame.place (.recvClosed c)] : Trace) := by
          intro op hop m hm; simp at hop; subst hop; cases hm
        refine (hr _ (Agree.refl _ _ _)).2 _ _ _ _ own (upd nL k n) _ (Agree.refl _ _ _) ho (zer _) (Like.refl _) rfl ⟨?_, H'.n0, H'.disj, H'.lo, ?_, ?_, ?_, ?_, by simpa using H.pos⟩
        · refine H'.past.mutes ?_ (Nat.le_refl _) ?_ (fun h i a b hi hb ho => (H'.past.mine h i a b hi hb ho).app _) H'.past.sh
          · intro op hop m hm; simp at hop; subst hop; cases hm
          · intro op hop; simp at hop; subst hop; rfl
        · intro i hi0 _ b hb
          by_cases hik : i = k
          · subst hik; exact hok b hb
          · exact H.idle i hi0 hik b hb
        · intro i y hy hi0 _
          rcases get_set hy with ⟨e, _⟩ | ⟨_, hy⟩
          · exact absurd e hi0
          · by_cases hik : i = k
            · subst hik; rw [h1g] at hy; cases hy; rw [upd_same]; exact hq
            · rw [upd_ne _ _ hik]; exact H.quit i y hy hi0 hik
        · intro i hi0 _
          by_cases hik : i = k
          · subst hik; exact Shut.told H.past.mute hs hi0
          · refine (H.told i hi0 hik).app fun op hop _ => ?_
            simp at hop; subst hop; rfl
        · intro i op hop
          rw [Array.size_setIfInBounds]
          rcases getElem?_append_cases hop with ⟨_, hi'⟩ | ⟨_, hx⟩
          · exact H.few i op hi'
          · simp at hx; subst hx; exact H.pos
      | _ => cases eio
    · by_cases ik : i = k
      · subst ik
        rw [h1g] at hi; cases hi
        have hb : (i == 0) = false := by simpa using i0
        cases n with
        | zero => rw [QuitsIn, hrun] at hq; cases hq
        | succ n =>
          rcases hq with hq | ⟨_, g', hgo, hq'⟩
          · rw [hrun] at hq; cases hq
          · have e0 := runT_crowd_go (P := P) (sl := sl') (w := w.at d) h1g (by rw [hb]; exact hgo _)
            rw [map_steady (fun j x hx _ => steady_up (up j x hx))] at e0
            refine Ends.next (hstep.trans e0) ?_
            rw [ofEvents_eq, Array.map_empty, Array.append_empty]
            have hlt := (Array.getElem?_eq_some_iff.1 h1g).1
            refine ih (sumTo gs.size nL + n) (by omega) (by rw [Array.getElem?_setIfInBounds_ne i0]; exact hg) like hst (h1 := g') (by simp [hlt]) (nL := nL) (n := n) ?_ ⟨hp.ne, hp.c0, hp.noc, hp.noe, hp.he⟩ hq' hc (hB.agree P N0 Msg Post (Agree.at _ _ _ d)) (by rw [Array.size_setIfInBounds])
            refine ⟨H'.past, H'.n0, H'.disj, H'.lo, H'.idle, ?_, H'.told, by simpa using H'.few, by simpa using H.pos⟩
            intro j y hy hj haj
            rcases get_set hy with ⟨e, _⟩ | ⟨_, hy⟩
            · exact absurd e haj
            · exact H.quit j y hy hj haj
      · obtain ⟨g', e0, H2, hpos⟩ := H'.leave (sl := sl') hi i0 ik hrun (fun j x hx _ => steady_up (up j x hx))
        refine Ends.next (hstep.trans e0) ?_
        have hlt := (Array.getElem?_eq_some_iff.1 hi).1
        rw [Array.append_empty]
        refine ih (sumTo gs.size (upd nL i (nL i - 1)) + n) ?_ (by rw [Array.getElem?_setIfInBounds_ne i0]; exact hg) like hst (by rw [Array.getElem?_setIfInBounds_ne ik]; exact h1g) H2 ⟨hp.ne, hp.c0, hp.noc, hp.noe, hp.he⟩ hq hc (hB.agree P N0 Msg Post (Agree.at _ _ _ d)) (by rw [Array.size_setIfInBounds])
        have := sumTo_less hlt hpos
        omega
end
end Go.Gb
end
section
/-! .. the worker parked at its send; the worker running. -/
set_option linter.unusedSimpArgs false
set_option linter.unusedVariables false
namespace Go.Gb
open Go.Conc
open Go.ConcN (upd upd_same upd_ne sumTo sumTo_congr le_sumTo)
section
variable {M : Type} {P : Program} {N0 : Nat} {Msg : M → Value → World → Own → Prop} {Post : Value → World → Prop}
variable {gs : Array Goroutine} {w w' : World} {t : Trace} {own : Nat → Own} {nL : Nat → Nat} {sl : Option (Nat × Nat)} {c e k : Nat}

def Stable (N0 : Nat) (Msg : M → Value → World → Own → Prop) : Prop := ∀ m v w w' own, Msg m v w own → Agree N0 own w w' → Msg m v w' own

theorem WS.agree {own1 : Own} {ms : List M} {h : Goroutine} {u : Trace} (hM : Stable N0 Msg) (x : WS P N0 Msg Post c e k w t own1 ms h) (a : Agree N0 own1 w w') (hc : w'.heap[c]? = w.heap[c]?) (hu : ∀ op ∈ u, op.g = k → op.act.touch? = none) :
    WS P N0 Msg Post c e k w' (t ++ u) own1 ms h := by
  cases x with
  | run l st hb h => exact .run l st (hb.agree P N0 Msg Post a) (by rw [hc]; exact h)
  | park hm ho hd hr h => exact .park (hM _ _ _ _ _ hm (a.mono fun b hb => (ho b).2 (.inr hb))) ho hd (fun w₂ a₂ => hr w₂ (a.trans a₂)) (by rw [hc]; exact h)
  | shut hq hs ho h => exact .shut hq (hs.app hu) ho (by rw [hc]; exact h)

/-- The value has been handed over: the machine behind that. -/
theorem met_ends {own0 own1 ownm : Own} {g gw : Goroutine} {m : M} {ms : List M} {s : Nat} {tm : Bool} {f1 f2 f3 f4 : FuncId} {p1 p2 p3 p4 : String} {gs' : Array Goroutine}
    (hr : Br P N0 Msg Post (.duo c e ms) (fun b => own0 b ∨ ownm b) g (w.setChan c 0 #[] false (s + 1) (s + 1) tm)) (hw : Beh P N0 Msg Post (.work c e ms) own1 gw (w.setChan c 0 #[] false (s + 1) (s + 1) tm))
    (hg : g.status = .running) (hgw : gw.status = .running) (H : Co P N0 gs w t own (fun i => i = k) nL) (hp : Pub N0 c e own w) (hc : w.heap[c]? = some (.chan 0 #[] false s s tm)) (hk : k ≠ 0) (hks : k < gs.size)
    (ho : own 0 = own0) (hok : ∀ b, own k b ↔ (own1 b ∨ ownm b)) (hd : ∀ b, own1 b → ¬ ownm b) (h0' : gs'[0]? = some g) (hk' : gs'[k]? = some gw) (hsz : gs'.size = gs.size) (hoth : ∀ i x, i ≠ 0 → i ≠ k → gs'[i]? = some x → gs[i]? = some x) :
    Ends P Post gs' (w.setChan c 0 #[] false (s + 1) (s + 1) tm) sl (t ++ #[act k f1 p1 (.send c s), act 0 f2 p2 (.recv c s 0), act k f3 p3 (.sendDone c s), act 0 f4 p4 (.recvDone c s)]) := by
  have hch : ChanAt w c := ⟨_, _, _, _, _, _, hc⟩
  have hW : Wordless (#[act k f1 p1 (.send c s), act 0 f2 p2 (.recv c s 0), act k f3 p3 (.sendDone c s), act 0 f4 p4 (.recvDone c s)] : Trace) := by
    intro op hop m hm; simp at hop; rcases hop with rfl | rfl | rfl | rfl <;> cases hm
  have hmt : ∀ op ∈ (#[act k f1 p1 (.send c s), act 0 f2 p2 (.recv c s 0), act k f3 p3 (.sendDone c s), act 0 f4 p4 (.recvDone c s)] : Trace), op.act.touch? = none := by
    intro op hop; simp at hop; rcases hop with rfl | rfl | rfl | rfl <;> rfl
  generalize hown : (fun i => if i = 0 then (fun b => own0 b ∨ ownm b) else if i = k then own1 else own i) = own2
  have o0 : own2 0 = fun b => own0 b ∨ ownm b := by subst hown; simp
  have ok : own2 k = own1 := by subst hown; simp [hk]
  have oo : ∀ i, i ≠ 0 → i ≠ k → ∀ b, ¬ own2 i b := by
    intro i h1 h2 b hb; subst hown; simp [h1, h2] at hb; exact H.idle i h1 h2 b hb
  have frm : ∀ i b, own2 i b → own 0 b ∨ own k b := by
    intro i b hb
    by_cases h1 : i = 0
    · subst h1; rw [o0] at hb
      exact hb.elim (fun z => .inl (by rw [ho]; exact z)) fun z => .inr ((hok b).2 (.inr z))
    · by_cases h2 : i = k
      · subst h2; rw [ok] at hb; exact .inr ((hok b).2 (.inl hb))
      · exact absurd hb (oo i h1 h2 b)
  refine hr.2 _ _ _ _ own2 nL g k gw (Agree.refl _ _ _) o0 h0' (Like.refl _) hg hk hk' ⟨?_, ?_, ?_, ?_, ?_, ?_, ?_, ?_, by rw [hsz]; exact H.pos⟩ ⟨hp.ne, hp.c0, ?_, ?_, ?_⟩ (.run (Like.refl _) hgw (by rw [ok]; exact hw) ⟨_, _, get_setChan hch⟩)
  · refine H.past.mutes hW size_setChan hmt (fun i x a b hx hb hob => ?_) (fun i a b hi hb hs => H.past.sh i a b hi hb (chanAt_set hch b hs))
    by_cases h1 : i = 0
    · subst h1
      rw [o0] at hob
      rcases hob with z | z
      · exact (H.past.mine 0 x a b hx hb (by rw [ho]; exact z)).app _
      · exact knows_met H.past.mute (H.past.mine k x a b hx hb ((hok b).2 (.inr z)))
    · by_cases h2 : i = k
      · subst h2; rw [ok] at hob
        exact (H.past.mine i x a b hx hb ((hok b).2 (.inl hob))).app _
      · exact absurd hob (oo i h1 h2 b)
  · exact Nat.le_trans H.n0 size_setChan
  · intro i j b hne hi hj
    by_cases h1 : i = 0
    · subst h1
      by_cases h2 : j = k
      · subst h2
        rw [o0] at hi; rw [ok] at hj
        rcases hi with z | z
        · exact H.disj 0 j b hne (by rw [ho]; exact z) ((hok b).2 (.inl hj))
        · exact hd b hj z
      · exact oo j (Ne.symm hne) h2 b hj
    · by_cases h2 : i = k
      · subst h2
        by_cases h3 : j = 0
        · subst h3
          rw [o0] at hj; rw [ok] at hi
          rcases hj with z | z
          · exact H.disj 0 i b (Ne.symm hne) (by rw [ho]; exact z) ((hok b).2 (.inl hi))
          · exact hd b hi z
        · exact oo j h3 (Ne.symm hne) b hj
      · exact oo i h1 h2 b hi
  · intro i b hb
    have : N0 ≤ b ∧ b < w.heap.size := (frm i b hb).elim (H.lo 0 b) (H.lo k b)
    exact ⟨this.1, Nat.lt_of_lt_of_le this.2 size_setChan⟩
  · intro i h1 h2 b hb; exact oo i h1 h2 b hb
  · intro i x hx h1 h2
    exact H.quit i x (hoth i x h1 h2 hx) h1 h2
  · intro i h1 h2
    exact (H.told i h1 h2).app fun op hop _ => hmt op hop
  · intro i op hop
    rw [hsz]
    rcases getElem?_append_cases hop with ⟨_, hi'⟩ | ⟨_, hx⟩
    · exact H.few i op hi'
    · have := H.pos
      simp at hx; rcases hx with rfl | rfl | rfl | rfl
      · exact hks
      · exact this
      · exact hks
      · exact this
  · intro i hi
    exact (frm i c hi).elim (hp.noc 0) (hp.noc k)
  · intro i hi
    exact (frm i e hi).elim (hp.noe 0) (hp.noe k)
  · obtain ⟨s', r', tm', he⟩ := hp.he
    exact ⟨s', r', tm', by rw [get_setChan_ne hp.ne.symm]; exact he⟩

theorem duo_park {own0 : Own} {g : Goroutine} {w0 : World} (hM : Stable N0 Msg) {m : M} {ms : List M} (hB : Body P N0 Msg Post (Br P N0 Msg Post) (.duo c e (m :: ms)) own0 g w0) {h g₂ : Goroutine} {v z z' : Value} {own' ownm : Own}
    (ha0 : Agree N0 own0 w0 w) (ho : own 0 = own0) (hg : gs[0]? = some h) (like : Like h g) (hst : h.status = .running)
    (hk : k ≠ 0) (h1g : gs[k]? = some (parked g₂ #[scase c v z, rcase e z'] .select)) (H : Co P N0 gs w t own (fun i => i = k) nL) (hp : Pub N0 c e own w)
    (hm : Msg m v w ownm) (hown : ∀ b, own k b ↔ (own' b ∨ ownm b)) (hd : ∀ b, own' b → ¬ ownm b)
    (hw : ∀ w₂, Agree N0 (own k) w w₂ → Beh P N0 Msg Post (.work c e ms) own' (g₂.finishComm P #[scase c v z, rcase e z'] .select 0 undef false) w₂)
    (hc : ∃ s tm, w.heap[c]? = some (.chan 0 #[] false s s tm)) : Ends P Post gs w sl t := by
  have hB := hB.agree P N0 Msg Post ha0
  clear ha0
  generalize hμ : sumTo gs.size nL = μ
  induction μ using Nat.strongRecOn generalizing gs sl nL h w with
  | _ μ ih =>
    obtain ⟨s, tm, hc'⟩ := id hc
    obtain ⟨s', r', tm', he'⟩ := id hp.he
    have hcl := lt_of_get hc'
    have sit : ∀ (j : Nat) (x : Goroutine), gs[j]? = some x → j ≠ k → x.status = .running ∨ x.status = .finished := by
      intro j x hx hjk
      by_cases hj : j = 0
      · subst hj; rw [hg] at hx; cases hx; exact .inl hst
      · exact H.up hx hj hjk
    have st : ∀ (w' : World) (j : Nat) (x : Goroutine), w'.heap[c]? = w.heap[c]? → w'.heap[e]? = w.heap[e]? → gs[j]? = some x → Steady w' x := by
      intro w' j x e1 e2 hx
      by_cases hj : j = k
      · subst hj; rw [h1g] at hx; cases hx
        exact steady_sel (by rw [e1]; exact hc') (by rw [e2]; exact he')
      · exact steady_up (sit j x hx hj)
    have noff : ∀ (r : Nat) (b : Bool) (j : Nat) (x : Goroutine), gs[j]? = some x → j ≠ k → offersAt x r b = [] := fun r b j x hx hj =>
      offersAt_of_not_blocked (by rcases sit j x hx hj with e | e <;> rw [e] <;> simp) r b
    have aw : ∀ x ∈ gs, awake x := by
      intro x hx
      obtain ⟨j, hj⟩ := Array.getElem?_of_mem hx
      by_cases hjk : j = k
      · subst hjk; rw [h1g] at hj; cases hj; exact awake_of (.inr (.inl rfl))
      · exact awake_of ((sit j x hj hjk).imp id .inr)
    obtain ⟨i, x, d, sl', hi, hrun, hstep⟩ := crowd_pick (P := P) (w := w) (sl := sl) aw ⟨0, h, hg, hst⟩
    have H' := H.at d
    have hlk := (Array.getElem?_eq_some_iff.1 h1g).1
    by_cases i0 : i = 0
    · subst i0
      rw [hg] at hi; cases hi
      have hlt := (Array.getElem?_eq_some_iff.1 hg).1
      have zer : ∀ g', (gs.setIfInBounds 0 g')[0]? = some g' := fun g' => by simp [hlt]
      have hn := hB.2 (w.at d) (Agree.at _ _ _ d)
      generalize eio : (Io.duo c e (m :: ms) : Io M) = io at hn
      cases hn with
      | go hgo hs' hd1 hr =>
        subst eio
        have e0 := runT_crowd_go (sl := sl') hg (by rw [like.stepG]; exact hgo)
        have k1 := hd1.keep c hcl (ho ▸ hp.noc 0)
        have k2 := hd1.keep e (lt_of_get he') (ho ▸ hp.noe 0)
        rw [map_steady (fun j x hx _ => st _ j x k1 k2 hx)] at e0
        refine Ends.next (hstep.trans e0) ?_
        have ag : Agree N0 (own k) (w.at d) _ := Does.other (i := 0) (ho ▸ hd1) H' hk
        refine hr.2 _ _ _ _ _ nL _ k _ (Agree.refl _ _ _) (upd_same _ _ _) (zer _) (Like.refl _) hs' hk (by rw [Array.getElem?_setIfInBounds_ne (Ne.symm hk)]; exact h1g) (H'.step hg (.inl rfl) (ho ▸ hd1)) (Pub.step (w := w.at d) ⟨hp.ne, hp.c0, hp.noc, hp.noe, hp.he⟩ hcl (ho ▸ hd1)) ?_
        rw [upd_ne _ _ hk]
        refine .park (hM _ _ _ _ _ hm (((Agree.at _ _ _ d).trans ag).mono fun b hb => (hown b).2 (.inr hb))) hown hd (fun w₂ a₂ => hw w₂ (((Agree.at _ _ _ d).trans ag).trans a₂)) ⟨s, tm, ?_⟩
        rw [k1]; exact hc'
      | recv hgo hl hr =>
        cases eio
        have e0 := crowd_recv_meets_sel (P := P) (w := w.at d) (sl := sl') hg (by rw [like.stepG]; exact hgo) (show (w.at d).heap[c]? = _ from hc') hk h1g (k := 0) (v := v) (zj := z) (by simp)
          (partners_single hk h1g (offers_sel _ _ _ _ _) fun k' x hx h0 h1 => noff _ _ k' x hx h1)
        refine Ends.next (hstep.trans e0) ?_
        rw [ofEvents_eq, Array.map_empty, Array.empty_append, finishComm_recv]
        have a0 : Agree N0 own0 (w.at d) ((w.at d).setChan c 0 #[] false (s + 1) (s + 1) tm) := agree_setChan hp.c0 (ho ▸ hp.noc 0)
        have ak : Agree N0 (own k) w ((w.at d).setChan c 0 #[] false (s + 1) (s + 1) tm) := (Agree.at _ _ _ d).trans (agree_setChan hp.c0 (hp.noc k))
        have hrr := hr v _ ownm a0 (hM _ _ _ _ _ hm (ak.mono fun b hb => (hown b).2 (.inr hb))) (fun b h1 h2 => H.disj 0 k b (Ne.symm hk) (by rw [ho]; exact h1) ((hown b).2 (.inr h2)))
        refine met_ends (m := m) (k := k) hrr (hw _ ak) rfl (finish_up ..) H' ⟨hp.ne, hp.c0, hp.noc, hp.noe, hp.he⟩ hc' hk hlk ho hown hd (by simp [hlt]) ?_ (by simp) ?_
        · rw [Array.getElem?_setIfInBounds_ne (Ne.symm hk)]; simp [hlk]
        · intro i x h1 h2 hx
          rw [Array.getElem?_setIfInBounds_ne (Ne.symm h1), Array.getElem?_setIfInBounds_ne (Ne.symm h2)] at hx
          exact hx
      | _ => cases eio
    · by_cases ik : i = k
      · subst ik
        rw [h1g] at hi; cases hi
        simp [parked] at hrun
      · obtain ⟨g', e0, H2, hpos⟩ := H'.leave (sl := sl') hi i0 ik hrun (fun j x hx _ => st _ j x rfl rfl hx)
        refine Ends.next (hstep.trans e0) ?_
        have hlt := (Array.getElem?_eq_some_iff.1 hi).1
        rw [Array.append_empty]
        refine ih (sumTo gs.size (upd nL i (nL i - 1))) ?_ (by rw [Array.getElem?_setIfInBounds_ne i0]; exact hg) like hst (by rw [Array.getElem?_setIfInBounds_ne ik]; exact h1g) H2 ⟨hp.ne, hp.c0, hp.noc, hp.noe, hp.he⟩
          (hM _ _ _ _ _ hm (Agree.at _ _ _ d)) (fun w₂ a₂ => hw w₂ ((Agree.at _ _ _ d).trans a₂)) hc (hB.agree P N0 Msg Post (Agree.at _ _ _ d)) (by rw [Array.size_setIfInBounds])
        have := sumTo_less hlt hpos
        omega
end
end Go.Gb
end
