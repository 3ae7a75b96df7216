/- A part of the proof of the statement Rows.TopMissingCardSaid (at every argument the law returns true on every schedule, and its argument reads as before; the listed variables as laid). This text: a stepper over symbolic states of the translated program and its soundness, part 21 of 41. -/
import Derived.Test.YtgabhijnigpbdaaGreatDoorM20
section
/-! .. the worker running; the whole. -/
set_option linter.unusedSimpArgs false
set_option linter.unusedVariables false
namespace Go.Gb
open Go.Conc
open Go.ConcN (upd upd_same upd_ne sumTo sumTo_congr le_sumTo)
section
variable {M : Type} {P : Program} {N0 : Nat} {Msg : M → Value → World → Own → Prop} {Post : Value → World → Prop}

/-- Goroutine 0 beside a running worker: it runs (1), or is parked at its receive (0). -/
inductive MS (P : Program) (N0 : Nat) (Msg : M → Value → World → Own → Prop) (Post : Value → World → Prop) (c e : Nat) (ms : List M) (own0 : Own) (g : Goroutine) (w : World) : Nat → Goroutine → Prop
  | up {h : Goroutine} (like : Like h g) (st : h.status = .running) : MS P N0 Msg Post c e ms own0 g w 1 h
  | wait {g₂ : Goroutine} {z : Value} {f : Bool} (like : Like g₂ g) (hr : ∀ m ms', ms = m :: ms' → ∀ v w₂ ownm, Agree N0 own0 w w₂ → Msg m v w₂ ownm → (∀ b, own0 b → ¬ ownm b) →
      Br P N0 Msg Post (.duo c e ms') (fun b => own0 b ∨ ownm b) (Go.Conc.served g₂ (recvd f v true)) w₂) : MS P N0 Msg Post c e ms own0 g w 0 (parked g₂ #[rcase c z] (.recv f))
theorem MS.agree {c e : Nat} {ms : List M} {own0 : Own} {g h : Goroutine} {w w' : World} {n : Nat} (x : MS P N0 Msg Post c e ms own0 g w n h) (a : Agree N0 own0 w w') : MS P N0 Msg Post c e ms own0 g w' n h := by
  cases x with
  | up l s => exact .up l s
  | wait l hr => exact .wait l fun m ms' e v w₂ o a₂ => hr m ms' e v w₂ o (a.trans a₂)

/-- What is shown by induction along the worker. -/
def Qw (P : Program) (N0 : Nat) (Msg : M → Value → World → Own → Prop) (Post : Value → World → Prop) : Rl M := fun io own1 g1 w1 => match io with
  | .work c e ms => ∀ (own0 : Own) (g : Goroutine) gs w sl t own nL k h h1 (rn : Nat), Body P N0 Msg Post (Br P N0 Msg Post) (.duo c e ms) own0 g w → Agree N0 own1 w1 w → own 0 = own0 → own k = own1 →
      gs[0]? = some h → MS P N0 Msg Post c e ms own0 g w rn h → k ≠ 0 → gs[k]? = some h1 → Like h1 g1 → h1.status = .running → Co P N0 gs w t own (fun i => i = k) nL → Pub N0 c e own w →
      (∃ s tm, w.heap[c]? = some (.chan 0 #[] false s s tm)) → Ends P Post gs w sl t
  | _ => True

theorem duo_run (hM : Stable N0 Msg) {io : Io M} {own1 : Own} {g1 : Goroutine} {w1 : World} (hW : Beh P N0 Msg Post io own1 g1 w1) : Qw P N0 Msg Post io own1 g1 w1 := by
  refine Beh.ind P N0 Msg Post (Q := Qw P N0 Msg Post) ?_ hW
  clear hW io own1 g1 w1
  intro io own1 g1 w1 hW
  cases io with
  | solo => trivial
  | duo c e ms => trivial
  | work c e ms =>
    intro own0 g gs w sl t own nL k h h1 rn hB ha1 ho hok hg hms hk h1g like1 hst1 H hp hc
    replace hW := hW.agree P N0 Msg Post ha1
    clear ha1 w1
    generalize hμ : sumTo gs.size nL + rn = μ
    induction μ using Nat.strongRecOn generalizing gs sl nL h w rn with
    | _ μ ih =>
      obtain ⟨s, tm, hc'⟩ := id hc
      obtain ⟨s', r', tm', he'⟩ := id hp.he
      have hcl := lt_of_get hc'
      have hel := lt_of_get he'
      have sit : ∀ (j : Nat) (x : Goroutine), gs[j]? = some x → j ≠ 0 → x.status = .running ∨ x.status = .finished := by
        intro j x hx hj
        by_cases hjk : j = k
        · subst hjk; rw [h1g] at hx; cases hx; exact .inl hst1
        · exact H.up hx hj hjk
      have st : ∀ (w' : World) (j : Nat) (x : Goroutine), w'.heap[c]? = w.heap[c]? → gs[j]? = some x → Steady w' x := by
        intro w' j x e1 hx
        by_cases hj : j = 0
        · subst hj; rw [hg] at hx; cases hx
          cases hms with
          | up l s => exact steady_up (.inl s)
          | wait l hr => exact steady_recv (by rw [e1]; exact hc')
        · exact steady_up (sit j x hx hj)
      have noff : ∀ (r : Nat) (b : Bool) (j : Nat) (x : Goroutine), gs[j]? = some x → j ≠ 0 → offersAt x r b = [] := fun r b j x hx hj =>
        offersAt_of_not_blocked (by rcases sit j x hx hj with e | e <;> rw [e] <;> simp) r b
      have aw : ∀ x ∈ gs, awake x := by
        intro x hx
        obtain ⟨j, hj⟩ := Array.getElem?_of_mem hx
        by_cases hj0 : j = 0
        · subst hj0; rw [hg] at hj; cases hj
          cases hms with
          | up l s => exact awake_of (.inl s)
          | wait l hr => exact awake_of (.inr (.inl rfl))
        · exact awake_of ((sit j x hj hj0).imp id .inr)
      obtain ⟨i, x, d, sl', hi, hrun, hstep⟩ := crowd_pick (P := P) (w := w) (sl := sl) aw ⟨k, h1, h1g, hst1⟩
      have H' := H.at d
      have hlk := (Array.getElem?_eq_some_iff.1 h1g).1
      have hlt := (Array.getElem?_eq_some_iff.1 hg).1
      have zer : ∀ g', (gs.setIfInBounds 0 g')[0]? = some g' := fun g' => by simp [hlt]
      have zek : ∀ g', (gs.setIfInBounds k g')[k]? = some g' := fun g' => by simp [hlk]
      have hp' : Pub N0 c e own (w.at d) := ⟨hp.ne, hp.c0, hp.noc, hp.noe, hp.he⟩
      have ad0 : Agree N0 own0 w (w.at d) := Agree.at _ _ _ d
      by_cases i0 : i = 0
      · subst i0
        rw [hg] at hi; cases hi
        cases hms with
        | wait l hr => simp [parked] at hrun
        | up like hst =>
          have hn := hB.2 (w.at d) (Agree.at _ _ _ d)
          have waits : ∀ (g₂ : Goroutine) (z : Value) (f : Bool), stepG P true g (w.at d) = .comm g₂ #[rcase c z] true (.recv f) (w.at d) #[] → MS P N0 Msg Post c e ms own0 g (w.at d) 0 (parked g₂ #[rcase c z] (.recv f)) → Ends P Post gs w sl t := by
            intro g₂ z f hgo hw
            have e0 := crowd_waits (P := P) (w := w.at d) (sl := sl') hg (by rw [like.stepG]; exact hgo) (fun cc hcc => by
              simp at hcc; subst hcc; exact ways_recv_none (show (w.at d).heap[c]? = _ from hc') (partners_none (noff _ _)))
            refine Ends.next (hstep.trans e0) ?_
            rw [ofEvents_eq, Array.map_empty, Array.append_empty]
            refine ih (sumTo gs.size nL + 0) (by omega) _ _ _ nL _ 0 (hB.agree P N0 Msg Post ad0) (zer _) hw (by rw [Array.getElem?_setIfInBounds_ne (Ne.symm hk)]; exact h1g) ?_ hp' hc (hW.agree P N0 Msg Post (Agree.at _ _ _ d)) (by rw [Array.size_setIfInBounds])
            have := co_mutes (gs' := gs.setIfInBounds 0 (parked g₂ #[rcase c z] (.recv f))) (u := #[]) H' (by simp) (fun i x hx h0 h1 => by
              rw [Array.getElem?_setIfInBounds_ne (Ne.symm h0)] at hx; exact hx) (Nat.le_refl _) (fun b x => x) wordless_nil (by simp) (by simp)
            rwa [Array.append_empty] at this
          generalize eio : (Io.duo c e ms : Io M) = io at hn
          cases hn with
          | go hgo hs' hd1 hr =>
            subst eio
            have e0 := runT_crowd_go (sl := sl') hg (by rw [like.stepG]; exact hgo)
            have k1 := hd1.keep c hcl (ho ▸ hp.noc 0)
            rw [map_steady (fun j x hx _ => st _ j x k1 hx)] at e0
            refine Ends.next (hstep.trans e0) ?_
            have ag : Agree N0 (own k) (w.at d) _ := Does.other (i := 0) (ho ▸ hd1) H' hk
            refine hr.2 _ _ _ _ _ nL _ k _ (Agree.refl _ _ _) (upd_same _ _ _) (zer _) (Like.refl _) hs' hk (by rw [Array.getElem?_setIfInBounds_ne (Ne.symm hk)]; exact h1g) (H'.step hg (.inl rfl) (ho ▸ hd1)) (Pub.step hp' hcl (ho ▸ hd1)) ?_
            rw [upd_ne _ _ hk, hok]
            rw [hok] at ag
            exact .run like1 hst1 (Beh.intro P N0 Msg Post ((hW.mono P N0 Msg Post fun _ _ _ _ y => y.1).agree P N0 Msg Post ((Agree.at _ _ _ d).trans ag))) ⟨s, tm, by rw [k1]; exact hc'⟩
          | recv hgo hl hr =>
            cases eio
            exact waits _ _ _ hgo (.wait hl fun m ms' em v w₂ ownm a₂ => by cases em; exact hr v w₂ ownm a₂)
          | shut hgo hl hr =>
            cases eio
            exact waits _ _ _ hgo (.wait hl fun m ms' em => by cases em)
          | _ => cases eio
      · by_cases ik : i = k
        · subst ik
          rw [h1g] at hi; cases hi
          have hb : (i == 0) = false := by simpa using i0
          have hn := hW.2 (w.at d) (Agree.at _ _ _ d)
          generalize eio : (Io.work c e ms : Io M) = io at hn
          cases hn with
          | go hgo hs' hd1 hr =>
            subst eio
            have e0 := runT_crowd_go (P := P) (sl := sl') h1g (by rw [hb, like1.stepG]; exact hgo)
            have k1 := hd1.keep c hcl (hok ▸ hp.noc i)
            rw [map_steady (fun j x hx _ => st _ j x k1 hx)] at e0
            refine Ends.next (hstep.trans e0) ?_
            have ag : Agree N0 own0 (w.at d) _ := ho ▸ Does.other (i := i) (j := 0) (hok ▸ hd1) H' (Ne.symm hk)
            refine hr.2 own0 g _ _ _ _ _ nL i _ _ rn (hB.agree P N0 Msg Post (ad0.trans ag)) (Agree.refl _ _ _) ((upd_ne _ _ (Ne.symm hk)).trans ho) (upd_same _ _ _) (by rw [Array.getElem?_setIfInBounds_ne hk]; exact hg) (hms.agree (ad0.trans ag)) hk (zek _) (Like.refl _) hs'
              (H'.step h1g (.inr rfl) (hok ▸ hd1)) (Pub.step hp' hcl (hok ▸ hd1)) ⟨s, tm, by rw [k1]; exact hc'⟩
          | send hgo hl hm hown hd1 hr =>
            cases eio
            rename_i own' ownm g₂ m ms v z z'
            have hw' : ∀ w₂, Agree N0 (own i) (w.at d) w₂ → Beh P N0 Msg Post (.work c e ms) own' (g₂.finishComm P #[scase c v z, rcase e z'] .select 0 undef false) w₂ := fun w₂ a => (hr w₂ (hok ▸ a)).1
            have hown' : ∀ b, own i b ↔ (own' b ∨ ownm b) := by rw [hok]; exact hown
            have nwe : partners (gs.setIfInBounds i ph) e true = [] := by
              refine partners_none fun j x hx hji => ?_
              by_cases hj : j = 0
              · subst hj; rw [hg] at hx; cases hx
                cases hms with
                | up l s => exact offersAt_of_not_blocked (by rw [s]; simp) _ _
                | wait l hr => exact offersAt_parked_recv' ..
              · exact noff _ _ j x hx hj
            cases hms with
            | wait l hcont =>
              rename_i gm zm fm
              have e0 := crowd_sel_send_meets (P := P) (w := w.at d) (sl := sl') (k := 0) (j := 0) (c := c) (v := v) (z := z) h1g (by rw [hb, like1.stepG]; exact hgo) (by simp) (fun m' c' hm' hc'' => by
                  have : m' = 1 := by
                    have := (Array.getElem?_eq_some_iff.1 hc'').1
                    simp at this; omega
                  subst this
                  simp at hc''; subst hc''
                  exact ways_recv_none (show (w.at d).heap[e]? = _ from he') nwe) (show (w.at d).heap[c]? = _ from hc') (Ne.symm hk) hg
                (partners_single (Ne.symm hk) hg (by rw [offersAt_parked_recv]; simp) fun k' x hx h0 h1 => noff _ _ k' x hx h1)
              refine Ends.next (hstep.trans e0) ?_
              rw [ofEvents_eq, Array.map_empty, Array.empty_append, finishComm_recv]
              have a0 : Agree N0 own0 w ((w.at d).setChan c 0 #[] false (s + 1) (s + 1) tm) := ad0.trans (agree_setChan hp.c0 (ho ▸ hp.noc 0))
              have ak : Agree N0 (own i) (w.at d) ((w.at d).setChan c 0 #[] false (s + 1) (s + 1) tm) := agree_setChan hp.c0 (hp.noc i)
              have hrr := hcont m ms rfl v _ ownm a0 (hM _ _ _ _ _ hm (ak.mono fun b hb => (hown' b).2 (.inr hb))) (fun b h1 h2 => H.disj 0 i b (Ne.symm hk) (by rw [ho]; exact h1) ((hown' b).2 (.inr h2)))
              refine met_ends (m := m) (k := i) hrr (hw' _ ak) rfl (finish_up ..) H' hp' hc' hk hlk ho hown' hd1 ?_ ?_ (by simp) ?_
              · rw [Array.getElem?_setIfInBounds_ne hk]; simp [hlt]
              · simp [hlk]
              · intro j x h1 h2 hx
                rw [Array.getElem?_setIfInBounds_ne (Ne.symm h2), Array.getElem?_setIfInBounds_ne (Ne.symm h1)] at hx
                exact hx
            | up like hst =>
              have nwc : partners (gs.setIfInBounds i ph) c false = [] := by
                refine partners_none fun j x hx hji => ?_
                by_cases hj : j = 0
                · subst hj; rw [hg] at hx; cases hx
                  exact offersAt_of_not_blocked (by rw [hst]; simp) _ _
                · exact noff _ _ j x hx hj
              have e0 := crowd_waits (P := P) (w := w.at d) (sl := sl') h1g (by rw [hb, like1.stepG]; exact hgo) (fun cc hcc => by
                simp at hcc
                rcases hcc with rfl | rfl
                · exact ways_send_none (show (w.at d).heap[c]? = _ from hc') (by simp) nwc
                · exact ways_recv_none (show (w.at d).heap[e]? = _ from he') nwe)
              refine Ends.next (hstep.trans e0) ?_
              rw [ofEvents_eq, Array.map_empty, Array.append_empty]
              refine duo_park (nL := nL) hM (hB.agree P N0 Msg Post ad0) (Agree.refl _ _ _) ho (by rw [Array.getElem?_setIfInBounds_ne hk]; exact hg) like hst hk (zek _) ?_ hp' hm hown' hd1 hw' ⟨s, tm, hc'⟩
              have := co_mutes (gs' := gs.setIfInBounds i (parked g₂ #[scase c v z, rcase e z'] .select)) (u := #[]) H' (by simp) (fun j x hx h0 h1 => by
                rw [Array.getElem?_setIfInBounds_ne (Ne.symm h1)] at hx; exact hx) (Nat.le_refl _) (fun b x => x) wordless_nil (by simp) (by simp)
              rwa [Array.append_empty] at this
          | close hwk hgo hq =>
            cases eio
            rename_i g' n
            have hgo' := hgo s s tm hc'
            have e0 := runT_crowd_go (P := P) (sl := sl') h1g (by rw [hb, like1.stepG]; exact hgo')
            refine Ends.next (hstep.trans e0) ?_
            generalize hw2 : (w.at d).setChan c 0 #[] true s s tm = w2
            have hch : ChanAt (w.at d) c := ⟨_, _, _, _, _, _, hc'⟩
            have mw : mayWake P h1 = true := by
              unfold mayWake at hwk ⊢; rw [like1.frame]; exact hwk
            have gst : g'.status = .running ∨ g'.status = .finished := hq.status
            have c2 : w2.heap[c]? = some (.chan 0 #[] true s s tm) := by rw [← hw2]; exact get_setChan hch
            have oth : ∀ j, j ≠ i → ((gs.map (woken P h1 g' w2)).setIfInBounds i g')[j]? = (gs[j]?).map (woken P h1 g' w2) := fun j hj => by
              rw [Array.getElem?_setIfInBounds_ne (Ne.symm hj), Array.getElem?_map]
            obtain ⟨h2, h2e, like2, hst2⟩ : ∃ h2, woken P h1 g' w2 h = h2 ∧ Like h2 g ∧ h2.status = .running := by
              cases hms with
              | up l s => exact ⟨h, steady_woken (steady_up (.inl s)), l, s⟩
              | wait l hr =>
                rename_i g₂ z f
                refine ⟨{ parked g₂ #[rcase c z] (.recv f) with status := .running }, ?_, ⟨l.frame, l.callers, l.dying⟩, rfl⟩
                unfold woken
                have : (mayWake P h1 && g'.status != .blocked && g'.status != .waiting) = true := by
                  rw [mw]; rcases gst with e | e <;> rw [e] <;> rfl
                rw [if_pos this]
                exact again_recv_closed c2
            have hev : MemOp.ofEvents i h1.frame.fn h1.frame.place #[⟨.obj c, false, true⟩, ⟨.obj c, true, true⟩] = #[act i h1.frame.fn h1.frame.place (.access ⟨.obj c, false, true⟩), act i h1.frame.fn h1.frame.place (.close c)] := by
              rw [ofEvents_eq]; simp [act, MemAct.ofEvent]
            rw [hev]
            have o2 : upd own i (fun _ => False) i = fun _ => False := upd_same _ _ _
            have on : ∀ j, j ≠ i → upd own i (fun _ => False) j = own j := fun j hj => upd_ne _ _ hj
            have osub : ∀ j b, upd own i (fun _ => False) j b → own j b := by
              intro j b hb
              by_cases hj : j = i
              · subst hj; rw [o2] at hb; exact hb.elim
              · rwa [on j hj] at hb
            have hsz : w.heap.size = w2.heap.size := by rw [← hw2]; simp [World.setChan, World.at]
            have hlast : (t ++ #[act i h1.frame.fn h1.frame.place (.access ⟨.obj c, false, true⟩), act i h1.frame.fn h1.frame.place (.close c)])[t.size + 1]? = some (act i h1.frame.fn h1.frame.place (.close c)) := by
              rw [Array.getElem?_append_right (by omega)]; simp
            refine duo_shut (own := upd own i (fun _ => False)) (nL := nL) (k := i) (n := n) (m := t.size + 1) (hB.agree P N0 Msg Post (ad0.trans (own := own0) (c := w2) (by rw [← hw2]; exact agree_setChan hp.c0 (ho ▸ hp.noc 0)))) (Agree.refl _ _ _)
              ((on 0 (Ne.symm hk)).trans ho) (h := h2) ?_ like2 hst2 hk (h1 := g') (by simp [hlk]) ⟨?_, ?_, ?_, ?_, ?_, ?_, ?_, ?_, ?_⟩ ⟨hp.ne, hp.c0, fun j hj => hp.noc j (osub j c hj), fun j hj => hp.noe j (osub j e hj), ⟨s', r', tm', ?_⟩⟩ hq ⟨?_, ?_⟩ (by rw [o2]; exact fun b x => x) ⟨s, s, tm, c2⟩
            · rw [oth 0 (Ne.symm hk), hg, Option.map_some, h2e]
            · refine H'.past.app (g := i) ?_ ?_ (by show w.heap.size ≤ _; omega) ?_ ?_ ?_ ?_ ?_ ?_
              · intro op hop; simp at hop; rcases hop with rfl | rfl <;> rfl
              · intro op hop m hm; simp at hop; rcases hop with rfl | rfl <;> cases hm
              · intro op hop a ha b hb
                simp at hop
                rcases hop with rfl | rfl
                · simp [act, MemAct.touch?] at ha
                  subst ha
                  simp [blk] at hb
                  subst hb
                  exact ⟨by omega, fun _ => rfl, .inr (.inr ⟨⟨_, _, _, _, _, _, c2⟩, fun j hj => hp.noc j (osub j c hj), hp.c0⟩)⟩
                · simp [act, MemAct.touch?] at ha
              · intro b hb; rw [o2] at hb; exact hb.elim
              · intro j hj b hb; rwa [on j hj] at hb
              · intro j b hj hb hb'; rw [o2] at hb'; exact hb'
              · intro j b hb; exact (H.lo j b (osub j b hb)).1
              · intro b hb; rw [← hw2] at hb; exact .inl (chanAt_set hch b hb)
            · have := H.n0; omega
            · intro j j' b hne hj hj'; exact H.disj j j' b hne (osub _ _ hj) (osub _ _ hj')
            · intro j b hb; have := H.lo j b (osub j b hb); omega
            · intro j hj hj' b hb; exact H.idle j hj hj' b (osub j b hb)
            · intro j y hy hj hj'
              rw [oth j hj'] at hy
              cases hx : gs[j]? with
              | none => rw [hx] at hy; cases hy
              | some y' =>
                rw [hx, Option.map_some, steady_woken (steady_up (sit j y' hx hj))] at hy
                cases hy
                exact H.quit j _ hx hj hj'
            · intro j hj hj'
              refine (H.told j hj hj').app fun op hop e => ?_
              simp at hop; rcases hop with rfl | rfl
              · exact absurd e.symm hj'
              · exact absurd e.symm hj'
            · intro j op hop
              simp only [Array.size_setIfInBounds, Array.size_map]
              rcases getElem?_append_cases hop with ⟨_, hi'⟩ | ⟨_, hx⟩
              · exact H.few j op hi'
              · simp at hx; rcases hx with rfl | rfl <;> exact hlk
            · simpa using H.pos
            · rw [← hw2, get_setChan_ne hp.ne.symm]; exact he'
            · exact act?_of hlast
            · intro j op hop hgi ht
              rcases getElem?_append_cases hop with ⟨hl, hi'⟩ | ⟨hl, hx⟩
              · exact .inr (hb_po (by omega) hop hlast hgi)
              · have hj2 : j < t.size + 2 := by have := lt_size_of_getElem? hop; simpa using this
                by_cases hje : j = t.size + 1
                · subst hje; exact .inl rfl
                · exact .inr (hb_po (by omega) hop hlast hgi)
          | _ => cases eio
        · obtain ⟨g', e0, H2, hpos⟩ := H'.leave (sl := sl') hi i0 ik hrun (fun j x hx _ => st _ j x rfl hx)
          refine Ends.next (hstep.trans e0) ?_
          have hlt := (Array.getElem?_eq_some_iff.1 hi).1
          rw [Array.append_empty]
          refine ih (sumTo gs.size (upd nL i (nL i - 1)) + rn) ?_ _ _ _ _ _ rn (hB.agree P N0 Msg Post ad0) (by rw [Array.getElem?_setIfInBounds_ne i0]; exact hg) (hms.agree ad0) (by rw [Array.getElem?_setIfInBounds_ne ik]; exact h1g) H2 hp' hc (hW.agree P N0 Msg Post (Agree.at _ _ _ d)) (by rw [Array.size_setIfInBounds])
          have := sumTo_less hlt hpos
          omega
end
end Go.Gb
namespace Go.Gb
open Go.Conc
section
variable {M : Type} {P : Program} {N0 : Nat} {Msg : M → Value → World → Own → Prop} {Post : Value → World → Prop}
theorem duo_ends (hM : Stable N0 Msg) {c e : Nat} {ms : List M} {own0 : Own} {g : Goroutine} {w0 : World} (hB : Body P N0 Msg Post (Br P N0 Msg Post) (.duo c e ms) own0 g w0) : Rm P N0 Msg Post (.duo c e ms) own0 g w0 := by
  intro gs w sl t own nL h k h1 ha0 ho hg like hst hk h1g H hp hw
  have hB := hB.agree P N0 Msg Post ha0
  generalize ems : ms = ms' at hw
  generalize eo : own k = ok at hw
  cases hw with
  | run l st hb hc => subst ems; exact duo_run hM hb own0 g gs w sl t own nL k h h1 1 hB (Agree.refl _ _ _) ho eo hg (.up like hst) hk h1g l st H hp hc
  | park hm hown hd hr hc => subst ems; subst eo; exact duo_park hM hB (Agree.refl _ _ _) ho hg like hst hk h1g H hp hm hown hd hr hc
  | shut hq hs hok hc => subst ems; subst eo; exact duo_shut hB (Agree.refl _ _ _) ho hg like hst hk h1g H hp hq hs hok hc
/-- WHATEVER IS PICKED, THE RUN ENDS WELL: from a behaviour of the goroutine that stands alone at the start. -/
theorem beh_ends (hM : Stable N0 Msg) {io : Io M} {own0 : Own} {g : Goroutine} {w : World} (hB : Beh P N0 Msg Post io own0 g w) : Rm P N0 Msg Post io own0 g w := by
  refine Beh.ind P N0 Msg Post (Q := Rm P N0 Msg Post) ?_ hB
  intro io own g w h
  cases io with
  | solo => exact solo_ends h
  | duo c e ms => exact duo_ends hM h
  | work c e ms => trivial
theorem run_ends (hM : Stable N0 Msg) {g : Goroutine} {w : World} (hn : N0 = w.heap.size) (hB : Beh P N0 Msg Post .solo (fun _ => False) g w) :
    ∃ n last o w' t', runNT P (n + 1) (solo g w) #[] = (.ended o w', t') ∧ runN P n (solo g w) = .next last ∧ step P last = .ended o w' ∧ Conc.Good P Post last o w' t' := by
  have hs := (hB.out P N0 Msg Post).1
  refine beh_ends hM hB #[g] w none #[] (fun _ _ => False) (fun _ => 0) g (Agree.refl _ _ _) rfl (by simp) (Like.refl _) hs ⟨past_nil _ _ _ _, by omega, by simp, by simp, by simp, ?_, ?_, by simp, by simp⟩
  · intro i x hx h0 _
    have := (Array.getElem?_eq_some_iff.1 hx).1
    simp at this; omega
  · intro i _ _ k op hop; simp at hop
end
end Go.Gb
end
