/- A part of the proof of the statement Rows.TopMissingCardSaid (at every argument the law returns true on every schedule, and its argument reads as before; the listed variables as laid). This text: a stepper over symbolic states of the translated program and its soundness, part 26 of 41. -/
import Derived.Test.YtgabhijnigpbdaaGreatDoorM25
section
/-! Communication, further. -/
set_option linter.unusedSimpArgs false
set_option linter.unusedVariables false
set_option linter.unusedSectionVars false
namespace Go.Gb
open Go.Conc
section
variable {P : Program} {N0 : Nat} {mla : Addr} {ml : Gl} {θ : Th} {Post : Value → World → Prop} {E : Env}
variable {top : Fr} {cs : List Fr} {h : Heap} {nx : Gb.P} {io : AIo} {r : Rs}
/-- A receive that is offered and not waited for, on a channel of one's own. -/
theorem okay_take1 {c : Opd} {z : V} (hat : Ats P N0 mla ml top (.take1 c z)) {gk : GK} (e : fxK E gk (.take1 c z) top cs h nx io = some r) (hr : Suc P N0 mla ml θ Post E r) : Okay P N0 mla ml θ Post ⟨top, cs, h, nx, io⟩ := by
  simp only [fxK] at e
  obtain ⟨cv, hcv, e⟩ := opdK_some e
  split at e
  case h_2 => cases e
  rename_i id e0
  clear e0
  replace e : getOb (C := Rs) id h _ = some r := e
  obtain ⟨ob, hob, e⟩ := getOb_inv e
  intro io' own g w hc
  refine comm_at (Q := fun _ _ _ _ _ _ _ _ => True) (fun h => by cases h) hat hc fun σ vt vs vss ids f fs w1 a hg S hk oo hv hx hst => ?_
  generalize hop : oo.op = op at hx
  cases hx with
  | @take1 _ c' t _ hz hcr =>
    obtain ⟨ti, z', h1, h2, hz'⟩ := hz
    have hcu := opd_val (k := (some : V → O V)) (r := .nili) (hv c (by simp [fxOpds])) hcr hcv
    obtain ⟨p, hp, hce⟩ := vr_chan hcu
    have hio := S.io
    generalize hioe : (⟨top, cs, h, nx, AIo.solo⟩ : Cfg).io = ioe at hio
    cases hio with
    | duo => cases hioe
    | work => cases hioe
    | off => cases hioe
    | solo hids hz =>
      obtain ⟨o, ho, hor⟩ := S.ar.obs id p ob hp hob
      have hown : own p.bl := mine_self.1 (S.ar.has id p ob hp hob)
      cases ob <;> (try simp only [reduceCtorEq] at e)
      rename_i cap buf cl s rc
      cases cl <;> (try simp only [reduceCtorEq] at e)
      cases o <;> simp only [ObR] at hor
      rename_i cap' buf' cl' s' r' tm
      obtain ⟨rfl, rfl, rfl, rfl, rfl, hbuf⟩ := hor
      have hstep : ∀ main, stepG P main (G f (fs ++ θ.outer)) w1 = .comm (G f (fs ++ θ.outer)) #[rcase p.bl z'] false .select w1 #[] := by
        intro main
        rw [hst _ (fun c h => by rw [hop] at h; cases h) (still_select1 hop h1 h2) main, apply_comm hk]
        simp only [hce, Option.map_none]
        rfl
      have hN : N0 ≤ p.bl := S.ar.apart _ hown
      cases buf with
      | nil =>
        have hb0 : buf' = #[] := by
          have := hbuf.length; simp at this; exact Array.eq_empty_of_size_eq_zero this.symm
        subst hb0
        replace e : finK (.tup [.int .i64 (.negSucc 0), .bool false, z]) top (fun top => some (.go ⟨top, cs, h, nx, .solo⟩)) = some r := e
        obtain ⟨fr', e3, hfin, _⟩ := fin_rel S.top (v := .tup [.int .i64 (.negSucc 0), .bool false, z]) (u := commResult #[rcase p.bl z'] .select (-1) undef false) (by rw [commR_r]; exact ⟨⟨rfl, rfl⟩, rfl, hz' ml σ, trivial⟩) e
        cases e3
        exact .none (hstep true) hown ho (hr _ _ _ _ ⟨σ, vt, vs, vss, ids, _, fs, rfl, S.ar, hfin, S.cs, .solo hids hz, S.vids, S.nodup, S.hf, S.kept, S.lt⟩)
      | cons x rest =>
        replace e : natK (Nat.add r' 1) (fun r' => T.putK (some (.chan cap' rest false s' r')) id h fun h => finK (.tup [.int .i64 (.ofNat 0), .bool true, x]) top fun top => some (.go ⟨top, cs, h, nx, .solo⟩)) = some r := e
        rw [natK_eq, T.putK_eq] at e
        obtain ⟨bl⟩ := buf'
        cases bl with
        | nil => exact hbuf.elim
        | cons u us =>
          obtain ⟨hx1, hx2⟩ := hbuf
          have hget : (⟨u :: us⟩ : Array Value).getD 0 undef = u := rfl
          have hext : (⟨u :: us⟩ : Array Value).extract 1 (⟨u :: us⟩ : Array Value).size = ⟨us⟩ := by simp
          obtain ⟨fr', e3, hfin, _⟩ := fin_rel S.top (v := .tup [.int .i64 (.ofNat 0), .bool true, x]) (u := commResult #[rcase p.bl z'] .select 0 u true) (by rw [commR_r]; exact ⟨⟨rfl, rfl⟩, rfl, hx1, trivial⟩) e
          cases e3
          refine .take (hstep true) hown ho (by simp) ?_
          rw [hget, hext]
          refine hr _ _ _ _ ⟨σ, vt, vs, vss, ids, _, fs, rfl, ?_, hfin, S.cs, .solo hids hz, S.vids, S.nodup, S.hf, S.kept.set hN, fun b hb => by simpa [World.setChan] using S.lt b hb⟩
          have har := S.ar.put (w' := w1.setChan p.bl cap' ⟨us⟩ false s' (r' + 1) false) hp hob (ob' := .chan cap' rest false s' (r' + 1)) (o' := .chan cap' ⟨us⟩ false s' (r' + 1) false)
            ⟨rfl, rfl, rfl, rfl, rfl, hx2⟩ (get_setChan ⟨_, _, _, _, _, _, ho⟩) (fun b hb => get_setChan_ne hb) (by simp [World.setChan])
          have : (w1.setChan p.bl cap' ⟨us⟩ false s' (r' + 1) false).heap.size = w1.heap.size := by simp [World.setChan]
          rw [this]; exact har
theorem addObs_inv {C : Type} : ∀ {l : List (Gb.P × Ob)} {h : Heap} {k : Heap → O C} {r : C}, addObs l h k = some r → ∃ h', k h' = some r ∧ ∀ id ob, T.get id h' = some ob → (id, ob) ∈ l ∨ (id ∉ l.map (·.1) ∧ T.get id h = some ob) := by
  intro l
  induction l with
  | nil => intro h k r e; exact ⟨h, e, fun id ob hg => .inr ⟨by simp, hg⟩⟩
  | cons x l ih =>
    intro h k r e
    replace e : T.putK (some x.2) x.1 h (fun h => addObs l h k) = some r := e
    rw [T.putK_eq] at e
    obtain ⟨h', e2, hg⟩ := ih e
    refine ⟨h', e2, fun id ob hid => ?_⟩
    rcases hg id ob hid with h1 | ⟨h1, h2⟩
    · exact .inl (by simp [h1])
    · by_cases he : x.1 = id
      · subst he; rw [T.get_put_same] at h2; cases h2; exact .inl (by simp)
      · rw [T.get_put_ne _ _ _ _ he] at h2
        exact .inr ⟨by simp only [List.map_cons, List.mem_cons]; exact fun x => x.elim (fun e => he e.symm) h1, h2⟩
/-- What a message hands over becomes one's own. -/
theorem AR.take {vt : Vt} {σ σm : Sg} {own ownm : Own} {w : World} {m : M} (H : AR N0 mla ml vt σ h nx own w.heap.size w) (hhf : vt.hf = .nil) {rest : List Gb.P} {pre : List Gb.P} (hids : vt.ids = pre ++ (m.2.map (·.1) ++ rest)) (hnd : vt.ids.Nodup)
    (h2 : ∀ id p, σm id = some p → ∃ ob, (id, ob) ∈ m.2) (h3 : ∀ id ob, (id, ob) ∈ m.2 → ∃ p obj, σm id = some p ∧ w.heap[p.bl]? = some obj ∧ ObR ml σm p ob obj ∧ ownm p.bl) (h4 : ∀ id id' p p', σm id = some p → σm id' = some p' → p.bl = p'.bl → id = id') (h5 : ∀ b, ownm b → N0 ≤ b) (hdis : ∀ b, own b → ¬ ownm b)
    {h' : Heap} (hg : ∀ id ob, T.get id h' = some ob → (id, ob) ∈ m.2 ∨ (id ∉ m.2.map (·.1) ∧ T.get id h = some ob)) :
    Sub σ (fun id => (σm id).or (σ id)) ∧ Sub σm (fun id => (σm id).or (σ id)) ∧ AR N0 mla ml ⟨pre ++ rest, vt.hf⟩ (fun id => (σm id).or (σ id)) h' nx (fun b => own b ∨ ownm b) w.heap.size w := by
  have inm : ∀ id p, σm id = some p → id ∈ vt.ids := fun id p hp => by
    obtain ⟨ob, hob⟩ := h2 id p hp
    rw [hids]; simp only [List.mem_append, List.mem_map]; exact .inr (.inl ⟨_, hob, rfl⟩)
  have hs1 : Sub σ (fun id => (σm id).or (σ id)) := by
    intro id p hp
    cases hm : σm id with
    | none => simp [hm, hp]
    | some q => rw [(H.vts id (inm id q hm)).1] at hp; cases hp
  have hs2 : Sub σm (fun id => (σm id).or (σ id)) := fun id p hp => by simp [hp]
  have cse : ∀ {id p}, (σm id).or (σ id) = some p → σm id = some p ∨ (σm id = none ∧ σ id = some p) := by
    intro id p hp
    cases hm : σm id with
    | none => rw [hm] at hp; exact .inr ⟨rfl, by simpa using hp⟩
    | some q => rw [hm] at hp; exact .inl (by simpa using hp)
  have notm : ∀ id, σm id = none → id ∉ m.2.map (·.1) := by
    intro id hn hm
    obtain ⟨⟨i, ob⟩, hob, rfl⟩ := List.mem_map.1 hm
    obtain ⟨p, _, hp, _⟩ := h3 i ob hob
    rw [hn] at hp; cases hp
  have live : ∀ {id p ob}, (σm id).or (σ id) = some p → T.get id h' = some ob → (σm id = some p ∧ (id, ob) ∈ m.2) ∨ (σ id = some p ∧ T.get id h = some ob) := by
    intro id p ob hp hob
    rcases hg id ob hob with hm | ⟨hm, hh⟩
    · obtain ⟨q, _, hq, _⟩ := h3 id ob hm
      rw [hq] at hp
      simp at hp; subst hp
      exact .inl ⟨hq, hm⟩
    · rcases cse hp with hp | ⟨_, hp⟩
      · obtain ⟨ob2, hob2⟩ := h2 id p hp
        exact absurd (List.mem_map.2 ⟨_, hob2, rfl⟩) hm
      · exact .inr ⟨hp, hh⟩
  have own1 : ∀ {id p ob}, σ id = some p → T.get id h = some ob → own p.bl := fun hp hob => mine_self.1 (H.has _ _ _ hp hob)
  have ownm1 : ∀ {id p ob}, σm id = some p → (id, ob) ∈ m.2 → ownm p.bl := by
    intro id p ob hp hob
    obtain ⟨q, _, hq, _, _, ho⟩ := h3 id ob hob
    rw [hp] at hq; cases hq; exact ho
  refine ⟨hs1, hs2, ⟨fun id p hp => ?_, fun id p ob hp hob => ?_, fun id p hp => ?_, fun id ob hob => ?_, fun id id' p p' ob ob' hp hp' hob hob' hb => ?_, fun id p ob hp hob => ?_, fun id hid => ?_, fun id p ob hp hob => ?_, fun id id' p p' ob ob' hp hp' hob hob' => ?_, fun id p ob hp hob => ?_, H.frl, H.glob, H.n0le, fun b hb => hb.elim (H.apart b) (h5 b)⟩⟩
  · rcases cse hp with hp | ⟨_, hp⟩
    · obtain ⟨ob, hob⟩ := h2 id p hp
      obtain ⟨q, obj, hq, hw, _⟩ := h3 id ob hob
      rw [hp] at hq; cases hq
      exact (Array.getElem?_eq_some_iff.1 hw).1
    · exact H.dom id p hp
  · rcases live hp hob with ⟨h6, h7⟩ | ⟨h6, h7⟩
    · exact .inl (.inr (ownm1 h6 h7))
    · exact .inl (.inl (own1 h6 h7))
  · rcases cse hp with hp | ⟨_, hp⟩
    · exact (H.vts id (inm id p hp)).2
    · exact H.low id p hp
  · rcases hg id ob hob with hm | ⟨_, hh⟩
    · obtain ⟨q, _, hq, _⟩ := h3 id ob hm
      exact (H.vts id (inm id q hq)).2
    · exact H.hlow id ob hh
  · rcases live hp hob with ⟨h6, h7⟩ | ⟨h6, h7⟩ <;> rcases live hp' hob' with ⟨h8, h9⟩ | ⟨h8, h9⟩
    · exact h4 _ _ _ _ h6 h8 hb
    · exact absurd (ownm1 h6 h7) (hdis _ (hb ▸ own1 h8 h9))
    · exact absurd (ownm1 h8 h9) (hdis _ (hb ▸ own1 h6 h7))
    · exact H.inj _ _ _ _ _ _ h6 h8 h7 h9 hb
  · rcases live hp hob with ⟨h6, h7⟩ | ⟨h6, h7⟩
    · obtain ⟨q, obj, hq, hw, hr, _⟩ := h3 id ob h7
      rw [h6] at hq; cases hq
      exact ⟨obj, hw, hr.mono hs2⟩
    · obtain ⟨o, ho, hr⟩ := H.obs id p ob h6 h7
      exact ⟨o, ho, hr.mono hs1⟩
  · simp only [List.mem_append] at hid
    have hin : id ∈ vt.ids := by rw [hids]; simp only [List.mem_append]; exact hid.imp (fun x => x) .inr
    refine ⟨?_, (H.vts id hin).2⟩
    have hnm : σm id = none := by
      cases hm : σm id with
      | none => rfl
      | some p =>
        exfalso
        obtain ⟨ob, hob⟩ := h2 id p hm
        have hmem : id ∈ m.2.map (·.1) := List.mem_map.2 ⟨_, hob, rfl⟩
        rw [hids] at hnd
        have h6 := List.nodup_append.1 hnd
        have h7 := List.nodup_append.1 h6.2.1
        rcases hid with hid | hid
        · exact h6.2.2 id hid id (by simp only [List.mem_append]; exact .inl hmem) rfl
        · exact h7.2.2 id hmem id hid rfl
    simp only [hnm, (H.vts id hin).1, Option.none_or]
  · simp only [hhf, T.get_nil] at hob; cases hob
  · simp only [hhf, T.get_nil] at hob; cases hob
  · simp only [hhf, T.get_nil] at hob; cases hob
theorem still_recv {oo : Oper} {t el : TypeId} {c' : Operand} {ok : Bool} {d : ChanDir} {i : TypeInfo} {z : Value} {a : Act} (ho : oo.op = .recv t c' ok) (ht : P.underlying t = some (.chan d el)) (hi : P.info? el = some i) (hz : i.zero = some z) : Still P (execOp a.eval oo) (.comm #[{ chan := a.eval c', send := none, zero := z }] true (.recv ok)) := by
  unfold execOp
  simp only [ho]
  exact Still.bind (Still.underlying ht) (Still.bind (Still.zeroValue hi hz) Still.pure)
theorem vr_recvd {σ : Sg} {ok b : Bool} {v : V} {u : Value} (h : VR ml σ v u) : VR ml σ (okV ok v b) (recvd ok u b) := by
  cases ok
  · exact h
  · exact ⟨h, rfl, trivial⟩
theorem okay_recv {c : Opd} {z : V} {ok : Bool} (hat : Ats P N0 mla ml top (.recv c z ok)) {gk : GK} (e : fxK E gk (.recv c z ok) top cs h nx io = some r) (hr : Suc P N0 mla ml θ Post E r) : Okay P N0 mla ml θ Post ⟨top, cs, h, nx, io⟩ := by
  simp only [fxK] at e
  obtain ⟨cv, hcv, e⟩ := opdK_some e
  split at e
  case h_2 => cases e
  rename_i id c2 ms e0
  clear e0
  split at e
  case isFalse => cases e
  rename_i hid
  subst hid
  intro io' own g w hc
  refine comm_at (Q := fun _ _ _ _ _ _ _ _ => True) (fun h => by cases h) hat hc fun σ vt vs vss ids f fs w1 a hg S hk oo hv hx hst => ?_
  generalize hop : oo.op = op at hx
  cases hx with
  | @recv t el _ c' d _ _ ht hz hcr =>
    obtain ⟨ti, z', h1, h2, hz'⟩ := hz
    have hcu := opd_val (k := (some : V → O V)) (r := .nili) (hv c (by simp [fxOpds])) hcr hcv
    obtain ⟨p, hp, hce⟩ := vr_chan hcu
    have hstep : ∀ main, stepG P main (G f (fs ++ θ.outer)) w1 = .comm (G f (fs ++ θ.outer)) #[rcase p.bl z'] true (.recv ok) w1 #[] := by
      intro main
      rw [hst _ (fun c h => by rw [hop] at h; cases h) (still_recv hop ht h1 h2) main, apply_comm hk]
      simp only [hce]
      rfl
    have hio := S.io
    generalize hioe : (⟨top, cs, h, nx, AIo.duo id ms⟩ : Cfg).io = ioe at hio
    cases hio with
    | solo => cases hioe
    | off => cases hioe
    | work => cases hioe
    | @duo _ _ cb eb q hq hb hids hhf =>
      cases hioe
      have hq : σ id = some q := hq
      rw [hp] at hq; cases hq
      subst hb
      split at e
      · obtain ⟨fr', e3, hfin, _⟩ := fin_rel S.top (v := okV ok z false) (u := recvd ok z' false) (vr_recvd (hz' ml σ)) e
        cases e3
        refine .shut (hstep true) (Like.refl _) fun w2 a2 => hr _ _ _ _ ?_
        have S2 := S.agree a2
        refine ⟨σ, vt, vs, vss, ids, _, fs, rfl, ⟨S2.ar, hfin, S2.cs, .solo (by simpa using hids) hhf, S2.vids, S2.nodup, S2.hf, S2.kept, S2.lt⟩⟩
      · rename_i m ms
        obtain ⟨h', e2, hg⟩ := addObs_inv e
        refine .recv (hstep true) (Like.refl _) fun v w2 ownm a2 hmsg hdis => ?_
        have S2 := S.agree a2
        obtain ⟨σm, g1, g2, g3, g4, g5⟩ := hmsg
        have hids' : vt.ids = (vs ++ vss.flatten) ++ (m.2.map (·.1) ++ ((ms.flatMap fun m => m.2.map (·.1)) ++ θ.ov)) := by
          rw [S2.vids, hids]; simp
        obtain ⟨hs1, hs2, har⟩ := AR.take S2.ar (by rw [S2.hf, hhf.1]) hids' S2.nodup g2 g3 g4 (fun b hb => (g5 b hb).1) hdis hg
        have hF := S2.top.mono hs1
        obtain ⟨fr', e3, hfin, _⟩ := fin_rel hF (v := okV ok m.1 true) (u := recvd ok v true) (vr_recvd (VR.mono hs2 _ _ g1)) e2
        cases e3
        refine hr _ _ _ _ ⟨_, _, vs, vss, (ms.flatMap fun m => m.2.map (·.1)), _, fs, rfl, ⟨har, hfin, S2.cs.mono hs1, .duo (hs1 _ _ hp) rfl rfl hhf, by simp, ?_, by exact S2.hf, S2.kept, fun b hb => hb.elim (S2.lt b) fun x => (g5 b x).2⟩⟩
        have hnd := S2.nodup
        rw [hids'] at hnd
        have h6 := List.nodup_append.1 hnd
        have h7 := List.nodup_append.1 h6.2.1
        exact List.nodup_append.2 ⟨h6.1, h7.2.1, fun x hx y hy => h6.2.2 x hx y (by simp only [List.mem_append] at hy ⊢; exact .inr hy)⟩
end
end Go.Gb
end
section
/-! The worker's send. -/
set_option linter.unusedSimpArgs false
set_option linter.unusedVariables false
set_option linter.unusedSectionVars false
namespace Go.Gb
open Go.Conc
theorem allPlain_inv : ∀ {l : List V}, allPlain l = true → ∀ v ∈ l, plainV v = true := by
  intro l
  induction l with
  | nil => intro _ v hv; simp at hv
  | cons x l ih =>
    intro h v hv
    replace h : boolK (plainV x) (allPlain l) false = true := h
    cases hx : plainV x with
    | false => rw [hx] at h; cases h
    | true =>
      rw [hx] at h
      rcases List.mem_cons.1 hv with rfl | hv
      · exact hx
      · exact ih h v hv
theorem VR.plain {ml : Gl} {σ σ' : Sg} {v : V} {x : Value} (hp : plainV v = true) (h : VR ml σ v x) : VR ml σ' v x := by
  cases v <;> simp only [plainV, reduceCtorEq] at hp <;> cases x <;> simp only [VR] at h ⊢ <;> exact h
theorem takeObs_plain {C : Type} {vs : List V} {h : Heap} {k : List (Gb.P × Ob) → Heap → O C} (c : V) (h1 : ∀ id o l cp, c ≠ .sl id o l cp) (h2 : c ≠ .nils) : takeObs (c :: vs) h k = boolK (plainV c) (takeObs vs h k) none := by
  cases c <;> first | rfl | exact absurd rfl (h1 _ _ _ _) | exact absurd rfl h2
theorem takeObs_inv {C : Type} : ∀ {vs : List V} {h : Heap} {k : List (Gb.P × Ob) → Heap → O C} {r : C}, takeObs vs h k = some r → ∃ obs h', k obs h' = some r ∧
    (∀ id ob, (id, ob) ∈ obs → T.get id h = some ob ∧ (∃ cs el room opn fz, ob = .row cs el room opn fz ∧ allPlain cs = true) ∧ ∃ o l c, V.sl id o l c ∈ vs) ∧ (∀ id ob, T.get id h' = some ob → id ∉ obs.map (·.1) ∧ T.get id h = some ob) ∧
    (∀ c ∈ vs, plainV c = true ∨ c = .nils ∨ ∃ id o l cp, c = .sl id o l cp ∧ id ∈ obs.map (·.1)) := by
  intro vs
  induction vs with
  | nil => intro h k r e; exact ⟨[], h, e, by simp, fun id ob hg => ⟨by simp, hg⟩, by simp⟩
  | cons c vs ih =>
    intro h k r e
    have easy : takeObs vs h k = some r → (plainV c = true ∨ c = .nils) → ∃ obs h', k obs h' = some r ∧
        (∀ id ob, (id, ob) ∈ obs → T.get id h = some ob ∧ (∃ cs el room opn fz, ob = .row cs el room opn fz ∧ allPlain cs = true) ∧ ∃ o l c', V.sl id o l c' ∈ c :: vs) ∧ (∀ id ob, T.get id h' = some ob → id ∉ obs.map (·.1) ∧ T.get id h = some ob) ∧
        (∀ c' ∈ c :: vs, plainV c' = true ∨ c' = .nils ∨ ∃ id o l cp, c' = .sl id o l cp ∧ id ∈ obs.map (·.1)) := by
      intro e hc
      obtain ⟨obs, h', e2, h1, h2, h3⟩ := ih e
      refine ⟨obs, h', e2, fun id ob hm => ?_, h2, fun c' hc' => ?_⟩
      · obtain ⟨a, b, o, l, cp, d⟩ := h1 id ob hm
        exact ⟨a, b, o, l, cp, by simp [d]⟩
      · rcases List.mem_cons.1 hc' with rfl | hc'
        · exact hc.imp (fun x => x) .inl
        · exact h3 c' hc'
    cases c
    case sl id o l cp =>
      replace e : getOb id h (fun ob => match ob with
        | .row cs el room opn fz => boolK (allPlain cs) (T.putK none id h fun h => takeObs vs h fun l h => k ((id, .row cs el room opn fz) :: l) h) none
        | _ => none) = some r := e
      obtain ⟨ob, hob, e⟩ := getOb_inv e
      cases ob <;> simp only [reduceCtorEq] at e
      rename_i rcs el room opn fz
      obtain ⟨hpl, e⟩ := boolK_inv e
      rw [T.putK_eq] at e
      obtain ⟨obs, h', e2, h1, h2, h3⟩ := ih e
      refine ⟨_ :: obs, h', e2, fun id2 ob2 hm => ?_, fun id2 ob2 hg => ?_, fun c' hc' => ?_⟩
      · rcases List.mem_cons.1 hm with hm | hm
        · cases hm; exact ⟨hob, ⟨_, _, _, _, _, rfl, hpl⟩, o, l, cp, by simp⟩
        · obtain ⟨a, b, o', l', cp', d⟩ := h1 id2 ob2 hm
          have hne : id ≠ id2 := fun e => by subst e; rw [T.get_put_same] at a; cases a
          rw [T.get_put_ne _ _ _ _ hne] at a
          exact ⟨a, b, o', l', cp', by simp [d]⟩
      · obtain ⟨a, b⟩ := h2 id2 ob2 hg
        have hne : id ≠ id2 := fun e => by subst e; rw [T.get_put_same] at b; cases b
        rw [T.get_put_ne _ _ _ _ hne] at b
        exact ⟨by simp only [List.map_cons, List.mem_cons]; exact fun x => x.elim (fun e => hne e.symm) a, b⟩
      · rcases List.mem_cons.1 hc' with rfl | hc'
        · exact .inr (.inr ⟨id, o, l, cp, rfl, by simp⟩)
        · rcases h3 c' hc' with h | h | ⟨i, o', l', cp', h, hi⟩
          · exact .inl h
          · exact .inr (.inl h)
          · exact .inr (.inr ⟨i, o', l', cp', h, by simp only [List.map_cons, List.mem_cons]; exact .inr hi⟩)
    case nils => exact easy e (.inr rfl)
    all_goals
      rw [takeObs_plain _ (fun _ _ _ _ => by simp) (by simp)] at e
      obtain ⟨hp, e⟩ := boolK_inv e
      exact easy e (.inl hp)
section
variable {P : Program} {N0 : Nat} {mla : Addr} {ml : Gl} {θ : Th} {Post : Value → World → Prop} {E : Env}
variable {top : Fr} {cs : List Fr} {h : Heap} {nx : Gb.P} {io : AIo} {r : Rs}
theorem still_select2 {oo : Oper} {s1 s2 : SelectCase} {i i2 : TypeInfo} {z z2 : Value} {a : Act} {b : Bool} (ho : oo.op = .select #[s1, s2] b) (hi : P.info? s1.elem = some i) (hz : i.zero = some z) (hi2 : P.info? s2.elem = some i2) (hz2 : i2.zero = some z2) :
    Still P (execOp a.eval oo) (.comm #[{ chan := a.eval s1.chan, send := s1.send.map a.eval, zero := z }, { chan := a.eval s2.chan, send := s2.send.map a.eval, zero := z2 }] b .select) := by
  unfold execOp
  simp only [ho]
  refine Still.bind (v := #[{ chan := a.eval s1.chan, send := s1.send.map a.eval, zero := z }, { chan := a.eval s2.chan, send := s2.send.map a.eval, zero := z2 }]) ?_ Still.pure
  have : ∀ (f : SelectCase → Sem CommCase), (#[s1, s2] : Array SelectCase).mapM f = (do let x ← f s1; let y ← f s2; Pure.pure #[x, y]) := by
    intro f
    simp [Array.mapM_eq_mapM_toList]
  rw [this]
  exact Still.bind (Still.bind (Still.zeroValue hi hz) Still.pure) (Still.bind (Still.bind (Still.zeroValue hi2 hz2) Still.pure) Still.pure)
theorem vrl_sub {σ σ' : Sg} : ∀ {vs : List V} {us : List Value}, (∀ v ∈ vs, ∀ u, VR ml σ v u → VR ml σ' v u) → VRL ml σ vs us → VRL ml σ' vs us
  | [], [], _, _ => trivial
  | v :: vs, u :: us, hs, h => ⟨hs v (by simp) u h.1, vrl_sub (fun v hv => hs v (by simp [hv])) h.2⟩
theorem okay_send2 {c x ec : Opd} {z : V} (hat : Ats P N0 mla ml top (.send2 c x ec z)) {gk : GK} (e : fxK E gk (.send2 c x ec z) top cs h nx io = some r) (hr : Suc P N0 mla ml θ Post E r) : Okay P N0 mla ml θ Post ⟨top, cs, h, nx, io⟩ := by
  simp only [fxK] at e
  obtain ⟨cv, hcv, e⟩ := opdK_some e
  obtain ⟨xv, hxv, e⟩ := opdK_some e
  obtain ⟨ev, hev, e⟩ := opdK_some e
  split at e
  case h_2 => cases e
  rename_i cid eid c2 e2 vs0 e0 e1 e3
  clear e0 e1 e3
  split at e
  case isFalse => cases e
  rename_i hid
  subst hid
  split at e
  case isFalse => cases e
  rename_i hid
  subst hid
  obtain ⟨obs, h', e, t1, t2, t3⟩ := takeObs_inv e
  intro io' own g w hc
  refine comm_at (Q := fun _ _ _ _ _ _ _ _ => True) (fun h => by cases h) hat hc fun σ vt vs vss ids f fs w1 a hg S hk oo hv hx hst => ?_
  generalize hop : oo.op = op at hx
  cases hx with
  | @send2 _ _ _ c' x' ee t t' z0 _ hz0 hz hcr hxr her =>
    obtain ⟨ti, y0, h1, h2, _⟩ := hz0
    obtain ⟨ti', z', h3, h4, hz'⟩ := hz
    have hcu := opd_val (k := (some : V → O V)) (r := .nili) (hv c (by simp [fxOpds])) hcr hcv
    have hxu := opd_val (k := (some : V → O V)) (r := .nili) (hv x (by simp [fxOpds])) hxr hxv
    have heu := opd_val (k := (some : V → O V)) (r := .nili) (hv ec (by simp [fxOpds])) her hev
    obtain ⟨p, hp, hce⟩ := vr_chan hcu
    obtain ⟨q, hq, hee⟩ := vr_chan heu
    have hstep : ∀ main, stepG P main (G f (fs ++ θ.outer)) w1 = .comm (G f (fs ++ θ.outer)) #[scase p.bl ((⟨f.tmps, f.defers⟩ : Act).eval x') y0, rcase q.bl z'] true .select w1 #[] := by
      intro main
      rw [hst _ (fun c h => by rw [hop] at h; cases h) (still_select2 hop h1 h2 h3 h4) main, apply_comm hk]
      simp only [hce, hee, Option.map_some, Option.map_none]
      rfl
    have hio := S.io
    generalize hioe : (⟨top, cs, h, nx, AIo.work cid eid⟩ : Cfg).io = ioe at hio
    cases hio with
    | solo => cases hioe
    | off => cases hioe
    | duo => cases hioe
    | @work _ _ cb eb p2 q2 hc2 hb he2 hb2 hids hhf =>
      cases hioe
      have hc2 : σ cid = some p2 := hc2
      have he2 : σ eid = some q2 := he2
      rw [hp] at hc2; cases hc2
      rw [hq] at he2; cases he2
      subst hb hb2
      generalize hux : (⟨f.tmps, f.defers⟩ : Act).eval x' = ux at hxu hstep
      obtain ⟨fr', e3, hfin, _⟩ := fin_rel S.top (v := .tup [.int .i64 (.ofNat 0), .bool false, z]) (u := commResult #[scase p.bl ux y0, rcase q.bl z'] .select 0 undef false) (by rw [commR_se]; exact ⟨⟨rfl, rfl⟩, rfl, hz' ml σ, trivial⟩) e
      cases e3
      obtain ⟨ms, htot, hok⟩ := hr
      rw [htot]
      let ownm : Own := fun b => ∃ id ob p, (id, ob) ∈ obs ∧ σ id = some p ∧ p.bl = b
      let σm : Sg := fun id => if id ∈ obs.map (·.1) then σ id else none
      have placed : ∀ id ob, (id, ob) ∈ obs → ∃ p, σ id = some p := by
        intro id ob hm
        obtain ⟨_, _, o, l, cp, hmem⟩ := t1 id ob hm
        cases ux <;> simp only [VR] at hxu
        rename_i us
        obtain ⟨j, hj⟩ := List.getElem?_of_mem hmem
        obtain ⟨u, _, hu⟩ := VRL.get hxu.1 hj
        obtain ⟨p, hp, _⟩ := vr_sl hu
        exact ⟨p, hp⟩
      have hmy : ∀ b, ownm b → own b := by
        rintro b ⟨id, ob, p, hm, hp, rfl⟩
        exact mine_self.1 (S.ar.has id p ob hp (t1 id ob hm).1)
      refine .send (own' := fun b => own b ∧ ¬ ownm b) (ownm := ownm) (hstep false) (Like.refl _) ⟨σm, ?_, ?_, ?_, ?_, fun b hb => ⟨S.ar.apart b (hmy b hb), S.lt b (hmy b hb)⟩⟩ (fun b => ⟨fun hb => ?_, fun hb => ?_⟩) (fun b hb => hb.2) fun w2 a2 => hok _ _ _ _ ?_
      · cases ux <;> simp only [VR] at hxu ⊢
        refine ⟨vrl_sub (fun v hv' u hu => ?_) hxu.1, hxu.2⟩
        rcases t3 v hv' with hpl | rfl | ⟨id, o, l, cp, rfl, hid⟩
        · exact VR.plain hpl hu
        · rw [vr_nils hu]; exact ⟨rfl, rfl⟩
        · obtain ⟨p, hp, rfl⟩ := vr_sl hu
          exact ⟨p, by show (if id ∈ obs.map (·.1) then σ id else none) = some p; rw [if_pos hid]; exact hp, rfl, rfl, rfl⟩
      · intro id p hp
        by_cases hid : id ∈ obs.map (·.1)
        · obtain ⟨⟨i, ob⟩, hm, rfl⟩ := List.mem_map.1 hid
          exact ⟨ob, hm⟩
        · have : σm id = none := if_neg hid
          rw [this] at hp; cases hp
      · intro id ob hm
        obtain ⟨p, hp⟩ := placed id ob hm
        obtain ⟨hg1, ⟨rcs, el, room, opn, fz, rfl, hpl⟩, _⟩ := t1 id ob hm
        obtain ⟨o, ho, hor⟩ := S.ar.obs id p _ hp hg1
        refine ⟨p, o, by show (if id ∈ obs.map (·.1) then σ id else none) = some p; rw [if_pos (List.mem_map.2 ⟨_, hm, rfl⟩)]; exact hp, ho, ?_, ⟨id, _, p, hm, hp, rfl⟩⟩
        cases o <;> simp only [ObR] at hor ⊢
        obtain ⟨g1, g2, g3⟩ := hor
        refine ⟨g1, fun i v hv' => ?_, g3⟩
        obtain ⟨x, hx1, hx2, hx3⟩ := g2 i v hv'
        exact ⟨x, hx1, VR.plain (allPlain_inv hpl v (List.mem_of_getElem? hv')) hx2, hx3⟩
      · intro id id' p p' hp hp' hb
        have k1 : ∀ {i pp}, σm i = some pp → σ i = some pp ∧ ∃ ob, (i, ob) ∈ obs := by
          intro i pp h
          by_cases hid : i ∈ obs.map (·.1)
          · have : σm i = σ i := if_pos hid
            obtain ⟨⟨i2, ob⟩, hm, rfl⟩ := List.mem_map.1 hid
            exact ⟨this ▸ h, ob, hm⟩
          · have : σm i = none := if_neg hid
            rw [this] at h; cases h
        obtain ⟨a1, ob1, a2⟩ := k1 hp
        obtain ⟨b1, ob2, b2⟩ := k1 hp'
        exact S.ar.inj id id' p p' ob1 ob2 a1 b1 (t1 _ _ a2).1 (t1 _ _ b2).1 hb
      · by_cases hm : ownm b
        · exact .inr hm
        · exact .inl ⟨hb, hm⟩
      · rcases hb with hb | hb
        · exact hb.1
        · exact hmy b hb
      · have S2 := S.agree a2
        have H := S2.ar
        have live : ∀ {id p ob}, σ id = some p → T.get id h' = some ob → own p.bl ∧ ¬ ownm p.bl := by
          intro id p ob hp hob
          obtain ⟨n1, n2⟩ := t2 id ob hob
          refine ⟨mine_self.1 (H.has id p ob hp n2), ?_⟩
          rintro ⟨id2, ob2, p2, hm, hp2, hb⟩
          have := H.inj id2 id p2 p ob2 ob hp2 hp (t1 _ _ hm).1 n2 hb
          exact n1 (List.mem_map.2 ⟨_, hm, this⟩)
        have hvh : vt.hf = .nil := by rw [S2.hf]; exact hhf.1
        refine ⟨σ, vt, vs, vss, ids, _, fs, rfl, ⟨⟨H.dom, fun id p ob hp hob => .inl (live hp hob), H.low, fun id ob hob => H.hlow id ob (t2 id ob hob).2, fun id id' p p' ob ob' hp hp' hob hob' hb => H.inj id id' p p' ob ob' hp hp' (t2 _ _ hob).2 (t2 _ _ hob').2 hb,
          fun id p ob hp hob => H.obs id p ob hp (t2 _ _ hob).2, H.vts, fun id p ob hp hob => (by rw [hvh, T.get_nil] at hob; cases hob), fun id id' p p' ob ob' hp hp' hob hob' => (by rw [hvh, T.get_nil] at hob; cases hob), fun id p ob hp hob => (by rw [hvh, T.get_nil] at hob; cases hob), H.frl, H.glob, H.n0le, fun b hb => H.apart b hb.1⟩,
          hfin, S2.cs, .work hp rfl hq rfl hids hhf, S2.vids, S2.nodup, S2.hf, S2.kept, fun b hb => S2.lt b hb.1⟩⟩
end
end Go.Gb
end
