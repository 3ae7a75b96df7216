/- A part of the proof of the statement Rows.TopMissingCardSaid (at every argument the law returns true on every schedule, and its argument reads as before; the listed variables as laid). This text: a stepper over symbolic states of the translated program and its soundness, part 36 of 41. -/
import Derived.Test.YtgabhijnigpbdaaGreatDoorM35
section
/-! A call followed apart. -/
set_option linter.unusedSimpArgs false
set_option linter.unusedVariables false
set_option linter.unusedSectionVars false
namespace Go.Gb
open Go.Conc
section
variable {P : Program} {N0 : Nat} {mla : Addr} {ml : Gl} {θ : Th} {Post : Value → World → Prop} {E : Env}
theorem AR.own_mono {vt : Vt} {σ : Sg} {h : Heap} {nx : Gb.P} {own own2 : Own} {n0 : Nat} {w : World} (H : AR N0 mla ml vt σ h nx own n0 w) (h1 : ∀ b, own b → own2 b) (h2 : ∀ b, own2 b → N0 ≤ b) : AR N0 mla ml vt σ h nx own2 n0 w :=
  ⟨H.dom, fun id p ob hp hob => (H.has id p ob hp hob).imp (h1 _) fun x => x, H.low, H.hlow, H.inj, H.obs, H.vts, H.fr, H.frx, fun id p ob hp hob => (H.fro id p ob hp hob).imp (h1 _) fun x => x, H.frl, H.glob, H.n0le, h2⟩
/-- Numbers set aside. -/
theorem AR.reserve {vt : Vt} {σ : Sg} {h : Heap} {nx nx' : Gb.P} {own : Own} {n0 : Nat} {w : World} (H : AR N0 mla ml vt σ h nx own n0 w) (hhf : vt.hf = .nil) (hle : nx.toNat ≤ nx'.toNat) {l : List Gb.P} (hl : ∀ id ∈ l, nx.toNat ≤ id.toNat ∧ id.toNat < nx'.toNat) : AR N0 mla ml ⟨vt.ids ++ (l ++ []), vt.hf⟩ σ h nx' own n0 w := by
  refine ⟨H.dom, H.has, fun id p hp => Nat.lt_of_lt_of_le (H.low id p hp) hle, fun id ob hob => Nat.lt_of_lt_of_le (H.hlow id ob hob) hle, H.inj, H.obs, fun id hid => ?_, H.fr, H.frx, H.fro, fun id ob hob => (by simp only [hhf, T.get_nil] at hob; cases hob), H.glob, H.n0le, H.apart⟩
  simp only [List.append_nil, List.mem_append] at hid
  rcases hid with hid | hid
  · exact ⟨(H.vts id hid).1, Nat.lt_of_lt_of_le (H.vts id hid).2 hle⟩
  · obtain ⟨h1, h2⟩ := hl id hid
    refine ⟨?_, h2⟩
    cases hs : σ id with
    | none => rfl
    | some p => have := H.low id p hs; omega
theorem okay_sub (hF : FunOk P E) {g0 : Gb.P} {nt : Nat} {regs regs' : Regs} {b0 : Code} {top top2 : Fr} {cs : List Fr} {h h' h2 hx : Heap} {nx nx' : Gb.P} {io : AIo} {v0 v' : V} {obs : List (Gb.P × Ob)} (hH : HandV ml v0 h2 nx v' obs hx nx')
    (hg : ∀ id ob, T.get id h' = some ob → (id, ob) ∈ obs ∨ (id ∉ obs.map (·.1) ∧ T.get id h = some ob)) (hθ : θ.hf = .nil)
    (hregs : ∀ (σ : Sg) (p : Gb.P) (u : Value) (v' : V), T.get p regs' = some v' → ∃ v, T.get p regs = some v ∧ (VR ml σ v u → VR ml (fun _ => none) v' u))
    (hsub : ∀ θ' : Th, θ'.hf = .nil → (∀ c, c.top.dfd = false → c.io = .off → c.h = h2 → DoneIs P N0 mla ml E v0 c → Okay P N0 mla ml θ' Post c) → Okay P N0 mla ml θ' Post ⟨⟨g0, nt, regs', [.code b0], [], .run, false, none⟩, [], .nil, .z, .off⟩)
    (hfin : ∀ k : Fr → OR, finK v' top k = k top2) (hr : Okay P N0 mla ml θ Post ⟨top2, cs, h', nx', io⟩) : Okay P N0 mla ml θ Post ⟨⟨g0, nt, regs, [.code b0], [], .run, false, none⟩, top :: cs, h, nx, io⟩ := by
  rintro io' own g w ⟨σ, vt, vs, vss, ids, f, fs, rfl, S⟩
  obtain ⟨vs1, vss', f1, fs', rfl, rfl, F1, F2⟩ := S.cs.cons
  have hnd : NoDg [AIt.code b0] := trivial
  have hv0 : vs = [] := vids_no hnd S.top.vids
  have hT0 : FrR P N0 mla ml (fun _ => none) [] ⟨g0, nt, regs', [.code b0], [], .run, false, none⟩ f := by
    have F := S.top
    refine ⟨F.fn, F.nt, fun p v hv _ => ?_, ?_, F.tail, vids_nil hnd, ?_, ?_, F.kind, ?_⟩
    · obtain ⟨v', h1, h2⟩ := hregs σ p _ v hv
      exact h2 (F.regs p v' h1 (by rw [pnd_no hnd]; exact fun x => x))
    · have := F.todo
      cases ht : f.todo with
      | nil => rw [ht] at this; exact this.elim
      | cons it k =>
        rw [ht] at this
        obtain ⟨t1, t2⟩ := this
        refine ⟨?_, ?_⟩
        · cases it <;> first | exact t1 | exact t1.elim
        · cases k <;> first | trivial | exact t2.elim
    · have := F.defers
      cases hd : f.defers with
      | nil => trivial
      | cons a l => rw [hd] at this; exact this.elim
    · have := F.md
      cases hm : f.mode <;> rw [hm] at this <;> first | trivial | exact this.elim
    · rcases F.round with h | ⟨l, p, h, _⟩
      · exact .inl h
      · cases h
  intro ownx hfr
  let θ' : Th := { outer := f1 :: (fs' ++ θ.outer), ov := [], hf := .nil, total := [], w0 := w, X := fun b => own b ∨ θ.X b, io0 := io' }
  have hstart : CfgR P N0 mla ml θ' ⟨⟨g0, nt, regs', [.code b0], [], .run, false, none⟩, [], .nil, .z, .off⟩ io' (fun _ => False) (G f (f1 :: fs' ++ θ.outer)) w := by
    refine ⟨fun _ => none, ⟨[], .nil⟩, [], [], [], f, [], rfl, ⟨⟨fun id p hp => (by cases hp), fun id p ob _ hob => (by rw [T.get_nil] at hob; cases hob), fun id p hp => (by cases hp), fun id ob hob => (by rw [T.get_nil] at hob; cases hob), fun id id' p p' o1 o2 _ _ h1 => (by rw [T.get_nil] at h1; cases h1), fun id p ob _ hob => (by rw [T.get_nil] at hob; cases hob), fun id hid => (by simp at hid), fun id p ob _ hob => (by rw [T.get_nil] at hob; cases hob), fun id id' p p' o1 o2 _ _ h1 => (by rw [T.get_nil] at h1; cases h1), fun id p ob _ hob => (by rw [T.get_nil] at hob; cases hob), fun id ob hob => (by rw [T.get_nil] at hob; cases hob), S.ar.glob, ⟨S.ar.n0le.1, Nat.le_refl _⟩, fun b hb => hb.elim⟩,
      hT0, trivial, .off rfl rfl, rfl, List.nodup_nil, rfl, ⟨rfl, rfl, rfl, Nat.le_refl _, fun _ _ => rfl⟩, fun b hb => hb.elim⟩⟩
  refine hsub θ' rfl (fun c hdf hio hch hd => ?_) io' _ _ w hstart ownx ⟨fun b => by rw [hfr.1 b]; exact ⟨fun x => .inr x, fun x => x.elim (fun y => y.elim) fun y => y⟩, fun b hb => ⟨fun y => y, ?_⟩⟩
  · -- the return
    obtain ⟨hnd2, hcs, hmd, hdfs, hrd, fd, hfd, ht⟩ := hd
    obtain ⟨hp1, _⟩ := hF.funs _ fd hfd
    rintro io2 own2 g2 w2 ⟨σ2, vt2, vs2, vss2, ids2, f2, fs2, rfl, S2⟩
    have hfs2 : fs2 = [] := by
      have := S2.cs
      rw [hcs] at this
      cases vss2 <;> cases fs2 <;> first | rfl | exact this.elim
    subst hfs2
    have hio2 : io2 = io' := by
      have := S2.io
      rw [hio] at this
      cases this with
      | off _ h => exact h
    subst hio2
    intro ownx2 hfr2
    refine Beh.intro P N0 (MsgR N0 ml) Post ⟨rfl, fun w3 ag3 => ?_⟩
    have S3 := S2.agree (ag3.mono fun b hb => (hfr2.1 b).2 (.inl hb))
    have F := S3.top
    have hmode : f2.mode = .returning := by
      have := F.md
      rw [hmd] at this
      cases hm : f2.mode <;> rw [hm] at this <;> first | rfl | exact this.elim
    have hdef : f2.defers = [] := by
      have := F.defers
      rw [hdfs] at this
      cases hd : f2.defers with
      | nil => rfl
      | cons a b => rw [hd] at this; exact this.elim
    have hfn : f2.fn = c.top.fn.toNat := F.fn
    have hkd : f2.kind = .normal := by have := F.kind; rw [hdf] at this; exact this
    obtain ⟨u, w4, es, k1, k2, rfl, hu⟩ := SW.sound (P := P) (N0 := N0) (own := own2) (n0 := w3.heap.size) (results fd f2.tmps) #[] (ht σ2 vt2 c.nx own2 w3.heap.size w3 f2.tmps S3.ar fun p v hpv => F.regs p v hpv (by rw [pnd_no hnd2]; exact fun x => x))
    have hstep : stepG P io2.main (G f2 ([] ++ θ'.outer)) w4 = .go (G (f1.finish u) (fs' ++ θ.outer)) w4 (seen P f2.fn (#[] ++ es)) := by
      rw [stepG_unwind (by rw [hmode]; exact fun x => by cases x)]
      unfold unwind
      simp only [hdef, hmode, hfn, hp1, k1]
      show GStep.after _ (doReturn P io2.main f2 (f1 :: (fs' ++ θ.outer)) none u w4) = _
      rw [doReturn_cons hkd]
      exact after_go ..
    have kd : Does N0 own2 (mine own2 w4.heap.size w4) w4 w4 (seen P f2.fn (#[] ++ es)) := by rw [Array.empty_append]; exact k2.does (P := P) (fn := f2.fn)
    have hxs : ∀ b, (own b ∨ θ.X b) → w4.heap[b]? = w.heap[b]? := fun b hb => (ag3.own b ((hfr2.1 b).2 (.inr hb))).trans (hfr2.2 b hb).2.2.2
    have agw : Agree N0 own w w4 := ⟨S3.kept.os, S3.kept.tape, S3.kept.output, S3.kept.size, S3.kept.base, fun b hb => hxs b (.inl hb)⟩
    have S4 := S.agree agw
    obtain ⟨τ, hB, hV⟩ := hH
    obtain ⟨hvm, hlive⟩ := hV σ2 u hu
    have hhf : vt.hf = .nil := by rw [S.hf]; exact hθ
    have H3 := S3.ar
    rw [hch] at H3
    have msome : ∀ {id p}, msig σ2 τ (obs.map (·.1)) id = some p → id ∈ obs.map (·.1) ∧ σ2 (τ id) = some p := by
      intro id p hp
      unfold msig at hp
      split at hp
      · exact ⟨‹_›, hp⟩
      · cases hp
    have msrc : ∀ id ob, (id, ob) ∈ obs → ∃ p, msig σ2 τ (obs.map (·.1)) id = some p ∧ σ2 (τ id) = some p := by
      intro id ob hm
      have hin : id ∈ obs.map (·.1) := List.mem_map.2 ⟨_, hm, rfl⟩
      cases hs : σ2 (τ id) with
      | none => exact absurd hs (hlive id hin)
      | some p => exact ⟨p, by unfold msig; rw [if_pos hin]; exact hs, rfl⟩
    have Hr := S4.ar.reserve (nx' := nx') hhf hB.le (l := obs.map (·.1)) hB.rng
    obtain ⟨s1, s2, Ht⟩ := AR.take (m := (v', obs)) (σm := msig σ2 τ (obs.map (·.1))) (ownm := own2) Hr hhf (pre := vt.ids) (rest := []) rfl (by
        show (vt.ids ++ ((obs.map fun x : Gb.P × Ob => x.1) ++ [])).Nodup
        rw [List.append_nil]
        refine List.nodup_append.2 ⟨S.nodup, hB.nodup, fun a ha b hb hab => ?_⟩
        subst hab
        have h1 := (S.ar.vts a ha).2
        have h2 := (hB.rng a hb).1
        simp only at h1
        omega)
      (fun id p hp => by
        obtain ⟨⟨i, ob⟩, hm, rfl⟩ := List.mem_map.1 (msome hp).1
        exact ⟨ob, hm⟩)
      (fun id ob hm => by
        obtain ⟨p, h1, h2⟩ := msrc id ob hm
        obtain ⟨h3, h4⟩ := hB.src id ob hm
        obtain ⟨o, h5, h6⟩ := H3.obs _ p ob h2 h3
        exact ⟨p, o, h1, h5, h4.rel h6, mine_self.1 (H3.has _ p ob h2 h3)⟩)
      (fun id id' p p' hp hp' hbl => by
        obtain ⟨h1, h2⟩ := msome hp
        obtain ⟨h3, h4⟩ := msome hp'
        obtain ⟨⟨i, ob⟩, hm, rfl⟩ := List.mem_map.1 h1
        obtain ⟨⟨i', ob'⟩, hm', rfl⟩ := List.mem_map.1 h3
        exact hB.inj _ _ h1 h3 (H3.inj _ _ p p' ob ob' h2 h4 (hB.src i ob hm).1 (hB.src i' ob' hm').1 hbl))
      H3.apart (fun b hb hb2 => (hfr2.2 b (.inl hb)).1 hb2) (h' := h') hg
    have Ht : AR N0 mla ml vt (fun id => (msig σ2 τ (obs.map (·.1)) id).or (σ id)) h' nx' (fun b => own b ∨ own2 b) w4.heap.size w4 := by
      have : (⟨vt.ids ++ [], vt.hf⟩ : Vt) = vt := by rw [List.append_nil]
      rw [← this]; exact Ht
    obtain ⟨fr', e3, hF1, _⟩ := fin_rel (F1.mono s1) (VR.mono s2 _ _ hvm) (k := fun fr => some (.go ⟨fr, [], .nil, .z, .solo⟩)) (hfin _)
    cases e3
    refine .go (own' := fun b => (own b ∨ own2 b) ∨ θ.X b) hstep rfl ⟨kd.os, kd.tape, kd.output, kd.size, fun b hb hn => rfl, fun b hb => ?_, kd.chans, kd.marks, fun e he x hx b hb => ?_⟩ (hr io2 (fun b => own b ∨ own2 b) _ w4 ⟨_, vt, vs1, vss', ids, _, fs', rfl, ⟨Ht, hF1, F2.mono s1, S.io.mono s1, by rw [S.vids, hv0]; simp, S.nodup, S.hf, S4.kept, fun b hb => hb.elim (S4.lt b) (S3.lt b)⟩⟩ _ ⟨fun b => Iff.rfl, fun b hb => ?_⟩)
    · left
      rcases hb with (hb | hb) | hb
      · exact (hfr2.1 b).2 (.inr (.inl hb))
      · exact (hfr2.1 b).2 (.inl hb)
      · exact (hfr2.1 b).2 (.inr (.inr hb))
    · obtain ⟨y1, y2, y3⟩ := kd.touch e he x hx b hb
      refine ⟨y1, y2, y3.imp (fun z => .inl (.inr (mine_self.1 z))) fun z => z⟩
    · obtain ⟨z1, z2, z3, z4⟩ := hfr.2 b hb
      exact ⟨fun y => y.elim z1 (hfr2.2 b (.inr hb)).1, z2, Nat.lt_of_lt_of_le z3 S3.kept.size, (hxs b (.inr hb)).trans z4⟩
  · rcases hb with hb | hb
    · exact ⟨S.ar.apart b hb, S.lt b hb, rfl⟩
    · obtain ⟨_, z2, z3, _⟩ := hfr.2 b hb
      exact ⟨z2, z3, rfl⟩
end
end Go.Gb
end
section
/-! Calls followed apart are told truly. -/
set_option linter.unusedSimpArgs false
set_option linter.unusedVariables false
set_option linter.unusedSectionVars false
namespace Go.Gb
open Go.Conc
theorem argsK_det : ∀ (vs : List V) (i : Gb.P) (regs : Regs), ∃ regs', (∀ k : Regs → OR, argsK vs i regs k = k regs') ∧ (∀ p v, T.get p regs' = some v → (∃ j, p.toNat = i.toNat + j ∧ vs[j]? = some v) ∨ T.get p regs = some v) ∧
    (∀ p, p.toNat < i.toNat → T.get p regs' = T.get p regs) ∧ ∀ (j : Nat) v p, vs[j]? = some v → p.toNat = i.toNat + j → T.get p regs' = some v := by
  intro vs
  induction vs with
  | nil => intro i regs; exact ⟨regs, fun k => rfl, fun p v h => .inr h, fun p h => rfl, fun j v p h => by simp at h⟩
  | cons v vs ih =>
    intro i regs
    obtain ⟨regs', h1, h2, h3, h4⟩ := ih i.succ (T.put (some v) i regs)
    refine ⟨regs', fun k => ?_, fun p u hp => ?_, fun p hp => ?_, fun j u p hj hp => ?_⟩
    · show T.putK (some v) i regs (fun regs => succK i fun i => argsK vs i regs k) = _
      rw [T.putK_eq, succK_eq]; exact h1 k
    · rcases h2 p u hp with ⟨j, h1, h2⟩ | h1
      · rw [P.toNat_succ] at h1
        exact .inl ⟨j + 1, by omega, by simpa using h2⟩
      · by_cases hpi : i = p
        · subst hpi; rw [T.get_put_same] at h1; cases h1; exact .inl ⟨0, by simp, rfl⟩
        · rw [T.get_put_ne _ _ _ _ hpi] at h1; exact .inr h1
    · rw [h3 p (by rw [P.toNat_succ]; omega), T.get_put_ne _ _ _ _ (fun e => by subst e; omega)]
    · cases j with
      | zero =>
        have : p = i := Gb.P.toNat_inj (by omega)
        subst this
        simp at hj; subst hj
        rw [h3 p (by rw [P.toNat_succ]; omega), T.get_put_same]
      | succ j => exact h4 j u p (by simpa using hj) (by rw [P.toNat_succ]; omega)
theorem allPlain_get : ∀ {l : List V}, allPlain l = true → ∀ v ∈ l, plainV v = true := by
  intro l
  induction l with
  | nil => intro _ v hv; simp at hv
  | cons x l ih =>
    intro h v hv
    replace h : boolK (plainV x) (allPlain l) false = true := h
    rw [boolK_eq] at h
    split at h
    · rcases List.mem_cons.1 hv with rfl | hv
      · assumption
      · exact ih h v hv
    · cases h
section
variable {P : Program} {N0 : Nat} {mla : Addr} {ml : Gl} {Post : Value → World → Prop} {E : Env} {st : Cfg → OR} {tbl : List (Cfg → OR)} {stb : Nat → Cfg → OR}
/-- Every step of it is sound. -/
def StOk (P : Program) (N0 : Nat) (mla : Addr) (ml : Gl) (Post : Value → World → Prop) (E : Env) (st : Cfg → OR) : Prop := ∀ (θ : Th) (c : Cfg) (r : Rs), θ.hf = .nil → st c = some r → Suc P N0 mla ml θ Post E r → Okay P N0 mla ml θ Post c
/-- A run followed apart that came to its end with v. -/
def RunIs (P : Program) (N0 : Nat) (mla : Addr) (ml : Gl) (Post : Value → World → Prop) (E : Env) (g : Gb.P) (args : List V) (v : V) (h2 : Heap) : Prop :=
  ∃ fd b regs, T.get g E.funs = some fd ∧ fd.body = some b ∧ args.length ≤ fd.ntmps ∧ (∀ k : Regs → OR, argsK args .z .nil k = k regs) ∧ (∀ p v, T.get p regs = some v → ∃ j, p.toNat = j ∧ args[j]? = some v) ∧
    ∀ θ' : Th, θ'.hf = .nil → (∀ c, c.top.dfd = false → c.io = .off → c.h = h2 → DoneIs P N0 mla ml E v c → Okay P N0 mla ml θ' Post c) → Okay P N0 mla ml θ' Post ⟨⟨g, fd.ntmps, regs, [.code b], [], .run, false, none⟩, [], .nil, .z, .off⟩
theorem runS_inv (hst : StOk P N0 mla ml Post E st) {n : Nat} {g : Gb.P} {args : List V} {no : OR} {k : V → Heap → OR} {r : Rs} (e : runS E st n g args no k = some r) : no = some r ∨ ∃ v h2, k v h2 = some r ∧ RunIs P N0 mla ml Post E g args v h2 := by
  unfold runS at e
  obtain ⟨fd, hfd, e⟩ := optK_inv e
  split at e
  case h_2 => cases e
  rename_i b hb
  obtain ⟨hn, e⟩ := boolK_inv e
  rw [natK_eq] at e
  obtain ⟨regs, hdet, hregs, _⟩ := argsK_det args .z .nil
  rw [hdet] at e
  cases h1 : iterS st n ⟨⟨g, fd.ntmps, regs, [.code b], [], .run, false, none⟩, [], .nil, .z, .off⟩ with
  | none => rw [h1] at e; exact .inl e
  | some r1 =>
    rw [h1] at e
    have hlen : args.length ≤ fd.ntmps := by have := Nat.le_of_ble_eq_true hn; rw [llen_eq] at this; omega
    simp only [optK] at e
    split at e
    case h_2 => exact .inl e
    rename_i v a1 a2 a3 a4 a5 a6 dfd a7 a8 a9 a10
    rcases boolK_cases e with ⟨_, e⟩ | ⟨hd, e⟩
    · exact .inl e
    refine .inr ⟨v, _, e, fd, b, regs, hfd, hb, hlen, hdet, fun p u hp => ?_, fun θ' hz hdone => iterS_suc (fun c r e hr => hst θ' c r hz e hr) n h1 fun hd' => hdone _ hd rfl rfl hd'⟩
    rcases hregs p u hp with ⟨j, h1, h2⟩ | h1
    · exact ⟨j, h1.trans (Nat.zero_add j), h2⟩
    · rw [T.get_nil] at h1; cases h1
theorem runP_inv (hst : StOk P N0 mla ml Post E st) {n : Nat} {g : Gb.P} {args : List V} {no : OR} {k : V → Heap → OR} {r : Rs} (e : runP E st n g args no k = some r) : no = some r ∨ ∃ v h2, k v h2 = some r ∧ (∀ x ∈ args, plainV x = true) ∧ RunIs P N0 mla ml Post E g args v h2 := by
  unfold runP at e
  rcases boolK_cases e with ⟨h1, e⟩ | ⟨_, e⟩
  · rcases runS_inv hst e with e | ⟨v, h2, h3, h4⟩
    · exact .inl e
    · exact .inr ⟨v, h2, h3, allPlain_get h1, h4⟩
  · exact .inl e
theorem runP_inv0 (hst : StOk P N0 mla ml Post E st) {n : Nat} {g : Gb.P} {args : List V} {k : V → Heap → OR} {r : Rs} (e : runP E st n g args none k = some r) : ∃ v h2, k v h2 = some r ∧ (∀ x ∈ args, plainV x = true) ∧ RunIs P N0 mla ml Post E g args v h2 :=
  (runP_inv hst e).resolve_left fun h => by cases h
/-- The call is followed apart. -/
theorem RunIs.okay (hF : FunOk P E) {g : Gb.P} {args args' : List V} {v : V} {h2 : Heap} (hR : RunIs P N0 mla ml Post E g args' v h2) (hlen : args.length = args'.length) (hargs : ∀ (σ : Sg) (j : Nat) (u : Value) (x' : V), args'[j]? = some x' → ∃ x, args[j]? = some x ∧ (VR ml σ x u → VR ml (fun _ => none) x' u)) :
    ∃ fd b regs, T.get g E.funs = some fd ∧ fd.body = some b ∧ args.length ≤ fd.ntmps ∧ (∀ k : Regs → OR, argsK args .z .nil k = k regs) ∧
    ∀ (θ : Th) (top : Fr) (cs : List Fr) (h h' hx : Heap) (nx nx' : Gb.P) (io : AIo) (top2 : Fr) (v' : V) (obs : List (Gb.P × Ob)), θ.hf = .nil → HandV ml v h2 nx v' obs hx nx' → (∀ id ob, T.get id h' = some ob → (id, ob) ∈ obs ∨ (id ∉ obs.map (·.1) ∧ T.get id h = some ob)) → (∀ k : Fr → OR, finK v' top k = k top2) → Okay P N0 mla ml θ Post ⟨top2, cs, h', nx', io⟩ → Okay P N0 mla ml θ Post ⟨⟨g, fd.ntmps, regs, [.code b], [], .run, false, none⟩, top :: cs, h, nx, io⟩ := by
  obtain ⟨fd, b, regs', h1, h2, h3, h4, h5, h7⟩ := hR
  obtain ⟨regs, k1, k2, _, k3⟩ := argsK_det args .z .nil
  refine ⟨fd, b, regs, h1, h2, by omega, k1, fun θ top cs h h' hx nx nx' io top2 v' obs hz hH hg hfin hok => okay_sub hF hH hg hz (fun σ p u v' hv' => ?_) h7 hfin hok⟩
  obtain ⟨j, rfl, hj⟩ := h5 p v' hv'
  obtain ⟨x, hx, hxv⟩ := hargs σ p.toNat u v' hj
  exact ⟨x, k3 p.toNat x p hx (by simp [Gb.P.toNat]), hxv⟩
theorem RunIs.plain (hF : FunOk P E) {g : Gb.P} {args : List V} {v : V} {h2 : Heap} (hR : RunIs P N0 mla ml Post E g args v h2) (hpl : ∀ x ∈ args, plainV x = true) :
    ∃ fd b regs, T.get g E.funs = some fd ∧ fd.body = some b ∧ args.length ≤ fd.ntmps ∧ (∀ k : Regs → OR, argsK args .z .nil k = k regs) ∧
    ∀ (θ : Th) (top : Fr) (cs : List Fr) (h h' hx : Heap) (nx nx' : Gb.P) (io : AIo) (top2 : Fr) (v' : V) (obs : List (Gb.P × Ob)), θ.hf = .nil → HandV ml v h2 nx v' obs hx nx' → (∀ id ob, T.get id h' = some ob → (id, ob) ∈ obs ∨ (id ∉ obs.map (·.1) ∧ T.get id h = some ob)) → (∀ k : Fr → OR, finK v' top k = k top2) → Okay P N0 mla ml θ Post ⟨top2, cs, h', nx', io⟩ → Okay P N0 mla ml θ Post ⟨⟨g, fd.ntmps, regs, [.code b], [], .run, false, none⟩, top :: cs, h, nx, io⟩ :=
  hR.okay hF rfl fun σ j u x' hj => ⟨x', hj, fun hx => VR.plain (hpl x' (List.mem_of_getElem? hj)) hx⟩
theorem handV_plain {v : V} (hv : plainV v = true) (h : Heap) (nx : Gb.P) : HandV ml v h nx v [] h nx := HandV.same fun σ σ' u hu => VR.plain hv hu
/-- Of a map whose keys are all as wished it tells true. -/
def EachIs (P : Program) (N0 : Nat) (mla : Addr) (ml : Gl) (Post : Value → World → Prop) (E : Env) (g : Gb.P) : Prop := ∀ (id w : Gb.P) (es : List (V × V × Nat)) (clk : Nat), (∀ k : Gb.P → OR, pK w.toNat k = k w) → (∀ e ∈ es, plainV e.1 = true ∧ ∃ h2, RunIs P N0 mla ml Post E w [e.1] (.bool true) h2) → (∀ e ∈ es, e.2.2 < clk) →
    ∃ fd b regs, T.get g E.funs = some fd ∧ fd.body = some b ∧ 2 ≤ fd.ntmps ∧ (∀ k : Regs → OR, argsK [.map id, .fn (.func w.toNat) [] []] .z .nil k = k regs) ∧
    ∀ (θ : Th) (top : Fr) (cs : List Fr) (h : Heap) (nx : Gb.P) (io : AIo) (top2 : Fr), θ.hf = .nil → T.get id h = some (.map es clk) → T.get nx h = none → (∀ k : Fr → OR, finK (.bool true) top k = k top2) → Okay P N0 mla ml θ Post ⟨top2, cs, h, nx.succ, io⟩ → Okay P N0 mla ml θ Post ⟨⟨g, fd.ntmps, regs, [.code b], [], .run, false, none⟩, top :: cs, h, nx, io⟩
theorem eachK_inv (hst : StOk P N0 mla ml Post E st) {n : Nat} {w : Gb.P} {k : OR} {r : Rs} : ∀ {es : List (V × V × Nat)}, eachK E st n w es k = some r → k = some r ∧ ∀ e ∈ es, plainV e.1 = true ∧ ∃ h2, RunIs P N0 mla ml Post E w [e.1] (.bool true) h2 := by
  intro es
  induction es with
  | nil => intro e; exact ⟨e, by simp⟩
  | cons x es ih =>
    intro e
    replace e : runP E st n w [x.1] none (fun v _ => match v with | .bool true => eachK E st n w es k | _ => none) = some r := e
    obtain ⟨v, h2', e, h1, h2⟩ := runP_inv0 hst e
    split at e
    · obtain ⟨h3, h4⟩ := ih e
      refine ⟨h3, fun e' he' => ?_⟩
      rcases List.mem_cons.1 he' with rfl | he'
      · exact ⟨h1 _ (by simp), _, h2⟩
      · exact h4 e' he'
    · cases e
theorem allL_blt {clk : Nat} : ∀ {es : List (V × V × Nat)}, allL (fun e => Nat.blt e.2.2 clk) es = true → ∀ e ∈ es, e.2.2 < clk
  | [], _, e, he => by simp at he
  | x :: es, h, e, he => by
    replace h : boolK (Nat.blt x.2.2 clk) (allL (fun e => Nat.blt e.2.2 clk) es) false = true := h
    rw [boolK_eq] at h
    split at h
    · rename_i h1
      rcases List.mem_cons.1 he with rfl | he
      · exact Nat.le_of_ble_eq_true h1
      · exact allL_blt h e he
    · cases h
theorem runP_val {n : Nat} {g : Gb.P} {args : List V} {k : V → Heap → OR} {r : Rs} (e : runP E st n g args none k = some r) : ∃ v h2, ∀ k' : V → Heap → OR, runP E st n g args none k' = k' v h2 := by
  unfold runP at e ⊢
  obtain ⟨h1, e⟩ := boolK_inv e
  rw [h1]
  unfold runS at e
  obtain ⟨fd, hfd, e⟩ := optK_inv e
  split at e
  case h_2 => cases e
  rename_i b hb
  obtain ⟨hn, e⟩ := boolK_inv e
  rw [natK_eq] at e
  obtain ⟨regs, hdet, _⟩ := argsK_det args .z .nil
  rw [hdet] at e
  obtain ⟨r1, h2, e⟩ := optK_inv e
  split at e
  case h_2 => cases e
  rename_i v a1 a2 a3 a4 a5 a6 dfd a7 a8 hh a10
  rcases boolK_cases e with ⟨_, e⟩ | ⟨hd, e⟩
  · cases e
  refine ⟨v, hh, fun k' => ?_⟩
  show runS E st n g args none k' = k' v hh
  unfold runS
  rw [hfd]
  show (match fd.body with | some b => _ | none => none) = _
  rw [hb]
  simp only
  rw [hn, boolK_eq, if_pos rfl, natK_eq, hdet, h2]
  show boolK dfd none (k' v hh) = k' v hh
  rw [hd]
  rfl
theorem lnth_mem {α : Type} {l : List α} {i : Nat} {x : α} (h : lnth l i = some x) : x ∈ l := by
  exact List.mem_of_getElem? h
theorem subs_ok (hF : FunOk P E) (hst : ∀ st ∈ tbl, StOk P N0 mla ml Post E st) (hstb : ∀ b, ((b % 3 = 0 → ml.val < (b / 3 : Nat)) ∧ (b % 3 = 1 → (b / 3 : Nat) ≤ ml.val)) → StOk P N0 mla ml Post E (stb b)) (hEach : ∀ g l, T.get g E.exts = some (.each l) → EachIs P N0 mla ml Post E g) (n : Nat) : SubOk P N0 mla ml Post E (subs E tbl stb n) := by
  refine ⟨fun g args h nx no k r e => ?_⟩
  unfold subs at e
  cases hx : T.get g E.exts with
  | none => rw [hx] at e; exact .inl e
  | some x =>
    rw [hx] at e
    cases x with
    | sub l =>
      simp only [optK] at e
      cases ht : lnth tbl l with
      | none => rw [ht] at e; exact .inl e
      | some st =>
        rw [ht] at e
        have hst := hst st (lnth_mem ht)
        rcases runP_inv hst e with e | ⟨v, h2, e, h1, hR⟩
        · exact .inl e
        · cases hc : handT v h2 with
          | none => rw [hc] at e; exact .inl e
          | some x =>
            rw [hc] at e
            obtain ⟨v', obs, hx', nx', e, hH⟩ := handK_inv (ml := ml) v e
            obtain ⟨h', e, hg⟩ := addObs_inv e
            obtain ⟨fd, b, regs, k1, k2, k3, k4, k5⟩ := hR.plain hF h1
            exact .inr ⟨v', h', nx', e, fd, b, regs, k1, k2, k3, k4, fun θ top cs io top2 hz => k5 θ top cs h h' hx' nx nx' io top2 v' obs hz hH hg⟩
    | sub2 =>
      simp only [optK] at e
      split at e
      case h_2 => cases e
      rename_i x0 m M
      obtain ⟨v, hh, hv⟩ := runP_val e
      rw [hv] at e
      obtain ⟨v', hh', hv'⟩ := runP_val e
      rw [hv'] at e
      obtain ⟨hs, e2⟩ := boolK_inv e
      have hs := vsame_eq hs
      subst hs
      obtain ⟨hpl, e2⟩ := boolK_inv e2
      have m0 : Nat.mul 3 m = 3 * m := rfl
      by_cases hlt : ml.val < (m : Int)
      · obtain ⟨v2, h2, e3, h1, hR⟩ := runP_inv0 (hstb _ (by rw [m0]; constructor <;> intro h <;> omega)) (hv (fun v _ => some (.done v default)))
        cases e3
        obtain ⟨fd, b, regs, k1, k2, k3, k4, k5⟩ := hR.plain hF h1
        exact .inr ⟨_, h, nx, e2, fd, b, regs, k1, k2, k3, k4, fun θ top cs io top2 hz => k5 θ top cs h h _ nx nx io top2 _ [] hz (handV_plain hpl _ _) fun id ob hg => .inr ⟨by simp, hg⟩⟩
      · obtain ⟨v2, h2, e3, h1, hR⟩ := runP_inv0 (hstb _ (by rw [m0]; constructor <;> intro h <;> omega)) (hv' (fun v _ => some (.done v default)))
        cases e3
        obtain ⟨fd, b, regs, k1, k2, k3, k4, k5⟩ := hR.plain hF h1
        exact .inr ⟨_, h, nx, e2, fd, b, regs, k1, k2, k3, k4, fun θ top cs io top2 hz => k5 θ top cs h h _ nx nx io top2 _ [] hz (handV_plain hpl _ _) fun id ob hg => .inr ⟨by simp, hg⟩⟩
    | each l =>
      simp only [optK] at e
      split at e
      · rename_i id w
        cases ht : lnth tbl l with
        | none => rw [ht] at e; exact .inl e
        | some st =>
          rw [ht] at e
          have hst := hst st (lnth_mem ht)
          obtain ⟨w, hw, hwk, e2⟩ := pK_det e
          clear e
          subst hw
          replace e2 : getOb (C := Rs) id h _ = some r := e2
          obtain ⟨ob, hob, e⟩ := getOb_inv e2
          clear e2
          cases ob <;> simp only [reduceCtorEq] at e
          rename_i es clk
          obtain ⟨hb, e⟩ := boolK_inv e
          cases hn : T.get nx h with
          | some o => rw [hn] at e; cases e
          | none =>
            rw [hn] at e
            obtain ⟨e, h1⟩ := eachK_inv hst e
            rw [succK_eq] at e
            obtain ⟨fd, b, regs, k1, k2, k3, k4, k5⟩ := hEach g l hx id w es clk hwk h1 (allL_blt hb)
            exact .inr ⟨.bool true, h, nx.succ, e, fd, b, regs, k1, k2, k3, k4, fun θ top cs io top2 hz hfin hok => k5 θ top cs h nx io top2 hz hob hn hfin hok⟩
      · exact .inl e
    | indexByte => exact .inl e
    | index2 => exact .inl e
    | countStr => exact .inl e
    | cmpStr => exact .inl e
    | noEscape => exact .inl e
theorem subGk_ok (hF : FunOk P E) (hst : ∀ st ∈ tbl, StOk P N0 mla ml Post E st) (hstb : ∀ b, ((b % 3 = 0 → ml.val < (b / 3 : Nat)) ∧ (b % 3 = 1 → (b / 3 : Nat) ≤ ml.val)) → StOk P N0 mla ml Post E (stb b)) (hEach : ∀ g l, T.get g E.exts = some (.each l) → EachIs P N0 mla ml Post E g) (n : Nat) : GkOk P N0 mla ml Post E (subGk E tbl stb n) :=
  ⟨subs_ok hF hst hstb hEach n, fun g s c e nx k r h => by cases h⟩
end
end Go.Gb
end
