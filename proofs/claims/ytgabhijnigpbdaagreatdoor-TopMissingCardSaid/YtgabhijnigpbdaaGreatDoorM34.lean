/- A part of the proof of the statement Rows.TopMissingCardSaid (at every argument the law returns true on every schedule, and its argument reads as before; the listed variables as laid). This text: a stepper over symbolic states of the translated program and its soundness, part 34 of 41. -/
import Derived.Test.YtgabhijnigpbdaaGreatDoorM33
section
/-! Drawn regions: up to the next effect. -/
set_option linter.unusedSimpArgs false
set_option linter.unusedVariables false
set_option linter.unusedSectionVars false
namespace Go.Gb
open Go.Conc
section
variable {P : Program} {N0 : Nat} {mla : Addr} {ml : Gl} {θ : Th} {Post : Value → World → Prop} {E : Env}
variable {cs : List Fr} {h : Heap} {nx : Gb.P} {io : AIo} {r : Rs} {fn : Gb.P} {nt : Nat} {regs : Regs} {k : List AIt} {ds : List ATgt} {dfd : Bool} {rd : Option Gb.P} {ops : Array Oper} {l l2 : List DOp} {s : List Nd}
/-- The frame behind an operation that waited. -/
theorem DgF.next {σ σ' : Sg} {vs vs' : List Gb.P} {f : Frame} {ns : List Nd} {τ : List Nat} {k' : List Item} {m : Nd} {oo : Oper} {u : Value} (D : DgF P N0 mla ml σ nt ops ns l k regs vs f (m.i :: τ) k') (hs : Sub σ σ') (hm : m ∈ sync1 l) (hx : m.i ∉ idxD l) (ho : ops[m.i]? = some oo) (hT : TopR P N0 mla ml nt ops.toList oo m.t)
    (hv : ∀ p, m.t.dst = some p → ∀ v, T.get p regs = some v → VR ml σ' v u) (hvs : VidsI l τ regs vs') : DgF P N0 mla ml σ' nt ops ns l k regs vs' (Frame.fin' f ops τ k' oo.dst u) τ k' := by
  obtain ⟨hD, hpe⟩ := pend_next D.nsok D.dg hm rfl hx
  refine ⟨rfl, D.mode, D.nsok, hD, D.its.mono hs, D.tail, ?_, fun p v hp hnp => ?_, hvs⟩
  · rcases hT.dst with ⟨h1, _⟩ | ⟨d, h1, _⟩
    · unfold Frame.fin'; rw [h1]; exact D.size
    · unfold Frame.fin'; rw [h1]; simp only [Array.size_setIfInBounds]; exact D.size
  · rcases hT.dst with ⟨h1, h2⟩ | ⟨d, h1, h2, h3⟩
    · have : (Frame.fin' f ops τ k' oo.dst u).tmps = f.tmps := by unfold Frame.fin'; rw [h1]
      rw [this]
      exact VR.mono hs _ _ (D.vals p v hp fun ⟨a, ha, had⟩ => hnp ⟨a, (hpe a).2 ⟨ha, fun e => by rw [e, h2] at had; cases had⟩, had⟩)
    · have ht : (Frame.fin' f ops τ k' oo.dst u).tmps = f.tmps.setIfInBounds d.toNat u := by unfold Frame.fin'; rw [h1]
      rw [ht]
      by_cases hpd : p = d
      · subst hpd
        have hsz := D.size
        have : ((f.tmps.setIfInBounds p.toNat u).getD p.toNat undef) = u := by
          rw [Array.getD_eq_getD_getElem?]; simp [show p.toNat < f.tmps.size by omega]
        rw [this]; exact hv p h2 v hp
      · have hne : d.toNat ≠ p.toNat := fun e => hpd (Gb.P.toNat_inj e.symm)
        have : ((f.tmps.setIfInBounds d.toNat u).getD p.toNat undef) = f.tmps.getD p.toNat undef := by
          rw [Array.getD_eq_getD_getElem?, Array.getD_eq_getD_getElem?, Array.getElem?_setIfInBounds_ne hne]
        rw [this]
        exact VR.mono hs _ _ (D.vals p v hp fun ⟨a, ha, had⟩ => hnp ⟨a, (hpe a).2 ⟨ha, fun e => by rw [e, h2] at had; cases had; exact hpd rfl⟩, had⟩)
/-- What floats is carried out. -/
theorem step_float {own : Own} {main : Bool} {fs : List Frame} {w1 : World} {σ : Sg} {vt : Vt} {vs : List Gb.P} {f : Frame} {ns : List Nd} {τ : List Nat} {k' : List Item} {m : Nd} (D : DgF P N0 mla ml σ nt ops ns l k regs vs f (m.i :: τ) k') (H : AR N0 mla ml vt σ h nx own w1.heap.size w1) (hround : f.kind ≠ .early)
    (hm : m ∈ sync1 l) (hx : m.i ∉ idxD l) (hk1 : m.kd ≠ 1) (hok : FlOk m regs h nx) :
    ∃ f' w' es σ', stepG P main (G f fs) w1 = .go (G f' fs) w' es ∧ Does N0 own (mine own w1.heap.size w') w1 w' es ∧ Sub σ σ' ∧ AR N0 mla ml vt σ' h nx own w1.heap.size w' ∧ DgF P N0 mla ml σ' nt ops ns l k regs vs f' τ k' ∧ f'.fn = f.fn ∧ f'.defers = f.defers ∧ f'.kind = f.kind ∧ f'.roundOf = f.roundOf := by
  obtain ⟨hmn, hk2⟩ := sync1_mem D.dg.plan hm
  obtain ⟨oo, ho, hT⟩ := (D.nsok.node m hmn).at'
  have ho' : ops[m.i]? = some oo := by simpa using ho
  obtain ⟨v, hdst, hcase⟩ := hok
  obtain ⟨hD, hpe⟩ := pend_next D.nsok D.dg hm rfl hx
  have hvs : VidsI l τ regs vs := by
    refine ⟨fun n hn hk => D.vids.all n ((hpe n).1 hn).1 hk, fun id hid => ?_, fun a b id ha hb => D.vids.inj a b id ((hpe a).1 ha).1 ((hpe b).1 hb).1⟩
    obtain ⟨n, h1, h2⟩ := D.vids.only id hid
    exact ⟨n, (hpe n).2 ⟨h1, fun e => hk1 (e ▸ h2.1)⟩, h2⟩
  have gr : ∀ p b, m.t.g = some (p, b) → ∀ v, T.get p regs = some v → VR ml σ v ((⟨f.tmps, f.defers⟩ : Act).tmps.getD p.toNat undef) := fun p b hg v hp => D.vals p v hp (not_pend D.nsok D.dg.lin hmn D.dg.plan (uses_g hg))
  rcases hcase with ⟨hw, i, h1, nx1, hwh, hex⟩ | ⟨hw, rfl⟩
  · obtain ⟨i', hi', hS, hnd⟩ : ∃ i', m.t.wh = .i i' ∧ SndOp P N0 mla ml oo.op i' ∧ ∀ c, oo.op ≠ .defer c := by
      rcases hT.wh with h | ⟨x, h, _⟩
      · exact h
      · rw [hwh] at h; cases h
    rw [hwh] at hi'; cases hi'
    obtain ⟨i2, hi2, hst⟩ := (D.nsok.node m hmn).fls hk1 hk2
    rw [hwh] at hi2; cases hi2
    -- the operands alone
    have hcg : ∀ y ∈ insOpds i, ∀ p, y = Opd.r p → T.get p regs = T.get p (restr regs (insOpds i)) := by
      rintro y hy p rfl
      exact ((restr_get regs (insOpds i) p).1 hy).symm
    have hrr : RegR ml σ (restr regs (insOpds i)) ⟨f.tmps, f.defers⟩ := by
      intro p v hp
      obtain ⟨g1, g2⟩ := (restr_get regs (insOpds i) p).2 v hp
      exact D.vals p v g2 (not_pend D.nsok D.dg.lin hmn D.dg.plan (uses_i hwh g1))
    rw [exec_congr i hcg] at hex
    have hex2 := hex
    rw [still_exec i hst] at hex2
    obtain ⟨_, w2, es2, _, _, _, _, _, _, _, _, _, heq⟩ := SW.sound (P := P) (N0 := N0) (own := own) (n0 := w1.heap.size) _ #[] (hS H hrr rfl hex2)
    have heq := Option.some.inj heq
    simp only [Prod.mk.injEq] at heq
    obtain ⟨_, rfl, rfl⟩ := heq
    obtain ⟨u, w', es, q1, q2, σ', hvu, hsub, har⟩ := step_ends (P := P) (N0 := N0) (main := main) (cs := fs) (Q := fun u w' => ∃ σ', VR ml σ' v u ∧ Sub σ σ' ∧ AR N0 mla ml vt σ' h nx own w1.heap.size w') D.mode D.todo ho' (wtd_rel hT (a := ⟨f.tmps, f.defers⟩) gr hw) (.inr hnd) hround (SW.mono (hS H hrr rfl hex) (by
        rintro nxt w' ⟨v', σ', h', nx', hu, hs, ha, hk⟩
        have hk := Option.some.inj hk
        simp only [Prod.mk.injEq] at hk
        obtain ⟨rfl, rfl, rfl⟩ := hk
        rcases hu with ⟨u, rfl, hu⟩ | ⟨rfl, rfl⟩
        · exact ⟨u, .inl rfl, σ', hu, hs, ha⟩
        · exact ⟨undef, .inr ⟨rfl, rfl⟩, σ', trivial, hs, ha⟩))
    exact ⟨_, w', es, σ', q1, q2, hsub, har, D.next hsub hm hx ho' hT (fun p hp v' hv' => by rw [hdst p hp] at hv'; cases hv'; exact hvu) hvs, rfl, rfl, rfl, rfl⟩
  · exact ⟨_, w1, #[], σ, step_unwanted D.mode D.todo ho' (uwt_rel hT (a := ⟨f.tmps, f.defers⟩) gr hw), ⟨rfl, rfl, rfl, Nat.le_refl _, fun _ _ _ => rfl, fun b hb => by rcases hb with hb | hb; exact .inl hb; exact absurd hb.2 (by omega), fun _ h => .inl h, by simp, by simp⟩, Sub.refl _, H, D.next (Sub.refl _) hm hx ho' hT (fun p hp v' hv' => by rw [hdst p hp] at hv'; cases hv'; exact trivial) hvs, rfl, rfl, rfl, rfl⟩
end
end Go.Gb
end
section
/-! Drawn regions: what was made ahead is made. -/
set_option linter.unusedSimpArgs false
set_option linter.unusedVariables false
set_option linter.unusedSectionVars false
namespace Go.Gb
open Go.Conc
section
variable {P : Program} {N0 : Nat} {mla : Addr} {ml : Gl} {θ : Th} {Post : Value → World → Prop} {E : Env}
variable {cs : List Fr} {h : Heap} {nx : Gb.P} {io : AIo} {r : Rs} {fn : Gb.P} {nt : Nat} {regs : Regs} {k : List AIt} {ds : List ATgt} {dfd : Bool} {rd : Option Gb.P} {ops : Array Oper} {l l2 : List DOp} {s : List Nd}
/-- What is made is what was made ahead. -/
theorem make_sw {own : Own} {n0 : Nat} {w : World} {σ : Sg} {a : Act} {oo : Oper} {m : Nd} {i : Ins} {d : Gb.P} (hmk : MkR P oo.op i) (hwh : m.t.wh = .i i) (hd : m.t.dst = some d) (hok : MkOk m regs h) (hr : ∀ c, i = .mkchan c → ∀ p, c = .r p → ∀ v, T.get p regs = some v → VR ml σ v (a.tmps.getD p.toNat undef)) :
    ∃ id ob o u, (∃ v, T.get d regs = some v ∧ vid v = some id ∧ ∀ σ', σ' id = some ⟨w.heap.size, 0, 0⟩ → VR ml σ' v u) ∧ T.get id h = some ob ∧ (∀ p, p = (⟨w.heap.size, 0, 0⟩ : Pl) → ∀ σ', ObR ml σ' p ob o) ∧ SW P N0 own n0 (execOp a.eval oo) w fun nxt w' => nxt = .value u ∧ w' = { w with heap := w.heap.push o } := by
  obtain ⟨hg, d', hd', hcase⟩ := hok
  rw [hd] at hd'; cases hd'
  generalize hop : oo.op = op at hmk
  cases hmk with
  | @alloc el ti z zs ho hi hz hzs h1 =>
    rcases hcase with ⟨id, el', zs', hw', hreg, hob⟩ | ⟨id, c, kd, n, hw', _⟩
    · rw [hwh] at hw'; cases hw'
      refine ⟨id, _, .cells z.cells el (0, 0), .pointer (some ⟨w.heap.size, 0, none⟩), ⟨_, hreg, rfl, fun σ' hs => ⟨_, hs, by simp⟩⟩, hob, ?_, ?_⟩
      · rintro p rfl σ'
        simp only [ObR]
        refine ⟨trivial, fun i v hi => ?_, fun i hi => by omega, fun _ => ⟨trivial, trivial, trivial⟩, .inl trivial, fun z => by cases z⟩
        obtain ⟨x, hx, hxv⟩ := (hzs ml σ').get hi
        have hx' : z.cells[i]? = some x := by simpa using hx
        exact ⟨x, by simpa using hx', hxv, h1 x (by simpa using Array.mem_of_getElem? hx')⟩
      · subst ho
        unfold execOp
        simp only [hop, Instr.alloc, newVar, newRow]
        rw [SW_bind, SW_bind, SW_zeroValue hi hz]
        simp only [SW_bind, SW_newObj, SW_pure]
        first | exact ⟨trivial, rfl⟩ | exact ⟨trivial, trivial⟩
    · rw [hwh] at hw'; cases hw'
  | @chan t el c c' ti dr ho hc ht hi hb =>
    rcases hcase with ⟨id, el', zs', hw', _⟩ | ⟨id, c2, kd, n, hw', hreg, hcv, hn, hob⟩
    · rw [hwh] at hw'; cases hw'
    · rw [hwh] at hw'; cases hw'
      have hcr : RegR ml σ (match c with | .r p => T.put (T.get p regs) p .nil | .c _ => .nil) a := by
        intro p v hp
        cases c with
        | c v0 => simp only [T.get_nil] at hp; cases hp
        | r q =>
          by_cases hq : q = p
          · subst hq; simp only [T.get_put_same] at hp; exact hr _ rfl _ rfl v hp
          · simp only at hp; rw [T.get_put_ne _ _ _ _ hq, T.get_nil] at hp; cases hp
      obtain ⟨v', hv', hv2⟩ := opd_rel (k := (some : V → O V)) (r := .int kd (.ofNat n)) hcr hc (by
        cases c with
        | c v0 => exact hcv
        | r q => simp only [opdK, T.get_put_same]; simp only [opdK] at hcv; exact hcv)
      have hv2 : v' = .int kd (.ofNat n) := Option.some.inj hv2
      subst hv2
      have hi' := vr_int hv'
      refine ⟨id, _, .chan n #[] false 0 0 false, .chan (some w.heap.size), ⟨_, hreg, rfl, fun σ' hs => ⟨_, hs, rfl⟩⟩, hob, ?_, ?_⟩
      · rintro p rfl σ'
        simp [ObR, VRL]
      · subst ho
        unfold execOp
        simp only [hop, Instr.makeChan, hi', asInt, asIntOf]
        have hcond : ¬ ((Int.ofNat n) < 0 ∨ (Int.ofNat n) > IntKind.i64.max ∨ (ti.bytes : Int) * (Int.ofNat n) > 2 ^ 48 - 112) := by
          have h1 := hb n hn
          have h2 : IntKind.i64.max = 9223372036854775807 := by decide
          rw [h2]
          intro hx
          rcases hx with hx | hx | hx
          · exact absurd hx (by simp)
          · have : (n : Int) > 9223372036854775807 := hx
            omega
          · have : (ti.bytes : Int) * (n : Int) > 2 ^ 48 - 112 := hx
            omega
        simp only [SW_bind, SW_pure, SW_underlying ht, SW_typeInfo hi, if_neg hcond, SW_newObj]
        first | exact ⟨trivial, rfl⟩ | exact ⟨trivial, trivial⟩
/-- What was made ahead is made. -/
theorem step_make {own : Own} {main : Bool} {fs : List Frame} {w1 : World} {σ : Sg} {vt : Vt} {vs : List Gb.P} {rest : List Gb.P} {f : Frame} {ns : List Nd} {τ : List Nat} {k' : List Item} {m : Nd} (D : DgF P N0 mla ml σ nt ops ns l k regs vs f (m.i :: τ) k') (H : AR N0 mla ml vt σ h nx own w1.heap.size w1) (hvt : vt.ids = vs ++ rest) (hnd : vt.ids.Nodup) (hhf : vt.hf = .nil) (hround : f.kind ≠ .early)
    (hm : m ∈ sync1 l) (hx : m.i ∉ idxD l) (hk1 : m.kd = 1) (hok : MkOk m regs h) :
    ∃ f' w' es σ' vs', stepG P main (G f fs) w1 = .go (G f' fs) w' es ∧ Does N0 own (mine own w1.heap.size w') w1 w' es ∧ Sub σ σ' ∧ (vs' ++ rest).Nodup ∧ AR N0 mla ml ⟨vs' ++ rest, vt.hf⟩ σ' h nx own w1.heap.size w' ∧ DgF P N0 mla ml σ' nt ops ns l k regs vs' f' τ k' ∧ f'.fn = f.fn ∧ f'.defers = f.defers ∧ f'.kind = f.kind ∧ f'.roundOf = f.roundOf := by
  obtain ⟨hmn, hk2⟩ := sync1_mem D.dg.plan hm
  obtain ⟨oo, ho, hT⟩ := (D.nsok.node m hmn).at'
  have ho' : ops[m.i]? = some oo := by simpa using ho
  obtain ⟨hg, d, hd, hcase⟩ := id hok
  obtain ⟨i, hwh⟩ : ∃ i, m.t.wh = .i i := by
    rcases hcase with ⟨_, _, _, h, _⟩ | ⟨_, _, _, _, h, _⟩ <;> exact ⟨_, h⟩
  have hmk := (D.nsok.node m hmn).mkr hk1 oo ho i hwh
  have hnd2 : ∀ c, oo.op ≠ .defer c := by
    intro c h
    rw [h] at hmk
    cases hmk with
    | alloc ho => cases ho
    | chan ho => cases ho
  obtain ⟨id, ob, o, u, ⟨v, hv1, hv2, hv3⟩, hob, hz, hsw⟩ := make_sw (P := P) (N0 := N0) (ml := ml) (own := own) (n0 := w1.heap.size) (w := w1) (σ := σ) (a := ⟨f.tmps, f.defers⟩) hmk hwh hd hok (fun c hc p hp v hpv => D.vals p v hpv (not_pend D.nsok D.dg.lin hmn D.dg.plan (uses_i hwh (by rw [hc, hp]; simp [insOpds]))))
  have hmade : Made regs m id := ⟨hk1, d, v, hd, hv1, hv2⟩
  have pm : PendN l (m.i :: τ) m := ⟨hm, by simp, hx⟩
  obtain ⟨id0, hin0, hmade0⟩ := D.vids.all m pm hk1
  have hide : id0 = id := made_fun hmade0 hmade
  subst hide
  have hids : id0 ∈ vt.ids := by rw [hvt]; simp [hin0]
  have hndr : (vs ++ rest).Nodup := hvt ▸ hnd
  have hperm : (id0 :: (vs.erase id0 ++ rest)).Perm (vs ++ rest) := (List.perm_cons_erase hin0).symm.append_right rest
  have hnd' : (vs.erase id0 ++ rest).Nodup := (List.nodup_cons.1 (hperm.nodup_iff.2 hndr)).2
  have hni : id0 ∉ vs.erase id0 ++ rest := (List.nodup_cons.1 (hperm.nodup_iff.2 hndr)).1
  obtain ⟨σ', hsub, hpl, har⟩ := AR.place (o := o) (rest := vs.erase id0 ++ rest) H hids hob (fun j hj => ⟨by rw [hvt]; exact hperm.subset (List.mem_cons_of_mem _ hj), fun e => hni (e ▸ hj)⟩) hz (by rw [hhf]; exact T.get_nil _)
  obtain ⟨hD, hpe⟩ := pend_next D.nsok D.dg hm rfl hx
  have hvs : VidsI l τ regs (vs.erase id0) := by
    refine ⟨fun n hn hk => ?_, fun j hj => ?_, fun a b j ha hb => D.vids.inj a b j ((hpe a).1 ha).1 ((hpe b).1 hb).1⟩
    · obtain ⟨hn1, hn2⟩ := (hpe n).1 hn
      obtain ⟨j, h1, h2⟩ := D.vids.all n hn1 hk
      refine ⟨j, ?_, h2⟩
      have hne : j ≠ id0 := fun e => by
        subst e
        exact hn2 (D.nsok.uniq n (sync1_mem D.dg.plan hn1.1).1 m hmn (D.vids.inj n m j hn1 pm h2 hmade))
      exact (List.mem_erase_of_ne hne).2 h1
    · have hjv := List.mem_of_mem_erase hj
      obtain ⟨n, h1, h2⟩ := D.vids.only j hjv
      refine ⟨n, (hpe n).2 ⟨h1, fun e => ?_⟩, h2⟩
      subst e
      have := made_fun h2 hmade
      subst this
      exact hni (by simp [hj])
  have gr : ∀ p b, m.t.g = some (p, b) → ∀ v, T.get p regs = some v → VR ml σ v ((⟨f.tmps, f.defers⟩ : Act).tmps.getD p.toNat undef) := fun p b hgg => by rw [hg] at hgg; cases hgg
  have hw : Wtd m.t regs := by unfold Wtd guardK; rw [hg]
  obtain ⟨u', w', es, q1, q2, rfl, rfl⟩ := step_ends (P := P) (N0 := N0) (main := main) (cs := fs) (Q := fun u' w' => u' = u ∧ w' = { w1 with heap := w1.heap.push o }) D.mode D.todo ho' (wtd_rel hT (a := ⟨f.tmps, f.defers⟩) gr hw) (.inr hnd2) hround (SW.mono hsw (by
    rintro nxt w' ⟨rfl, rfl⟩
    exact ⟨u, .inl rfl, rfl, rfl⟩))
  exact ⟨_, _, es, σ', vs.erase id0, q1, q2, hsub, hnd', har, D.next hsub hm hx ho' hT (fun p hp v' hv' => by rw [hd] at hp; cases hp; rw [hv1] at hv'; cases hv'; exact hv3 σ' hpl) hvs, rfl, rfl, rfl, rfl⟩
end
end Go.Gb
end
section
/-! Drawn regions, whole. -/
set_option linter.unusedSimpArgs false
set_option linter.unusedVariables false
set_option linter.unusedSectionVars false
namespace Go.Gb
open Go.Conc
section
variable {P : Program} {N0 : Nat} {mla : Addr} {ml : Gl} {θ : Th} {Post : Value → World → Prop} {E : Env}
variable {cs : List Fr} {h : Heap} {nx : Gb.P} {io : AIo} {r : Rs} {fn : Gb.P} {nt : Nat} {regs : Regs} {k : List AIt} {ds : List ATgt} {dfd : Bool} {rd : Option Gb.P} {ops : Array Oper} {l l2 : List DOp} {s : List Nd}
/-- At the effect. -/
theorem at_ef {σ : Sg} {vs : List Gb.P} {f : Frame} {ns : List Nd} {τ : List Nat} {k' : List Item} {n : Nd} {l' : List DOp} {f0 : Frame} {vs0 : List Gb.P} {todo0 : List AIt} {regs0 : Regs} {md0 : Md}
    (D : DgF P N0 mla ml σ nt ops ns (.sync s :: .ef n :: l') k regs vs f (n.i :: τ) k') (H : FrR P N0 mla ml σ vs0 ⟨fn, nt, regs0, todo0, ds, md0, dfd, rd⟩ f0) (h1 : f.fn = f0.fn) (h2 : f.defers = f0.defers) (h3 : f.kind = f0.kind) (h4 : f.roundOf = f0.roundOf) :
    FrR P N0 mla ml σ vs ⟨fn, nt, regs, .dg ops (.ef n :: l') :: k, ds, .run, dfd, rd⟩ f := by
  obtain ⟨hs, hl2, hpl⟩ := D.dg.plan
  obtain ⟨hnn, hkd, hlat, hne, hpl'⟩ := id hpl
  have hnx : ∀ m ∈ s, bitM m.i n.pr = true ∨ m ∈ sync1 l' := by
    rcases hl2 with h | ⟨n', l'', he, hm⟩
    · cases h
    · cases he; exact hm
  have hnd := List.nodup_cons.1 D.dg.lin.nodup
  have hni : n.i ∉ idxD l' := (List.nodup_cons.1 D.dg.nodup).1
  have notp : ∀ m ∈ ns, bitM m.i n.pr = true → m.i ∉ n.i :: τ := fun m hm hb => D.dg.lin.head ((D.nsok.node n hnn).prec _ hb)
  have pe : ∀ a, PendN l' τ a ↔ PendN (.sync s :: .ef n :: l') (n.i :: τ) a := by
    intro a
    constructor
    · rintro ⟨q1, q2, q3⟩
      have hain := (sync1_mem hpl' q1).1
      refine ⟨?_, by simp [q2], by simp only [idxD, List.mem_cons]; exact fun x => x.elim (fun e => hnd.1 (e ▸ q2)) q3⟩
      rcases D.dg.cov a.i (by simp [q2]) with h | ⟨m, hm, he⟩
      · simp only [idxD, List.mem_cons] at h
        exact absurd h (fun x => x.elim (fun e => hnd.1 (e ▸ q2)) q3)
      · rw [← D.nsok.uniq m (sync1_mem D.dg.plan hm).1 a hain he]; exact hm
    · rintro ⟨q1, q2, q3⟩
      simp only [idxD, List.mem_cons, not_or] at q3
      have q2' : a.i ∈ τ := by
        rcases List.mem_cons.1 q2 with h | h
        · exact absurd h q3.1
        · exact h
      refine ⟨?_, q2', q3.2⟩
      rcases hnx a q1 with h | h
      · exact absurd q2 (notp a (hs a q1).1 h)
      · exact h
  refine ⟨h1.trans H.fn, D.size, fun p v hp hx => D.vals p v hp ?_, ?_, D.tail, ?_, by rw [h2]; exact H.defers, by rw [D.mode]; exact trivial, by rw [h3]; exact H.kind, by rw [h4]; exact H.round⟩
  · rw [D.todo] at hx
    rintro ⟨a, ha, had⟩
    exact hx ⟨a, (pe a).2 ha, had⟩
  · rw [D.todo]
    refine ⟨⟨rfl, ns, D.nsok, τ, rfl, D.dg.lin, hnn, hkd, hne, ⟨D.dg.lin.tail, hpl', fun j hj => D.dg.node j (by simp [hj]), fun j hj => ?_, fun j hj => ?_, (List.nodup_cons.1 D.dg.nodup).2⟩⟩, D.its⟩
    · rcases D.dg.cov j (by simp [hj]) with h | ⟨m, hm, he⟩
      · simp only [idxD, List.mem_cons] at h
        exact .inl (h.resolve_left fun e => hnd.1 (e ▸ hj))
      · rcases hnx m hm with h | h
        · exact absurd (show m.i ∈ n.i :: τ by rw [he]; simp [hj]) (notp m (hs m hm).1 h)
        · exact .inr ⟨m, h, he⟩
    · rcases List.mem_cons.1 (D.dg.sub j (by simp only [idxD, List.mem_cons]; exact .inr hj)) with h | h
      · exact absurd (h ▸ hj) hni
      · exact h
  · rw [D.todo]
    refine ⟨fun a ha hk => D.vids.all a ((pe a).1 ha) hk, fun id hid => ?_, fun a b id ha hb => D.vids.inj a b id ((pe a).1 ha) ((pe b).1 hb)⟩
    obtain ⟨a, q1, q2⟩ := D.vids.only id hid
    exact ⟨a, (pe a).2 q1, q2⟩
/-- What waits is carried out, up to the next effect, or to the end. -/
theorem okay_sync (hz : θ.hf = .nil) (hf : ∀ m ∈ s, (m.kd = 1 → MkOk m regs h) ∧ (m.kd ≠ 1 → FlOk m regs h nx))
    (hend : l2 = [] → Okay P N0 mla ml θ Post ⟨⟨fn, nt, regs, k, ds, .run, dfd, rd⟩, cs, h, nx, io⟩)
    (hef : ∀ n l', l2 = .ef n :: l' → Okay P N0 mla ml θ Post ⟨⟨fn, nt, regs, .dg ops (.ef n :: l') :: k, ds, .run, dfd, rd⟩, cs, h, nx, io⟩) :
    Okay P N0 mla ml θ Post ⟨⟨fn, nt, regs, .dg ops (.sync s :: l2) :: k, ds, .run, dfd, rd⟩, cs, h, nx, io⟩ := by
  suffices H : ∀ (N : Nat) (io' : Io M) (own : Own) (w : World) (σ : Sg) (vt : Vt) (vs : List Gb.P) (vss : List (List Gb.P)) (ids : List Gb.P) (f : Frame) (fs : List Frame) (ns : List Nd) (τ : List Nat) (k' : List Item),
      St P N0 mla ml θ ⟨⟨fn, nt, regs, .dg ops (.sync s :: l2) :: k, ds, .run, dfd, rd⟩, cs, h, nx, io⟩ io' own w σ vt vs vss ids f fs → DgF P N0 mla ml σ nt ops ns (.sync s :: l2) k regs vs f τ k' → τ.length = N → FBeh P N0 ml θ Post io' own (G f (fs ++ θ.outer)) w by
    rintro io' own g w ⟨σ, vt, vs, vss, ids, f, fs, rfl, S⟩
    obtain ⟨ns, τ, k', D⟩ := FrR.dg S.top (show NoEf (.sync s :: l2) from trivial)
    exact H _ io' own w σ vt vs vss ids f fs ns τ k' S D rfl
  intro N
  induction N with
  | zero =>
    intro io' own w σ vt vs vss ids f fs ns τ k' S D hN
    have : τ = [] := List.length_eq_zero_iff.1 hN
    subst this
    have hl2 : l2 = [] := by
      rcases D.dg.plan.2.1 with h | ⟨n, l', he, _⟩
      · exact h
      · have := D.dg.sub n.i (by rw [he]; simp [idxD])
        simp at this
    have hvs : vs = [] := by
      cases vs with
      | nil => rfl
      | cons a vs =>
        obtain ⟨n, h1, _⟩ := D.vids.only a (by simp)
        have := h1.2.1
        simp at this
    subst hvs
    refine beh_go fun w1 ag => ?_
    have S1 := S.agree ag
    have F := S1.top
    have hstep : stepG P io'.main (G f (fs ++ θ.outer)) w1 = .go (G { f with todo := k' } (fs ++ θ.outer)) w1 #[] := by
      rw [stepG_run D.mode]
      simp only [stepG.exec, D.todo]
      rfl
    refine ⟨own, _, _, w1, #[], hstep, does_refl, hend hl2 _ _ _ _ ⟨σ, vt, [], vss, ids, _, fs, rfl, S1.ar, ⟨F.fn, F.nt, fun p v hp _ => D.vals p v hp ?_, D.its, fun x hx => D.tail x (List.mem_of_mem_tail hx), vids_nil (noDg_of D.tail), F.defers, F.md, F.kind, F.round⟩, S1.cs, S1.io, S1.vids, S1.nodup, S1.hf, S1.kept, S1.lt⟩⟩
    rintro ⟨a, ha, _⟩
    have := ha.2.1
    simp at this
  | succ N ih =>
    intro io' own w σ vt vs vss ids f fs ns τ k' S D hN
    cases τ with
    | nil => cases hN
    | cons j τ =>
      by_cases hj : j ∈ idxD l2
      · rcases D.dg.plan.2.1 with h | ⟨n, l', he, _⟩
        · rw [h] at hj; simp [idxD] at hj
        · subst he
          have hjn : j = n.i := by
            simp only [idxD, List.mem_cons] at hj
            rcases hj with h | h
            · exact h
            · exfalso
              obtain ⟨m, hm, he⟩ := D.dg.node j (by simp)
              obtain ⟨hnn, _, hlat, _⟩ := D.dg.plan.2.2
              have hb := hlat m hm (by rw [he]; exact h)
              have hp := (D.nsok.node m hm).prec _ hb
              rw [he] at hp
              exact D.dg.lin.head hp (D.dg.sub n.i (by simp [idxD]))
          subst hjn
          exact hef n l' rfl _ _ _ _ ⟨σ, vt, vs, vss, ids, f, fs, rfl, ⟨S.ar, at_ef D S.top rfl rfl rfl rfl, S.cs, S.io, S.vids, S.nodup, S.hf, S.kept, S.lt⟩⟩
      · obtain ⟨m, hm, hmj⟩ : ∃ m ∈ sync1 (.sync s :: l2), m.i = j := by
          rcases D.dg.cov j (by simp) with h | h
          · exact absurd h hj
          · exact h
        subst hmj
        refine beh_go fun w1 ag => ?_
        have S1 := S.agree ag
        have F := S1.top
        have hk := dfd_kind F.kind
        by_cases hk1 : m.kd = 1
        · obtain ⟨f', w', es, σ', vs', q1, q2, q3, q4, q5, q6, e1, e2, e3, e4⟩ := step_make (main := io'.main) (fs := fs ++ θ.outer) D S1.ar S1.vids S1.nodup (S1.hf.trans hz) hk hm hj hk1 ((hf m hm).1 hk1)
          exact ⟨_, f', fs ++ θ.outer, w', es, q1, q2, ih io' _ w' σ' ⟨vs' ++ (vss.flatten ++ (ids ++ θ.ov)), vt.hf⟩ vs' vss ids f' fs ns τ k' ⟨q5.shift, q6.frR trivial (F.mono q3) e1 e2 e3 e4, S1.cs.mono q3, S1.io.mono q3, rfl, q4, S1.hf, S1.kept.does S1.ar.n0le.1 S1.ar.apart q2, mine_lt S1.lt q2.size⟩ q6 (by simpa using hN)⟩
        · obtain ⟨f', w', es, σ', q1, q2, q3, q5, q6, e1, e2, e3, e4⟩ := step_float (main := io'.main) (fs := fs ++ θ.outer) D S1.ar hk hm hj hk1 ((hf m hm).2 hk1)
          exact ⟨_, f', fs ++ θ.outer, w', es, q1, q2, ih io' _ w' σ' vt vs vss ids f' fs ns τ k' ⟨q5.shift, q6.frR trivial (F.mono q3) e1 e2 e3 e4, S1.cs.mono q3, S1.io.mono q3, S1.vids, S1.nodup, S1.hf, S1.kept.does S1.ar.n0le.1 S1.ar.apart q2, mine_lt S1.lt q2.size⟩ q6 (by simpa using hN)⟩
end
end Go.Gb
end
section
/-! Drawn regions: effects; whole regions. -/
set_option linter.unusedSimpArgs false
set_option linter.unusedVariables false
set_option linter.unusedSectionVars false
namespace Go.Gb
open Go.Conc
section
variable {P : Program} {N0 : Nat} {mla : Addr} {ml : Gl} {θ : Th} {Post : Value → World → Prop} {E : Env}
variable {cs : List Fr} {h : Heap} {nx : Gb.P} {io : AIo} {r : Rs} {fn : Gb.P} {nt : Nat} {regs : Regs} {k : List AIt} {ds : List ATgt} {dfd : Bool} {rd : Option Gb.P} {ops : Array Oper} {l l2 : List DOp} {s : List Nd} {n : Nd}
/-- The frame at an effect. -/
theorem FrR.ef {σ : Sg} {vs : List Gb.P} {f : Frame} (H : FrR P N0 mla ml σ vs ⟨fn, nt, regs, .dg ops (.ef n :: l) :: k, ds, .run, dfd, rd⟩ f) : ∃ τ k' oo, f.todo = .inRegion ops (n.i :: τ) :: k' ∧ f.mode = .run ∧ ops[n.i]? = some oo ∧ TopR P N0 mla ml nt ops.toList oo n.t ∧
    (∀ p, usesB n.t p = true → ∀ v, T.get p regs = some v → VR ml σ v (f.tmps.getD p.toNat undef)) := by
  have hits := H.todo
  cases hf : f.todo with
  | nil => rw [hf] at hits; exact hits.elim
  | cons b k' =>
    rw [hf] at hits
    obtain ⟨hb, hits⟩ := hits
    cases b <;> try exact hb.elim
    rename_i ops' τ
    obtain ⟨rfl, ns, hns, τ', rfl, hlin, hnn, hkd, hne, hD⟩ := hb
    obtain ⟨oo, ho, hT⟩ := (hns.node n hnn).at'
    have hr := H.regs
    rw [hf] at hr
    have hm := H.md
    have hmr : f.mode = .run := by cases hmm : f.mode <;> rw [hmm] at hm <;> first | rfl | exact hm.elim
    refine ⟨τ', k', oo, rfl, hmr, by simpa using ho, hT, fun p hu v hp => hr p v hp ?_⟩
    rintro ⟨a, ha, hd⟩
    obtain ⟨h1, h2⟩ := sync1_mem hD.plan ha.1
    have hsep := hns.sep a h1 h2 p hd n hnn
    have hi : n.i ≠ a.i := fun e => (List.nodup_cons.1 hlin.nodup).1 (e ▸ ha.2.1)
    exact hlin.head ((hns.node n hnn).prec _ ((hsep.2 hi).2 hu)) (by simp [ha.2.1])
theorem finK_ef {v : V} {kk : Fr → OR} {regs' : Regs} (e : (putD n.t.dst v regs fun regs' => some regs') = some regs') : finK v ⟨fn, nt, regs, .dg ops (.ef n :: l) :: k, ds, .run, dfd, rd⟩ kk = kk ⟨fn, nt, regs', .dg ops l :: k, ds, .run, dfd, rd⟩ := by
  unfold finK
  simp only
  cases hd : n.t.dst with
  | none => rw [hd] at e; cases e; rfl
  | some d =>
    rw [hd] at e
    replace e : T.putK (some v) d regs some = some regs' := e
    rw [T.putK_eq] at e
    cases e
    simp only [T.putK_eq]
theorem putD_some {d : Option Gb.P} {v : V} {kk : Regs → OR} (e : putD d v regs kk = some r) : ∃ regs', (putD d v regs fun regs' => some regs') = some regs' ∧ kk regs' = some r := by
  cases d with
  | none => exact ⟨regs, rfl, e⟩
  | some d =>
    replace e : T.putK (some v) d regs kk = some r := e
    rw [T.putK_eq] at e
    exact ⟨_, by show T.putK (some v) d regs some = _; rw [T.putK_eq], e⟩
/-- An effect that ends at once. -/
theorem okay_ef (hw : Wtd n.t regs) {i : Ins} (hwh : n.t.wh = .i i) {kk : Regs → Heap → Gb.P → OR} (e : (exec i regs h nx fun v h nx => putD n.t.dst v regs fun regs => kk regs h nx) = some r)
    (hc : ∀ regs' h' nx', kk regs' h' nx' = some r → Okay P N0 mla ml θ Post ⟨⟨fn, nt, regs', .dg ops l :: k, ds, .run, dfd, rd⟩, cs, h', nx', io⟩) : Okay P N0 mla ml θ Post ⟨⟨fn, nt, regs, .dg ops (.ef n :: l) :: k, ds, .run, dfd, rd⟩, cs, h, nx, io⟩ := by
  rintro io' own g w ⟨σ, vt, vs, vss, ids, f, fs, rfl, S⟩
  refine beh_go fun w1 a => ?_
  have S1 := S.agree a
  obtain ⟨τ, k', oo, hf, hm, ho, hT, hu⟩ := FrR.ef S1.top
  obtain ⟨i', hi', hS, hnd⟩ : ∃ i', n.t.wh = .i i' ∧ SndOp P N0 mla ml oo.op i' ∧ ∀ c, oo.op ≠ .defer c := by
    rcases hT.wh with h | ⟨x, h, _⟩
    · exact h
    · rw [hwh] at h; cases h
  rw [hwh] at hi'
  cases hi'
  have hcg : ∀ y ∈ insOpds i, ∀ p, y = Opd.r p → T.get p regs = T.get p (restr regs (insOpds i)) := by
    rintro y hy p rfl
    exact ((restr_get regs (insOpds i) p).1 hy).symm
  have hrr : RegR ml σ (restr regs (insOpds i)) ⟨f.tmps, f.defers⟩ := by
    intro p v hp
    obtain ⟨g1, g2⟩ := (restr_get regs (insOpds i) p).2 v hp
    exact hu p (uses_i hwh g1) v g2
  rw [exec_congr i hcg] at e
  have hsw := hS S1.ar hrr rfl e
  obtain ⟨u, w', es, h1, h2, v, σ', h', nx', hvu, hsub, har, e2⟩ := step_ends (P := P) (N0 := N0) (main := io'.main) (cs := fs ++ θ.outer) (Q := fun u w' => ∃ v σ' h' nx', VR ml σ' v u ∧ Sub σ σ' ∧ AR N0 mla ml vt σ' h' nx' own w1.heap.size w' ∧ putD n.t.dst v regs (fun regs => kk regs h' nx') = some r) hm hf ho
    (wtd_rel hT (a := ⟨f.tmps, f.defers⟩) (fun p b hg v hv => hu p (uses_g hg) v hv) hw) (.inr hnd) (dfd_kind S1.top.kind) (SW.mono hsw (by
      rintro nxt w' ⟨v, σ', h', nx', hu, hs, ha, hk⟩
      rcases hu with ⟨u, rfl, hu⟩ | ⟨rfl, rfl⟩
      · exact ⟨u, .inl rfl, v, σ', h', nx', hu, hs, ha, hk⟩
      · exact ⟨undef, .inr ⟨rfl, rfl⟩, .tup [], σ', h', nx', trivial, hs, ha, hk⟩))
  obtain ⟨regs', q1, q2⟩ := putD_some e2
  obtain ⟨fr', e3, hF, _⟩ := fin_rel (S1.top.mono hsub) hvu (k := fun fr => some (.go ⟨fr, [], .nil, .z, .solo⟩)) (finK_ef q1)
  cases e3
  rw [finish_region hf ho] at hF
  exact ⟨_, _, _, w', es, h1, h2, hc regs' h' nx' q2 _ _ _ _ ⟨σ', vt, vs, vss, ids, _, fs, rfl, har.shift, hF, S1.cs.mono hsub, S1.io.mono hsub, S1.vids, S1.nodup, S1.hf, S1.kept.does S1.ar.n0le.1 S1.ar.apart h2, mine_lt S1.lt h2.size⟩⟩
theorem okay_ef_no (hw : Uwt n.t regs) {kk : Regs → OR} (e : putD n.t.dst (.tup []) regs kk = some r)
    (hc : ∀ regs', kk regs' = some r → Okay P N0 mla ml θ Post ⟨⟨fn, nt, regs', .dg ops l :: k, ds, .run, dfd, rd⟩, cs, h, nx, io⟩) : Okay P N0 mla ml θ Post ⟨⟨fn, nt, regs, .dg ops (.ef n :: l) :: k, ds, .run, dfd, rd⟩, cs, h, nx, io⟩ := by
  rintro io' own g w ⟨σ, vt, vs, vss, ids, f, fs, rfl, S⟩
  refine beh_go fun w1 a => ?_
  have S1 := S.agree a
  obtain ⟨τ, k', oo, hf, hm, ho, hT, hu⟩ := FrR.ef S1.top
  obtain ⟨regs', q1, q2⟩ := putD_some e
  obtain ⟨fr', e3, hF, _⟩ := fin_rel S1.top (v := .tup []) (u := undef) trivial (k := fun fr => some (.go ⟨fr, [], .nil, .z, .solo⟩)) (finK_ef q1)
  cases e3
  rw [finish_region hf ho] at hF
  exact ⟨own, _, _, w1, #[], step_unwanted hm hf ho (uwt_rel hT (a := ⟨f.tmps, f.defers⟩) (fun p b hg v hv => hu p (uses_g hg) v hv) hw), does_refl, hc regs' q2 _ _ _ _ ⟨σ, vt, vs, vss, ids, _, fs, rfl, S1.ar, hF, S1.cs, S1.io, S1.vids, S1.nodup, S1.hf, S1.kept, S1.lt⟩⟩
theorem okay_dg_end (hc : Okay P N0 mla ml θ Post ⟨⟨fn, nt, regs, k, ds, .run, dfd, rd⟩, cs, h, nx, io⟩) : Okay P N0 mla ml θ Post ⟨⟨fn, nt, regs, .dg ops [] :: k, ds, .run, dfd, rd⟩, cs, h, nx, io⟩ := by
  rintro io' own g w ⟨σ, vt, vs, vss, ids, f, fs, rfl, S⟩
  refine beh_go fun w1 ag => ?_
  have S1 := S.agree ag
  have F := S1.top
  obtain ⟨ns, τ, k', D⟩ := FrR.dg F (show NoEf [] from trivial)
  have hτ : τ = [] := by
    cases τ with
    | nil => rfl
    | cons j τ => rcases D.dg.cov j (by simp) with h | ⟨m, hm, _⟩ <;> simp [idxD, sync1] at *
  subst hτ
  have hvs : vs = [] := by
    cases vs with
    | nil => rfl
    | cons a vs =>
      obtain ⟨n, h1, _⟩ := D.vids.only a (by simp)
      have := h1.2.1
      simp at this
  subst hvs
  have hstep : stepG P io'.main (G f (fs ++ θ.outer)) w1 = .go (G { f with todo := k' } (fs ++ θ.outer)) w1 #[] := by
    rw [stepG_run D.mode]
    simp only [stepG.exec, D.todo]
    rfl
  refine ⟨own, _, _, w1, #[], hstep, does_refl, hc _ _ _ _ ⟨σ, vt, [], vss, ids, _, fs, rfl, S1.ar, ⟨F.fn, F.nt, fun p v hp _ => D.vals p v hp ?_, D.its, fun x hx => D.tail x (List.mem_of_mem_tail hx), vids_nil (noDg_of D.tail), F.defers, F.md, F.kind, F.round⟩, S1.cs, S1.io, S1.vids, S1.nodup, S1.hf, S1.kept, S1.lt⟩⟩
  rintro ⟨a, ha, _⟩
  have := ha.2.1
  simp at this
/-- A whole drawn region. -/
theorem okay_dg (hz : θ.hf = .nil) {kend : Regs → Heap → Gb.P → OR} {kfx : Fx → List DOp → Regs → Heap → Gb.P → OR}
    (hend : ∀ regs h nx, kend regs h nx = some r → Okay P N0 mla ml θ Post ⟨⟨fn, nt, regs, k, ds, .run, dfd, rd⟩, cs, h, nx, io⟩)
    (hfx : ∀ x n l regs h nx, n.t.wh = .f x → Wtd n.t regs → kfx x (.ef n :: l) regs h nx = some r → Okay P N0 mla ml θ Post ⟨⟨fn, nt, regs, .dg ops (.ef n :: l) :: k, ds, .run, dfd, rd⟩, cs, h, nx, io⟩) :
    ∀ l regs h nx, dopsK l regs h nx kend kfx = some r → Okay P N0 mla ml θ Post ⟨⟨fn, nt, regs, .dg ops l :: k, ds, .run, dfd, rd⟩, cs, h, nx, io⟩ := by
  intro l
  induction l with
  | nil => exact fun regs h nx e => okay_dg_end (hend regs h nx e)
  | cons x l ih =>
    intro regs h nx e
    cases x with
    | fl n =>
      replace e : evF n.t regs h nx (fun v => putD n.t.dst v regs fun regs => dopsK l regs h nx kend kfx) = some r := e
      obtain ⟨v, e, _⟩ := evF_inv e
      exact okay_fl (fun ns hp => noEf_of hp.2.2.2.1) e fun regs' e => ih regs' h nx e
    | mk n =>
      replace e : (match n.t.g, n.t.wh, n.t.dst with
        | none, .i i, some d => exec i regs h nx fun v h nx => putD (some d) v regs fun regs => dopsK l regs h nx kend kfx
        | _, _, _ => none) = some r := e
      split at e
      · rename_i i d hg hw hd
        exact okay_mk hw hd e fun regs' h' nx' e => ih regs' h' nx' e
      · cases e
    | ef n =>
      replace e : guardK n.t.g regs (match n.t.wh with
        | .f x => kfx x (.ef n :: l) regs h nx
        | .i i => exec i regs h nx fun v h nx => putD n.t.dst v regs fun regs => dopsK l regs h nx kend kfx)
        (putD n.t.dst (.tup []) regs fun regs => dopsK l regs h nx kend kfx) = some r := e
      rcases guardK_split e with ⟨hw, e⟩ | ⟨hw, e⟩
      · cases hwh : n.t.wh with
        | f x => rw [hwh] at e; exact hfx x n l regs h nx hwh hw e
        | i i => rw [hwh] at e; exact okay_ef hw hwh e fun regs' h' nx' e => ih regs' h' nx' e
      · exact okay_ef_no hw e fun regs' e => ih regs' h nx e
    | sync s =>
      replace e : syncK s regs h nx (dopsK l regs h nx kend kfx) = some r := e
      obtain ⟨e, hs⟩ := syncK_inv e
      refine okay_sync hz hs (fun hl => ?_) fun n l' hl => ?_
      · subst hl; exact hend regs h nx e
      · rw [← hl]; exact ih regs h nx e
end
end Go.Gb
end
