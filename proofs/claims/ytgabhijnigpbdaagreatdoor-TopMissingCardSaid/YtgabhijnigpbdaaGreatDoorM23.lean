/- A part of the proof of the statement Rows.TopMissingCardSaid (at every argument the law returns true on every schedule, and its argument reads as before; the listed variables as laid). This text: a stepper over symbolic states of the translated program and its soundness, part 23 of 41. -/
import Derived.Test.YtgabhijnigpbdaaGreatDoorM22
section
/-! Regions in the text's order. -/
set_option linter.unusedSimpArgs false
set_option linter.unusedVariables false
set_option linter.unusedSectionVars false
namespace Go.Gb
open Go.Conc
section
variable {P : Program} {N0 : Nat} {mla : Addr} {ml : Gl} {θ : Th} {Post : Value → World → Prop}
/-- The frame behind an operation that has yielded u. -/
def Frame.fin' (f : Frame) (ops : Array Oper) (τ : List Nat) (k' : List Item) (d : Option Nat) (u : Value) : Frame :=
  { f with tmps := (match d with | some d => f.tmps.setIfInBounds d u | none => f.tmps), todo := .inRegion ops τ :: k' }
theorem finish_region {f : Frame} {ops : Array Oper} {i : Nat} {τ : List Nat} {k' : List Item} {o : Oper} (ht : f.todo = .inRegion ops (i :: τ) :: k') (ho : ops[i]? = some o) (u : Value) : f.finish u = Frame.fin' f ops τ k' o.dst u := by
  unfold Frame.finish
  rw [ht]
  simp only [ho, Option.bind_some]
  rfl
theorem step_oper {main : Bool} {f : Frame} {cs : List Frame} {w : World} {ops : Array Oper} {i : Nat} {τ : List Nat} {k' : List Item} {o : Oper} (hm : f.mode = .run) (ht : f.todo = .inRegion ops (i :: τ) :: k') (ho : ops[i]? = some o)
    (hw : Region.wanted o (yielded ops f.tmps) = true) (hnd : f.roundOf = none ∨ ∀ c, o.op ≠ .defer c) : stepG P main (G f cs) w = stepG.apply P true f cs none (execOp (Act.eval ⟨f.tmps, f.defers⟩) o) w := by
  have he : f.eval = Act.eval ⟨f.tmps, f.defers⟩ := funext (feval f)
  rw [stepG_run hm]
  simp only [stepG.exec, ht, ho, Option.map_some, hw, Option.getD_some, if_true]
  unfold stepG.oper
  have hop : f.oper? = some o := by unfold Frame.oper?; rw [ht]; exact ho
  rw [hop, ← he]
  cases hr : f.roundOf with
  | none => rfl
  | some l =>
    rcases hnd with h | h
    · rw [hr] at h; cases h
    · simp only
      cases hop2 : o.op <;> first | rfl | exact absurd hop2 (h _)
theorem step_unwanted {main : Bool} {f : Frame} {cs : List Frame} {w : World} {ops : Array Oper} {i : Nat} {τ : List Nat} {k' : List Item} {o : Oper} (hm : f.mode = .run) (ht : f.todo = .inRegion ops (i :: τ) :: k') (ho : ops[i]? = some o)
    (hw : Region.wanted o (yielded ops f.tmps) = false) : stepG P main (G f cs) w = .go (G (Frame.fin' f ops τ k' o.dst undef) cs) w #[] := by
  rw [stepG_run hm, ← finish_region ht ho]
  simp only [stepG.exec, ht, ho, Option.map_some, hw, Option.getD_some, Bool.false_eq_true, if_false]
  rfl
/-- An operation that ends at once. -/
theorem step_ends {own : Own} {main : Bool} {f : Frame} {cs : List Frame} {w : World} {ops : Array Oper} {i : Nat} {τ : List Nat} {k' : List Item} {o : Oper} (hm : f.mode = .run) (ht : f.todo = .inRegion ops (i :: τ) :: k') (ho : ops[i]? = some o)
    (hw : Region.wanted o (yielded ops f.tmps) = true) (hnd : f.roundOf = none ∨ ∀ c, o.op ≠ .defer c) (hk : f.kind ≠ .early) {Q : Value → World → Prop}
    (hs : SW P N0 own w.heap.size (execOp (Act.eval ⟨f.tmps, f.defers⟩) o) w fun nx w' => ∃ u, (nx = .value u ∨ (nx = .skip ∧ u = undef)) ∧ Q u w') :
    ∃ u w' es, stepG P main (G f cs) w = .go (G (Frame.fin' f ops τ k' o.dst u) cs) w' es ∧ Does N0 own (mine own w.heap.size w') w w' es ∧ Q u w' := by
  obtain ⟨nx, w', es, h1, h2, u, h3, hq⟩ := SW.sound _ #[] hs
  have hk' : (f.kind == CallKind.early) = false := by simpa using hk
  refine ⟨u, w', seen P f.fn (#[] ++ es), ?_, (by rw [Array.empty_append]; exact h2.does), hq⟩
  rw [step_oper hm ht ho hw hnd, ← finish_region ht ho]
  unfold stepG.apply
  simp only [if_true, h1, hk', Bool.false_eq_true, if_false]
  rcases h3 with rfl | ⟨rfl, rfl⟩ <;> simp [GStep.after, G]
theorem guard_rel {C : Type} {σ : Sg} {nt : Nat} {ops : Array Oper} {o : Oper} {t : TOp} (ht : TopR P N0 mla ml nt ops.toList o t) {regs : Regs} {a : Act} (hr : ∀ p b, t.g = some (p, b) → ∀ v, T.get p regs = some v → VR ml σ v (a.tmps.getD p.toNat undef)) {yes no : O C} {r : C} (e : guardK t.g regs yes no = some r) :
    (Region.wanted o (yielded ops a.tmps) = true ∧ yes = some r) ∨ (Region.wanted o (yielded ops a.tmps) = false ∧ no = some r) := by
  rcases ht.g with ⟨h1, h2⟩ | ⟨j, b, oj, p, h1, h2, h3, h4⟩
  · rw [h2] at e
    exact .inl ⟨by simp [Region.wanted, h1], e⟩
  · rw [h4] at e
    obtain ⟨v, hv, e⟩ := optK_inv e
    have hvr := hr p b h4 v hv
    have hoj : ops[j]? = some oj := by simpa using h2
    have hw : Region.wanted o (yielded ops a.tmps) = (yielded ops a.tmps j == some b) := by simp [Region.wanted, h1]
    have hy : yielded ops a.tmps j = (match a.tmps[p.toNat]? with | some (.bool b) => some b | _ => none) := by
      unfold yielded
      rw [hoj]
      simp only [Option.bind_some, h3]
      cases a.tmps[p.toNat]? with
      | none => rfl
      | some v => cases v <;> rfl
    rw [hw, hy]
    cases v <;> (try simp only [reduceCtorEq] at e)
    · rename_i x
      have hb := vr_bool hvr
      have hg : a.tmps[p.toNat]? = some (.bool x) := by
        cases hg : a.tmps[p.toNat]? with
        | none => rw [Array.getD_eq_getD_getElem?, hg] at hb; simp [undef] at hb
        | some u => rw [Array.getD_eq_getD_getElem?, hg] at hb; simp at hb; rw [hb]
      rw [hg]
      cases x <;> cases b
      · exact .inl ⟨rfl, e⟩
      · exact .inr ⟨rfl, e⟩
      · exact .inr ⟨rfl, e⟩
      · exact .inl ⟨rfl, e⟩
    · rename_i vs
      cases vs <;> (try simp only [reduceCtorEq] at e)
      refine .inr ⟨?_, e⟩
      have : ∀ x, a.tmps[p.toNat]? ≠ some (.bool x) := by
        intro x hx
        rw [Array.getD_eq_getD_getElem?, hx] at hvr
        simp [VR] at hvr
      cases hg : a.tmps[p.toNat]? with
      | none => rfl
      | some u => cases u <;> first | rfl | exact absurd hg (this _)
/-- A temporary is laid, in both. -/
theorem regs_put {σ : Sg} {nt : Nat} {ops : List Oper} {o : Oper} {t : TOp} (ht : TopR P N0 mla ml nt ops o t) {regs : Regs} {tmps : Array Value} (hnt : tmps.size = nt) {X : Gb.P → Prop} (hr : ∀ p v, T.get p regs = some v → ¬ X p → VR ml σ v (tmps.getD p.toNat undef)) {v : V} {u : Value} (hv : VR ml σ v u) {C : Type} {k : Regs → O C} {r : C} (e : putD t.dst v regs k = some r) :
    ∃ regs', k regs' = some r ∧ (match o.dst with | some d => tmps.setIfInBounds d u | none => tmps).size = nt ∧ (∀ p v', T.get p regs' = some v' → ¬ X p → VR ml σ v' ((match o.dst with | some d => tmps.setIfInBounds d u | none => tmps).getD p.toNat undef)) ∧
      (∀ p, t.dst ≠ some p → T.get p regs' = T.get p regs) := by
  rcases ht.dst with ⟨h1, h2⟩ | ⟨d, h1, h2, h3⟩
  · rw [h2] at e
    rw [h1]
    exact ⟨regs, e, hnt, hr, fun p h => rfl⟩
  · rw [h2] at e
    replace e : T.putK (some v) d regs k = some r := e
    rw [T.putK_eq] at e
    rw [h1]
    refine ⟨_, e, by simpa using hnt, fun p v' hp hx => ?_, fun p hp => ?_⟩
    · by_cases hpd : p = d
      · subst hpd
        rw [T.get_put_same] at hp
        cases hp
        have : ((tmps.setIfInBounds p.toNat u).getD p.toNat undef) = u := by
          rw [Array.getD_eq_getD_getElem?]; simp [show p.toNat < tmps.size by omega]
        rw [this]; exact hv
      · rw [T.get_put_ne _ _ _ _ (Ne.symm hpd)] at hp
        have hne : d.toNat ≠ p.toNat := fun e => hpd (Gb.P.toNat_inj e.symm)
        have : ((tmps.setIfInBounds d.toNat u).getD p.toNat undef) = tmps.getD p.toNat undef := by
          rw [Array.getD_eq_getD_getElem?, Array.getD_eq_getD_getElem?, Array.getElem?_setIfInBounds_ne hne]
        rw [this]; exact hr p v' hp hx
    · have hpd : d ≠ p := fun e => hp (by rw [h2, e])
      exact T.get_put_ne _ _ _ _ hpd
end
end Go.Gb
end
section
/-! A value is laid at its place; the text's order, operation by operation. -/
set_option linter.unusedSimpArgs false
set_option linter.unusedVariables false
set_option linter.unusedSectionVars false
namespace Go.Gb
open Go.Conc
section
variable {P : Program} {N0 : Nat} {mla : Addr} {ml : Gl} {θ : Th} {Post : Value → World → Prop}
theorem pnd_rest {ops : Array Oper} {l : List DOp} {k : List AIt} {τ : List Nat} {k' : List Item} (hn : NoEf l) : Pnd (.dg ops l :: k) (.inRegion ops τ :: k') = Pend l τ := by
  funext p
  unfold Pnd PndI
  cases l with
  | nil => rfl
  | cons a l => cases a <;> first | rfl | exact hn.elim
theorem vids_rest {ops : Array Oper} {l : List DOp} {k : List AIt} {τ : List Nat} {k' : List Item} {regs : Regs} {vs : List Gb.P} (hn : NoEf l) : Vids (.dg ops l :: k) (.inRegion ops τ :: k') regs vs = VidsI l τ regs vs := by
  cases l with
  | nil => rfl
  | cons a l => cases a <;> first | rfl | exact hn.elim
theorem dgI_rest {ns : List Nd} {ops : List Oper} {l : List DOp} {τ : List Nat} (hn : NoEf l) : DgI ns ops l τ = DgR ns ops l τ := by
  cases l with
  | nil => rfl
  | cons a l => cases a <;> first | rfl | exact hn.elim
theorem sync1_mem {ns : List Nd} {l : List DOp} {n : Nd} (h : PlanS ns l) (hj : n ∈ sync1 l) : n ∈ ns ∧ n.kd ≠ 2 := by
  induction l with
  | nil => simp [sync1] at hj
  | cons a l ih =>
    cases a with
    | fl => exact ih h.2.2.2.2 hj
    | mk => exact ih h.2.2.2 hj
    | ef => simp [sync1] at hj
    | sync s => exact h.1 n hj
theorem pbeq_self (p : Gb.P) : pbeq p p = true := by induction p with | z => rfl | o p ih => exact ih | e p ih => exact ih
theorem setsB_self {t : TOp} {d : Gb.P} (h : t.dst = some d) : setsB t d = true := by unfold setsB; rw [h]; exact pbeq_self d
/-- What is made keeps its number, whatever is laid elsewhere. -/
theorem VidsI.regs {l : List DOp} {τ : List Nat} {regs regs' : Regs} {vs : List Gb.P} (h : VidsI l τ regs vs) (hs : ∀ n p, PendN l τ n → n.t.dst = some p → T.get p regs' = T.get p regs) : VidsI l τ regs' vs := by
  have e : ∀ n id, PendN l τ n → (Made regs' n id ↔ Made regs n id) := by
    intro n id hn
    unfold Made
    constructor
    · rintro ⟨h1, p, v, h2, h3, h4⟩; exact ⟨h1, p, v, h2, by rw [← hs n p hn h2]; exact h3, h4⟩
    · rintro ⟨h1, p, v, h2, h3, h4⟩; exact ⟨h1, p, v, h2, by rw [hs n p hn h2]; exact h3, h4⟩
  refine ⟨fun n hn hk => ?_, fun id hid => ?_, fun n m id hn hm h1 h2 => h.inj n m id hn hm ((e n id hn).1 h1) ((e m id hm).1 h2)⟩
  · obtain ⟨id, h1, h2⟩ := h.all n hn hk
    exact ⟨id, h1, (e n id hn).2 h2⟩
  · obtain ⟨n, h1, h2⟩ := h.only id hid
    exact ⟨n, h1, (e n id h1).2 h2⟩
/-- A value is laid at its place, in both. -/
theorem fin_rel {σ : Sg} {vs : List Gb.P} {fr : Fr} {f : Frame} (H : FrR P N0 mla ml σ vs fr f) {v : V} {u : Value} (hv : VR ml σ v u) {k : Fr → OR} {r : Rs} (e : finK v fr k = some r) : ∃ fr', k fr' = some r ∧ FrR P N0 mla ml σ vs fr' (f.finish u) ∧ fr'.md = fr.md ∧ fr'.dfd = fr.dfd ∧ fr'.round = fr.round := by
  obtain ⟨fn, nt, regs, todo, ds, md, dfd, rd⟩ := fr
  have hits := H.todo
  have htail := H.tail
  unfold finK at e
  simp only at e
  split at e
  · -- a region in the text's order
    rename_i ops o l it
    cases hf : f.todo with
    | nil => rw [hf] at hits; exact hits.elim
    | cons b k' =>
      rw [hf] at hits
      obtain ⟨hb, hits⟩ := hits
      cases b <;> try exact hb.elim
      rename_i ops' τ
      obtain ⟨rfl, hτ⟩ := hb
      match τ, hτ with
      | i :: τ, ⟨⟨oo, ho, hT⟩, hτ⟩ =>
        have ho' : ops'[i]? = some oo := by simpa using ho
        obtain ⟨regs', e2, h1, h2, _⟩ := regs_put (X := fun _ => False) hT H.nt (fun p v hv _ => H.regs p v hv (by rw [pnd_no (show NoDg (.rg ops' (o :: l) :: it) from trivial)]; exact fun x => x)) hv (k := fun regs => k ⟨fn, nt, regs, .rg ops' l :: it, ds, md, dfd, rd⟩) (by unfold putD; exact e)
        rw [finish_region hf ho']
        refine ⟨_, e2, ⟨H.fn, h1, fun p v hv _ => h2 p v hv (fun x => x), ⟨⟨rfl, hτ⟩, hits⟩, htail, ?_, H.defers, H.md, H.kind, H.round⟩, rfl, rfl, rfl⟩
        exact vids_no (show NoDg (.rg ops' (o :: l) :: it) from trivial) H.vids
  · -- a region whose order is drawn
    rename_i ops n l it
    cases hf : f.todo with
    | nil => rw [hf] at hits; exact hits.elim
    | cons b k' =>
      rw [hf] at hits
      obtain ⟨hb, hits⟩ := hits
      cases b <;> try exact hb.elim
      rename_i ops' τ
      obtain ⟨rfl, ns, hns, hτ⟩ := hb
      obtain ⟨τ', rfl, hlin, hnn, hkd, hne, hD⟩ := hτ
      obtain ⟨oo, ho, hT⟩ := (hns.node n hnn).at'
      have ho' : ops'[n.i]? = some oo := by simpa using ho
      have hvids := H.vids
      have hregs := H.regs
      rw [hf] at hvids hregs
      obtain ⟨regs', e2, h1, h2, h3⟩ := regs_put (X := Pend l τ') hT H.nt (fun p v hv hx => hregs p v hv hx) hv (k := fun regs => k ⟨fn, nt, regs, .dg ops' l :: it, ds, md, dfd, rd⟩) (by unfold putD; exact e)
      rw [finish_region hf ho']
      refine ⟨_, e2, ⟨H.fn, h1, fun p v hv hx => h2 p v hv (by unfold Frame.fin' at hx; rw [show Pnd (.dg ops' l :: it) (.inRegion ops' τ' :: k') = _ from pnd_rest hne] at hx; exact hx), ⟨⟨rfl, ns, hns, by rw [dgI_rest hne]; exact hD⟩, hits⟩, htail, ?_, H.defers, H.md, H.kind, H.round⟩, rfl, rfl, rfl⟩
      show Vids (.dg ops' l :: it) (.inRegion ops' τ' :: k') regs' vs
      rw [vids_rest hne]
      refine VidsI.regs hvids fun m p hm hp => ?_
      have hmn := sync1_mem hD.plan hm.1
      have hne2 : n.i ≠ m.i := fun e => (List.nodup_cons.1 hlin.nodup).1 (e ▸ hm.2.1)
      have hsep := ((hns.sep m hmn.1 hmn.2 p hp n hnn).2 hne2).1
      have : n.t.dst ≠ some p := fun e => by rw [setsB_self e] at hsep; cases hsep
      exact h3 p this
  · -- a range over a function
    rename_i l it
    cases hf : f.todo with
    | nil => rw [hf] at hits; exact hits.elim
    | cons b k' =>
      rw [hf] at hits
      obtain ⟨hb, hits⟩ := hits
      cases b <;> try exact hb.elim
      rename_i l'
      have hfin : f.finish u = { f with todo := .endRangeFunc l' :: k' } := by unfold Frame.finish; rw [hf]
      rw [hfin]
      have hv0 := vids_no (show NoDg (.inRF l :: it) from trivial) H.vids
      refine ⟨_, e, ⟨H.fn, H.nt, fun p v hv _ => H.regs p v hv (by rw [pnd_no (show NoDg (.inRF l :: it) from trivial)]; exact fun x => x), ⟨hb, hits⟩, htail, hv0, H.defers, H.md, H.kind, H.round⟩, rfl, rfl, rfl⟩
  · cases e
end
end Go.Gb
end
section
/-! Regions in the text's order, operation by operation. -/
set_option linter.unusedSimpArgs false
set_option linter.unusedVariables false
set_option linter.unusedSectionVars false
namespace Go.Gb
open Go.Conc
/-- The operation is carried out; it is not. -/
def Wtd (o : TOp) (regs : Regs) : Prop := guardK (C := Unit) o.g regs (some ()) none = some ()
def Uwt (o : TOp) (regs : Regs) : Prop := guardK (C := Unit) o.g regs none (some ()) = some ()
theorem guardK_split {C : Type} {o : TOp} {regs : Regs} {yes no : O C} {r : C} (e : guardK o.g regs yes no = some r) : (Wtd o regs ∧ yes = some r) ∨ (Uwt o regs ∧ no = some r) := by
  unfold Wtd Uwt
  unfold guardK at e ⊢
  cases hg : o.g with
  | none => rw [hg] at e; exact .inl ⟨rfl, e⟩
  | some pb =>
    obtain ⟨p, b⟩ := pb
    rw [hg] at e
    obtain ⟨v, hv, e⟩ := optK_inv e
    simp only [hv]
    cases v <;> (try simp only [reduceCtorEq] at e)
    · rename_i x
      cases x <;> cases b <;> first | exact .inl ⟨rfl, e⟩ | exact .inr ⟨rfl, e⟩
    · rename_i vs
      cases vs <;> (try simp only [reduceCtorEq] at e)
      exact .inr ⟨rfl, e⟩
section
variable {P : Program} {N0 : Nat} {mla : Addr} {ml : Gl} {θ : Th} {Post : Value → World → Prop}
theorem wtd_rel {σ : Sg} {nt : Nat} {ops : Array Oper} {o : Oper} {t : TOp} (ht : TopR P N0 mla ml nt ops.toList o t) {regs : Regs} {a : Act} (hr : ∀ p b, t.g = some (p, b) → ∀ v, T.get p regs = some v → VR ml σ v (a.tmps.getD p.toNat undef)) (h : Wtd t regs) : Region.wanted o (yielded ops a.tmps) = true := by
  rcases guard_rel ht hr h with h | h
  · exact h.1
  · cases h.2
theorem uwt_rel {σ : Sg} {nt : Nat} {ops : Array Oper} {o : Oper} {t : TOp} (ht : TopR P N0 mla ml nt ops.toList o t) {regs : Regs} {a : Act} (hr : ∀ p b, t.g = some (p, b) → ∀ v, T.get p regs = some v → VR ml σ v (a.tmps.getD p.toNat undef)) (h : Uwt t regs) : Region.wanted o (yielded ops a.tmps) = false := by
  rcases guard_rel ht hr h with h | h
  · cases h.2
  · exact h.1
theorem dfd_kind {b : Bool} {k : CallKind} (h : k = if b then .deferred else .normal) : k ≠ .early := by cases b <;> simp [h]
variable {fn : Gb.P} {nt : Nat} {regs : Regs} {k : List AIt} {ds : List ATgt} {dfd : Bool} {rd : Option Gb.P} {cs : List Fr} {h : Heap} {nx : Gb.P} {io : AIo} {ops : Array Oper} {o : TOp} {l : List TOp}
/-- The frame at an operation of the text's order. -/
theorem FrR.rg {σ : Sg} {vs : List Gb.P} {f : Frame} (H : FrR P N0 mla ml σ vs ⟨fn, nt, regs, .rg ops (o :: l) :: k, ds, .run, dfd, rd⟩ f) :
    ∃ i τ k' oo, f.todo = .inRegion ops (i :: τ) :: k' ∧ f.mode = .run ∧ ops[i]? = some oo ∧ TopR P N0 mla ml nt ops.toList oo o ∧ TextR P N0 mla ml nt ops.toList l τ ∧ ItsR P N0 mla ml σ nt k k' ∧ (∀ x ∈ k, NotDg x) ∧ RegR ml σ regs ⟨f.tmps, f.defers⟩ ∧ vs = [] := by
  obtain ⟨b, k', R, hv⟩ := FrR.run H (it := .rg ops (o :: l)) trivial
  have hb := R.it
  cases b <;> try exact hb.elim
  obtain ⟨rfl, hτ⟩ := hb
  rename_i τ
  match τ, hτ, R with
  | i :: τ, ⟨⟨oo, ho, hT⟩, hτ⟩, R => exact ⟨i, τ, k', oo, R.todo, R.mode, by simpa using ho, hT, hτ, R.its, R.tail, R.regs, hv⟩
theorem FrR.rg_next {σ σ' : Sg} {vs : List Gb.P} {f : Frame} (H : FrR P N0 mla ml σ vs ⟨fn, nt, regs, .rg ops (o :: l) :: k, ds, .run, dfd, rd⟩ f) (hs : Sub σ σ') {i : Nat} {τ : List Nat} {k' : List Item} {oo : Oper} (hf : f.todo = .inRegion ops (i :: τ) :: k') (ho : ops[i]? = some oo) (hT : TopR P N0 mla ml nt ops.toList oo o)
    (hτ : TextR P N0 mla ml nt ops.toList l τ) {v : V} {u : Value} (hv : VR ml σ' v u) {kk : Regs → OR} {r : Rs} (e : putD o.dst v regs kk = some r) :
    ∃ regs', kk regs' = some r ∧ FrR P N0 mla ml σ' vs ⟨fn, nt, regs', .rg ops l :: k, ds, .run, dfd, rd⟩ (Frame.fin' f ops τ k' oo.dst u) := by
  have H' := H.mono hs
  have hno : NoDg (.rg ops (o :: l) :: k) := trivial
  obtain ⟨regs', e2, h1, h2, _⟩ := regs_put (X := fun _ => False) hT H'.nt (fun p v hv _ => H'.regs p v hv (by rw [pnd_no hno]; exact fun x => x)) hv e
  refine ⟨regs', e2, ⟨H'.fn, h1, fun p v hv _ => h2 p v hv (fun x => x), ?_, H'.tail, vids_no hno H'.vids, H'.defers, H'.md, H'.kind, H'.round⟩⟩
  have h3 := H'.todo
  rw [hf] at h3
  exact ⟨⟨rfl, hτ⟩, h3.2⟩
/-- An operation that ends at once. -/
theorem okay_op (hw : Wtd o regs) {i : Ins} (hwh : o.wh = .i i) {kk : Regs → Heap → Gb.P → OR} {r : Rs} (e : (exec i regs h nx fun v h nx => putD o.dst v regs fun regs => kk regs h nx) = some r)
    (hc : ∀ regs' h' nx', kk regs' h' nx' = some r → Okay P N0 mla ml θ Post ⟨⟨fn, nt, regs', .rg ops l :: k, ds, .run, dfd, rd⟩, cs, h', nx', io⟩) : Okay P N0 mla ml θ Post ⟨⟨fn, nt, regs, .rg ops (o :: l) :: k, ds, .run, dfd, rd⟩, cs, h, nx, io⟩ := by
  rintro io own g w ⟨σ, vt, vs, vss, ids, f, fs, rfl, S⟩
  refine beh_go fun w1 a => ?_
  have S1 := S.agree a
  obtain ⟨j, τ, k', oo, hf, hm, ho, hT, hτ, hk, hk2, hr, hv0⟩ := FrR.rg S1.top
  have hsnd : ∃ i', o.wh = .i i' ∧ SndOp P N0 mla ml oo.op i' ∧ ∀ c, oo.op ≠ .defer c := by
    rcases hT.wh with h | ⟨x, h, _⟩
    · exact h
    · rw [hwh] at h; cases h
  obtain ⟨i', hi', hS, hnd⟩ := hsnd
  rw [hwh] at hi'
  cases hi'
  have hsw := hS S1.ar hr rfl e
  obtain ⟨u, w', es, h1, h2, v, σ', h', nx', hvu, hsub, har, e2⟩ := step_ends (P := P) (N0 := N0) (main := io.main) (cs := fs ++ θ.outer) (Q := fun u w' => ∃ v σ' h' nx', VR ml σ' v u ∧ Sub σ σ' ∧ AR N0 mla ml vt σ' h' nx' own w1.heap.size w' ∧ putD o.dst v regs (fun regs => kk regs h' nx') = some r) hm hf ho
    (wtd_rel hT (a := ⟨f.tmps, f.defers⟩) (fun p b _ v hv => hr p v hv) hw) (.inr hnd) (dfd_kind S1.top.kind) (SW.mono hsw (by
      rintro nxt w' ⟨v, σ', h', nx', hu, hs, ha, hk⟩
      rcases hu with ⟨u, rfl, hu⟩ | ⟨rfl, rfl⟩
      · exact ⟨u, .inl rfl, v, σ', h', nx', hu, hs, ha, hk⟩
      · exact ⟨undef, .inr ⟨rfl, rfl⟩, .tup [], σ', h', nx', trivial, hs, ha, hk⟩))
  obtain ⟨regs', e3, hF⟩ := FrR.rg_next S1.top hsub hf ho hT hτ hvu e2
  refine ⟨_, _, _, w', es, h1, h2, hc regs' h' nx' e3 _ _ _ _ ⟨σ', vt, vs, vss, ids, _, fs, rfl, har.shift, hF, S1.cs.mono hsub, S1.io.mono hsub, S1.vids, S1.nodup, S1.hf, S1.kept.does S1.ar.n0le.1 S1.ar.apart h2, mine_lt S1.lt h2.size⟩⟩
/-- An operation that is left out. -/
theorem okay_unwanted (hw : Uwt o regs) {kk : Regs → OR} {r : Rs} (e : putD o.dst (.tup []) regs kk = some r)
    (hc : ∀ regs', kk regs' = some r → Okay P N0 mla ml θ Post ⟨⟨fn, nt, regs', .rg ops l :: k, ds, .run, dfd, rd⟩, cs, h, nx, io⟩) : Okay P N0 mla ml θ Post ⟨⟨fn, nt, regs, .rg ops (o :: l) :: k, ds, .run, dfd, rd⟩, cs, h, nx, io⟩ := by
  rintro io own g w ⟨σ, vt, vs, vss, ids, f, fs, rfl, S⟩
  refine beh_go fun w1 a => ?_
  have S1 := S.agree a
  obtain ⟨j, τ, k', oo, hf, hm, ho, hT, hτ, hk, hk2, hr, hv0⟩ := FrR.rg S1.top
  obtain ⟨regs', e3, hF⟩ := FrR.rg_next S1.top (Sub.refl _) hf ho hT hτ (u := undef) (v := .tup []) trivial e
  exact ⟨own, _, _, w1, #[], step_unwanted hm hf ho (uwt_rel hT (a := ⟨f.tmps, f.defers⟩) (fun p b _ v hv => hr p v hv) hw), does_refl, hc regs' e3 _ _ _ _ ⟨σ, vt, vs, vss, ids, _, fs, rfl, S1.ar, hF, S1.cs, S1.io, S1.vids, S1.nodup, S1.hf, S1.kept, S1.lt⟩⟩
/-- The region's end. -/
theorem okay_rg_end (hc : Okay P N0 mla ml θ Post ⟨⟨fn, nt, regs, k, ds, .run, dfd, rd⟩, cs, h, nx, io⟩) : Okay P N0 mla ml θ Post ⟨⟨fn, nt, regs, .rg ops [] :: k, ds, .run, dfd, rd⟩, cs, h, nx, io⟩ := by
  refine okay_items (k2 := k) trivial (fun σ f b k' R => ?_) (fun hk => hk) hc
  have hb := R.it
  cases b <;> try exact hb.elim
  obtain ⟨rfl, hτ⟩ := hb
  rename_i τ
  cases τ with
  | cons i τ => exact hτ.elim
  | nil => exact ⟨k', go_todo R.mode R.todo fun main cs w => by simp [stepG.exec, R.todo], R.its⟩
/-- A whole region. -/
theorem okay_rg {r : Rs} {kend : Regs → Heap → Gb.P → OR} {kfx : Fx → List TOp → Regs → Heap → Gb.P → OR}
    (hend : ∀ regs h nx, kend regs h nx = some r → Okay P N0 mla ml θ Post ⟨⟨fn, nt, regs, k, ds, .run, dfd, rd⟩, cs, h, nx, io⟩)
    (hfx : ∀ x o l regs h nx, o.wh = .f x → Wtd o regs → kfx x (o :: l) regs h nx = some r → Okay P N0 mla ml θ Post ⟨⟨fn, nt, regs, .rg ops (o :: l) :: k, ds, .run, dfd, rd⟩, cs, h, nx, io⟩) :
    ∀ l regs h nx, opsK l regs h nx kend kfx = some r → Okay P N0 mla ml θ Post ⟨⟨fn, nt, regs, .rg ops l :: k, ds, .run, dfd, rd⟩, cs, h, nx, io⟩ := by
  intro l
  induction l with
  | nil => exact fun regs h nx e => okay_rg_end (hend regs h nx e)
  | cons o l ih =>
    intro regs h nx e
    rcases guardK_split e with ⟨hw, e⟩ | ⟨hw, e⟩
    · cases hwh : o.wh with
      | f x => rw [hwh] at e; exact hfx x o l regs h nx hwh hw e
      | i i => rw [hwh] at e; exact okay_op hw hwh e fun regs' h' nx' e => ih regs' h' nx' e
    · exact okay_unwanted hw e fun regs' e => ih regs' h nx e
end
end Go.Gb
end
