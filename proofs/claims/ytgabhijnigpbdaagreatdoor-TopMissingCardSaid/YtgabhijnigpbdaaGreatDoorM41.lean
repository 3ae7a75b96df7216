/- A part of the proof of the statement Rows.TopMissingCardSaid (at every argument the law returns true on every schedule, and its argument reads as before; the listed variables as laid). This text: a stepper over symbolic states of the translated program and its soundness, part 41 of 41. -/
import Derived.Test.YtgabhijnigpbdaaGreatDoorM40
section
/-! The run of a whole law, out of the program's own tables. -/
set_option linter.unusedSimpArgs false
set_option linter.unusedVariables false
set_option linter.unusedSectionVars false
namespace Go.Gb
open Go.Conc
theorem ofLK_get {α : Type} : ∀ (l : List α) (i : P) (t : T α) {t' : T α}, ofLK l i t some = some t' → (∀ p, p.toNat < i.toNat → T.get p t' = T.get p t) ∧ ∀ (j : Nat) x p, l[j]? = some x → p.toNat = i.toNat + j → T.get p t' = some x := by
  intro l
  induction l with
  | nil => intro i t t' h; cases h; exact ⟨fun p _ => rfl, fun j x p h => by simp at h⟩
  | cons a l ih =>
    intro i t t' h
    have h2 : ofLK l i.succ (T.put (some a) i t) some = some t' := by
      replace h : T.putK (some a) i t (fun t => P.rec (motive := fun _ => (P → Option (T α)) → Option (T α)) (fun k => k (.o .z)) (fun p _ k => k (.e p)) (fun _ ih k => ih fun q => k (.o q)) i fun i => ofLK l i t some) = some t' := h
      rw [T.putK_eq, succP_eq] at h
      exact h
    obtain ⟨h3, h4⟩ := ih _ _ h2
    refine ⟨fun p hp => ?_, fun j x p hj hp => ?_⟩
    · rw [h3 p (by rw [P.toNat_succ]; omega), T.get_put_ne _ _ _ _ (fun e => by subst e; omega)]
    · cases j with
      | zero =>
        simp at hj; subst hj
        have : p = i := Gb.P.toNat_inj (by omega)
        subst this
        rw [h3 p (by rw [P.toNat_succ]; omega), T.get_put_same]
      | succ j => exact h4 j x p (by simpa using hj) (by rw [P.toNat_succ]; omega)
/-- The marks of functions, as a table. -/
noncomputable def marksK (l : List (Nat × EF)) (t : T EF) (k : T EF → O (List Cfg)) : O (List Cfg) :=
  List.rec (motive := fun _ => T EF → O (List Cfg)) k (fun x _ ih t => pK x.1 fun p => T.putK (some x.2) p t ih) l t
theorem marksK_inv : ∀ (l : List (Nat × EF)) (t : T EF) {k : T EF → O (List Cfg)} {r : List Cfg}, marksK l t k = some r → ∃ t', k t' = some r ∧ ∀ p x, T.get p t' = some x → (p.toNat, x) ∈ l ∨ T.get p t = some x := by
  intro l
  induction l with
  | nil => intro t k r e; exact ⟨t, e, fun p x h => .inr h⟩
  | cons a l ih =>
    intro t k r e
    replace e : pK a.1 (fun p => T.putK (some a.2) p t fun t => marksK l t k) = some r := e
    obtain ⟨q, hq, e⟩ := pK_inv e
    rw [T.putK_eq] at e
    obtain ⟨t', e, h⟩ := ih _ e
    refine ⟨t', e, fun p x hp => ?_⟩
    rcases h p x hp with h | h
    · exact .inl (by simp [h])
    · by_cases hpq : q = p
      · subst hpq; rw [T.get_put_same] at h; cases h
        exact .inl (by rw [hq]; simp)
      · rw [T.get_put_ne _ _ _ _ hpq] at h; exact .inr h
/-- What is reckoned: the law's run, from its entry to its end. -/
noncomputable def goAll (types : List TypeInfo) (funcs : List Func) (flats : List Bool) (ext : List (Nat × EF)) (g0 : P) (regs : Regs) (f n d m N : Nat) : O (List Cfg) :=
  optK (ofLK types .z .nil some) none fun tys => optK (ofLK funcs .z .nil some) none fun funs => optK (ofLK flats .z .nil some) none fun fl => marksK ext .nil fun exts =>
    optK (T.get g0 funs) none fun fd => match fd.body with
    | some b => natK fd.ntmps fun nt => buildF ⟨tys, funs, exts, fl, 0, 2⟩ f n d [] fun tbl =>
        iterB g0 (iterS (stepF ⟨tys, funs, exts, fl, 0, 2⟩ (allGk ⟨tys, funs, exts, fl, 0, 2⟩ f n tbl) (plan1 ⟨tys, funs, exts, fl, 0, 2⟩) f) m) N (entryC g0 nt regs b)
    | none => none
section
variable {P : Program}
/-- A mark fits the function. -/
def MarkFits (P : Program) (x : Nat × EF) : Prop :=
  match x.2 with
  | .noEscape => ∃ fn, P.funcs[x.1]? = some fn ∧ Extern.findNext fn = none ∧ Extern.find fn = some Extern.AbiNoEscape.same
  | .indexByte => ∃ fn, P.funcs[x.1]? = some fn ∧ Extern.findNext fn = none ∧ Extern.find fn = some Extern.BytealgIndexByte.indexByte
  | .countStr => ∃ fn, P.funcs[x.1]? = some fn ∧ Extern.findNext fn = none ∧ Extern.find fn = some Extern.BytealgCount.count
  | .cmpStr => ∃ fn, P.funcs[x.1]? = some fn ∧ Extern.findNext fn = none ∧ Extern.find fn = some Extern.BytealgCompare.compare
  | .index2 => ∃ fn, P.funcs[x.1]? = some fn ∧ Extern.findNext fn = none ∧ Extern.find fn = some Extern.BytealgIndex.index
  | _ => True
/-- Closed facts of the program. -/
structure Facts (P : Program) (ext : List (Nat × EF)) : Prop where
  names : (P.funcs.toList.all fun f => !(f.name == "runtime.NumGoroutine")) = true
  maxlen : P.globals.findIdx? (·.name == "internal/bytealg.MaxLen") = some 0
  marks : ∀ x ∈ ext, MarkFits P x
/-- 'each' is what it should be. -/
def EachFits (P : Program) (ext : List (Nat × EF)) : Prop := ∀ g l, (g, EF.each l) ∈ ext → ∃ fd b o0 o1 o2 o3 o4 o6, P.funcs[g]? = some fd ∧
  ∀ (tys : T TypeInfo), ofLK P.types.toList .z .nil some = some tys → ∀ funs exts fl, EachCode ⟨tys, funs, exts, fl, 0, 2⟩ fd b o0 o1 o2 o3 o4 o6
def flatsL (P : Program) : List Bool := (List.range P.types.size).map fun t => !P.stoodInHeld t && !P.eqGuardType P.depth t
noncomputable def glOf (P : Program) (val : Int) (par : Nat) : Gl := ⟨val, fun t => match P.info? t with | some i => i.size | none => 0, par⟩
/-- Whatever the scheduler picks, the law's run ends well. -/
theorem goAll_ends {ext : List (Nat × EF)} (hf : Facts P ext) (hEach : EachFits P ext) {g0 : Gb.P} {fd : Func} {t : Nat} (hfd : P.funcs[g0.toNat]? = some fd) (hres : fd.results = #[.tmp t]) (hini : P.inits.idxOf? g0.toNat = none)
    {regs : Regs} {f n d m N : Nat} (hrun : goAll P.types.toList P.funcs.toList (flatsL P) ext g0 regs f n d m N = some [])
    {w : World} {val : Int} {par : Nat} (hg1 : 0 < w.heap.size) (hg2 : w.cell? ⟨0, 0, none⟩ = some (.int .i64 val)) {vs : List V} {us : Array Value} (hv : ∀ σ, VRL (glOf P val par) σ vs us.toList) (hn : vs.length ≤ fd.ntmps) (hregs : ∀ p v, T.get p regs = some v → ∃ j, p.toNat = j ∧ vs[j]? = some v) :
    ∃ n last o w' t', runNT P (n + 1) (solo (G (Frame.enter P g0.toNat us .normal) []) w) #[] = (.ended o w', t') ∧ runN P n (solo (G (Frame.enter P g0.toNat us .normal) []) w) = .next last ∧ step P last = .ended o w' ∧ Conc.Good P (PostT w) last o w' t' := by
  unfold goAll at hrun
  obtain ⟨tys, htys, hrun⟩ := optK_inv hrun
  obtain ⟨funs, hfuns, hrun⟩ := optK_inv hrun
  obtain ⟨fl, hfl, hrun⟩ := optK_inv hrun
  obtain ⟨exts, hrun, hext⟩ := marksK_inv _ _ hrun
  obtain ⟨fd', hfd', hrun⟩ := optK_inv hrun
  have gfun : ∀ p x, T.get p funs = some x → P.funcs[p.toNat]? = some x := fun p x hp => by
    have := ofLK_some hfuns p x hp
    simpa using this
  have gfun2 : ∀ p x, P.funcs[p.toNat]? = some x → T.get p funs = some x := fun p x hp => (ofLK_get _ _ _ hfuns).2 p.toNat x p (by simpa using hp) (by simp [Gb.P.toNat])
  have : fd' = fd := by
    have := gfun g0 fd' hfd'
    rw [hfd] at this; exact (Option.some.inj this).symm
  subst this
  split at hrun
  case h_2 => cases hrun
  rename_i b hb
  rw [natK_eq] at hrun
  let E : Env := ⟨tys, funs, exts, fl, 0, 2⟩
  let mla : Addr := ⟨0, 0, none⟩
  let ml : Gl := glOf P val par
  have hF : FunOk P E := ⟨fun g f hg => ⟨gfun g f hg, by
    have h1 := gfun g f hg
    have h2 := List.all_eq_true.1 hf.names f (by
      have : f ∈ P.funcs := Array.mem_of_getElem? h1
      simpa using this)
    simpa using h2⟩⟩
  have hE : EnvOk P E mla ml := by
    refine ⟨fun p i hp => ?_, fun t i hi => ?_, rfl, ⟨fun h => ?_, fun h => ?_⟩, fun p hp => ?_⟩
    · have h1 : P.types[p.toNat]? = some i := by
        have := ofLK_some htys p i hp
        simpa using this
      show (if p.toNat < P.types.size then P.types[p.toNat]? else Made.infoAt P.toTables Made.depth p.toNat) = some i
      rw [if_pos (Array.getElem?_eq_some_iff.1 h1).1]
      exact h1
    · show (match P.info? t with | some i => i.size | none => 0) = i.size
      rw [hi]
    · have : (2 : Nat) % 3 = 0 := h
      omega
    · have : (2 : Nat) % 3 = 1 := h
      omega
    · have := ofLK_some hfl p true hp
      unfold flatsL at this
      rw [List.getElem?_map] at this
      obtain ⟨t, ht, h2⟩ := Option.map_eq_some_iff.1 this
      have : t = p.toNat := by
        obtain ⟨h3, h4⟩ := List.getElem?_eq_some_iff.1 ht
        rw [List.getElem_range] at h4
        exact h4.symm
      subst this
      simp only [Bool.and_eq_true, Bool.not_eq_true'] at h2
      exact h2
  have hX : ExtsAll P E mla ml := by
    intro bg hbg
    refine ⟨hbg, fun g x fn hx hg hbody N0 own n0 σ w args us v c1 c2 hv hk => ?_⟩
    have hmem : (g.toNat, x) ∈ ext := by
      rcases hext g x hx with h | h
      · exact h
      · rw [T.get_nil] at h; cases h
    have hfit := hf.marks _ hmem
    have hp : P.funcs[g.toNat]? = some fn := gfun g fn hg
    have hname := (hF.funs g fn hg).2
    have fin : ∀ ex : Array Value → Sem Value, Extern.findNext fn = none → Extern.find fn = some ex → SW P N0 own n0 (ex us) w (fun u w' => w' = w ∧ VR ml σ v u) → SW P N0 own n0 (callFunc g.toNat us) w fun nxt w' => w' = w ∧ ∃ u, nxt = .value u ∧ VR ml σ v u := by
      intro ex h1 h2 h3
      refine SW.mono (ext_sw hp hname hbody h1 h2 h3) ?_
      rintro nxt w' ⟨u, rfl, h4, h5⟩
      exact ⟨h4, u, rfl, h5⟩
    have none' : (∀ k : V → OR, extK (envB E bg).big x args k = none) → SW P N0 own n0 (callFunc g.toNat us) w fun nxt w' => w' = w ∧ ∃ u, nxt = .value u ∧ VR ml σ v u := fun h => by
      have h1 := hk fun v => some (.done v default)
      rw [h] at h1; cases h1
    cases x with
    | noEscape => obtain ⟨fn', h1, h2, h3⟩ := hfit; rw [hp] at h1; cases h1; exact fin _ h2 h3 (noEscape_sw hv hk)
    | indexByte => obtain ⟨fn', h1, h2, h3⟩ := hfit; rw [hp] at h1; cases h1; exact fin _ h2 h3 (indexByte_sw hv hk)
    | countStr => obtain ⟨fn', h1, h2, h3⟩ := hfit; rw [hp] at h1; cases h1; exact fin _ h2 h3 (countStr_sw hv hk)
    | cmpStr => obtain ⟨fn', h1, h2, h3⟩ := hfit; rw [hp] at h1; cases h1; exact fin _ h2 h3 (cmpStr_sw hv hk)
    | index2 => obtain ⟨fn', h1, h2, h3⟩ := hfit; rw [hp] at h1; cases h1; exact fin _ h2 h3 (index2_sw (mla := mla) hf.maxlen rfl c1 c2 hbg.2 hv hk)
    | sub l => exact none' fun k => rfl
    | sub2 => exact none' fun k => rfl
    | each l => exact none' fun k => rfl
  have hEi : ∀ g l, T.get g E.exts = some (.each l) → EachIs P w.heap.size mla ml (PostT w) E g := by
    intro g l hg
    have hmem : (g.toNat, EF.each l) ∈ ext := by
      rcases hext g _ hg with h | h
      · exact h
      · rw [T.get_nil] at h; cases h
    obtain ⟨fd, b, o0, o1, o2, o3, o4, o6, h1, h2⟩ := hEach _ _ hmem
    exact each_is hE hF (hX.self hE) (gfun2 g fd h1) (h2 tys htys funs exts fl)
  obtain ⟨tbl, ht, hbuild⟩ := buildF_ok (R := O (List Cfg)) (N0 := w.heap.size) (Post := PostT w) hE hF hX hEi f n d (tbl := []) (by simp)
  rw [hbuild] at hrun
  have hgk := allGk_ok (N0 := w.heap.size) (Post := PostT w) hE hF hX hEi f n ht
  have hst := iterS_ok (stepF_ok (N0 := w.heap.size) (Post := PostT w) hE hF (hX.self hE) hgk f) m
  have hO := run_okay hF hfd' hres hini hst hrun (fun c hc => by simp at hc)
  exact entry_ends hF hfd' hb hg1 hg2 hv hn hregs hO
end
end Go.Gb
end
