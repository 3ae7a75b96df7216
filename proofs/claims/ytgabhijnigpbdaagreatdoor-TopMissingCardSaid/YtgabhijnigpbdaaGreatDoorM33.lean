/- A part of the proof of the statement Rows.TopMissingCardSaid (at every argument the law returns true on every schedule, and its argument reads as before; the listed variables as laid). This text: a stepper over symbolic states of the translated program and its soundness, part 33 of 41. -/
import Derived.Test.YtgabhijnigpbdaaGreatDoorM32
section
/-! Drawn regions: what is made ahead; values that are surely one. -/
set_option linter.unusedSimpArgs false
set_option linter.unusedVariables false
set_option linter.unusedSectionVars false
namespace Go.Gb
open Go.Conc
theorem vsame_eq {x y : V} (h : vsame x y = true) : x = y := by
  unfold vsame at h
  split at h <;> (try rfl) <;> (try (cases h; done)) <;> simp only [Bool.and_eq_true, decide_eq_true_eq, nbeq, beq_iff_eq] at h
  · rename_i k a k' b
    have h1 := h.1
    have h2 := h.2
    rw [ieq_eq] at h2
    rw [kdeq_eq h1, of_decide_eq_true h2]
  · rw [h.1, h.2]
  · rw [h.1, h.2]
  · rw [h.1, h.2.1, h.2.2.1, h.2.2.2]
  · rw [h]
  · rw [h]
  · rw [h]
  · rw [h]
theorem vsame1_eq {x y : V} (h : vsame1 x y = true) : x = y := by
  unfold vsame1 at h
  split at h
  · simp only [Bool.and_eq_true, nbeq, decide_eq_true_eq] at h
    rw [h.1, vsame_eq h.2]
  · exact vsame_eq h
theorem vsameLf_eq {f : V → V → Bool} (hf : ∀ x y, f x y = true → x = y) : ∀ {xs ys : List V}, vsameLf f xs ys = true → xs = ys := by
  intro xs
  induction xs with
  | nil => intro ys h; cases ys with
    | nil => rfl
    | cons => cases h
  | cons x xs ih =>
    intro ys h
    cases ys with
    | nil => cases h
    | cons y ys =>
      replace h : boolK (f x y) (vsameLf f xs ys) false = true := h
      rcases bk h with ⟨h1, h2⟩ | ⟨_, h2⟩
      · rw [hf x y h1, ih h2]
      · cases h2
theorem vsame2_eq {x y : V} (h : vsame2 x y = true) : x = y := by
  unfold vsame2 at h
  split at h
  · rw [vsameLf_eq (fun _ _ => vsame1_eq) h]
  · rw [vsameLf_eq (fun _ _ => vsame1_eq) h]
  · rcases bk h with ⟨h1, h2⟩ | ⟨_, h2⟩
    · rw [vsameLf_eq (fun _ _ => vsame1_eq) h2, beq2.1 h1]
    · cases h2
  · exact vsame1_eq h
theorem vsameV_eq {x y : V} (h : vsameV x y = true) : x = y := by
  unfold vsameV at h
  split at h
  · rw [vsameLf_eq (fun _ _ => vsame2_eq) h]
  · rw [vsameLf_eq (fun _ _ => vsame2_eq) h]
  · exact vsame2_eq h
theorem vsameL_eq {xs ys : List V} (h : vsameL xs ys = true) : xs = ys := vsameLf_eq (fun _ _ => vsame1_eq) h
section
variable {P : Program} {N0 : Nat} {mla : Addr} {ml : Gl} {θ : Th} {Post : Value → World → Prop} {E : Env}
variable {cs : List Fr} {h : Heap} {nx : Gb.P} {io : AIo} {r : Rs} {fn : Gb.P} {nt : Nat} {regs : Regs} {k : List AIt} {ds : List ATgt} {dfd : Bool} {rd : Option Gb.P} {ops : Array Oper} {l : List DOp}
theorem AR.virt {vt : Vt} {σ : Sg} {own : Own} {n0 : Nat} {w : World} {ob : Ob} (H : AR N0 mla ml vt σ h nx own n0 w) : AR N0 mla ml ⟨nx :: vt.ids, vt.hf⟩ σ (T.put (some ob) nx h) nx.succ own n0 w := by
  have hne : ∀ id p, σ id = some p → nx ≠ id := fun id p hp e => by have := H.low id p hp; rw [e] at this; omega
  have hget : ∀ id p ob', σ id = some p → T.get id (T.put (some ob) nx h) = some ob' → T.get id h = some ob' := fun id p ob' hp hg => by
    rw [T.get_put_ne _ _ _ _ (hne id p hp)] at hg; exact hg
  refine ⟨H.dom, fun id p ob' hp hg => H.has id p ob' hp (hget id p ob' hp hg), fun id p hp => by have := H.low id p hp; rw [P.toNat_succ]; omega, fun id ob' hg => ?_, fun id id' p p' o1 o2 hp hp' h1 h2 => H.inj id id' p p' o1 o2 hp hp' (hget _ _ _ hp h1) (hget _ _ _ hp' h2),
    fun id p ob' hp hg => H.obs id p ob' hp (hget _ _ _ hp hg), fun id hid => ?_, H.fr, fun id id' p p' o1 o2 hp hp' h1 h2 => H.frx id id' p p' o1 o2 hp hp' h1 (hget _ _ _ hp' h2), H.fro, fun id ob' hg => by have := H.frl id ob' hg; rw [P.toNat_succ]; omega, H.glob, H.n0le, H.apart⟩
  · rw [P.toNat_succ]
    by_cases he : nx = id
    · rw [he]; omega
    · rw [T.get_put_ne _ _ _ _ he] at hg
      have := H.hlow id ob' hg; omega
  · rw [P.toNat_succ]
    rcases List.mem_cons.1 hid with rfl | hid
    · refine ⟨?_, by omega⟩
      cases hs : σ id with
      | none => rfl
      | some p => exact absurd rfl (hne id p hs)
    · have := H.vts id hid
      exact ⟨this.1, by omega⟩
/-- What is made, in the evaluator. -/
theorem mk_exec {op : Op} {i : Ins} (hm : MkR P op i) {kk : K Rs} (e : exec i regs h nx kk = some r) : ∃ ob v, vid v = some nx ∧ kk v (T.put (some ob) nx h) nx.succ = some r := by
  cases hm with
  | @alloc el ti z zs ho hi hz hzs h1 =>
    replace e : newOb (.row zs el 0 false 0) h nx (fun id h nx => kk (.ptr id 0) h nx) = some r := e
    obtain ⟨_, e⟩ := newOb_inv e
    exact ⟨_, _, rfl, e⟩
  | @chan t el c c' ti dr ho hc ht hi hb =>
    replace e : opdK c regs (fun v => nat0K v fun n => boolK (Nat.ble n 1048576) (newOb (.chan n [] false 0 0) h nx fun id h nx => kk (.chan id) h nx) none) = some r := e
    obtain ⟨v, _, e⟩ := opdK_some e
    obtain ⟨kd, n, _, e⟩ := nat0K_inv e
    obtain ⟨_, e⟩ := boolK_inv e
    obtain ⟨_, e⟩ := newOb_inv e
    exact ⟨_, _, rfl, e⟩
theorem made_fun {regs : Regs} {n : Nd} {a b : Gb.P} (h1 : Made regs n a) (h2 : Made regs n b) : a = b := by
  obtain ⟨_, p, v, q1, q2, q3⟩ := h1
  obtain ⟨_, p', v', q1', q2', q3'⟩ := h2
  rw [q1] at q1'; cases q1'
  rw [q2] at q2'; cases q2'
  rw [q3] at q3'; cases q3'; rfl
theorem okay_mk {n : Nd} {i : Ins} {d : Gb.P} (hwh : n.t.wh = .i i) (hd : n.t.dst = some d) {kk : Regs → Heap → Gb.P → OR} (e : (exec i regs h nx fun v h nx => putD (some d) v regs fun regs => kk regs h nx) = some r)
    (hr : ∀ regs' h' nx', kk regs' h' nx' = some r → Okay P N0 mla ml θ Post ⟨⟨fn, nt, regs', .dg ops l :: k, ds, .run, dfd, rd⟩, cs, h', nx', io⟩) : Okay P N0 mla ml θ Post ⟨⟨fn, nt, regs, .dg ops (.mk n :: l) :: k, ds, .run, dfd, rd⟩, cs, h, nx, io⟩ := by
  rintro io' own g w ⟨σ, vt, vs, vss, ids, f, fs, rfl, S⟩
  obtain ⟨ns, τ, k', D⟩ := FrR.dg S.top (show NoEf (.mk n :: l) from trivial)
  obtain ⟨p1, p2, p4, p5⟩ := D.dg.plan
  obtain ⟨oo, ho, hT⟩ := (D.nsok.node n p1).at'
  have hmk := (D.nsok.node n p1).mkr p2 oo ho i hwh
  obtain ⟨ob, v, hvid, e⟩ := mk_exec hmk e
  obtain ⟨regs', e, g1, g2⟩ := putD_get e
  have g1 := g1 d rfl
  have g2 : ∀ p, d ≠ p → T.get p regs' = T.get p regs := fun p hp => g2 p fun x => hp (Option.some.inj x)
  refine hr _ _ _ e _ _ _ _ ?_
  have hn : NoEf l := noEf_of p4
  have hnin : n.i ∉ idxD l := (List.nodup_cons.1 D.dg.nodup).1
  have up : ∀ m, PendN (.mk n :: l) τ m → PendN l τ m := fun m hm => ⟨hm.1, hm.2.1, fun hx => hm.2.2 (by simp only [idxD, List.mem_cons]; exact .inr hx)⟩
  have pn : PendN l τ n := ⟨p4, D.dg.sub _ (by simp [idxD]), hnin⟩
  have down : ∀ m, PendN l τ m → m = n ∨ PendN (.mk n :: l) τ m := by
    intro m hm
    by_cases hi : m.i = n.i
    · exact .inl (D.nsok.uniq m (sync1_mem p5 hm.1).1 n p1 hi)
    · exact .inr ⟨hm.1, hm.2.1, by simp only [idxD, List.mem_cons]; exact fun x => x.elim hi hm.2.2⟩
  have hv : VidsI (.mk n :: l) τ regs' vs := D.vids.regs fun m p hm hp => g2 p fun hdp => by
    subst hdp
    have := uniq_dst D.nsok (sync1_mem p5 hm.1).1 (sync1_mem p5 hm.1).2 p1 hp hd
    subst this
    exact hm.2.2 (by simp [idxD])
  have mn : Made regs' n nx := ⟨p2, d, v, hd, g1, hvid⟩
  have fresh : ∀ id ∈ vs, id ≠ nx := by
    intro id hid e
    have := (S.ar.vts id (by rw [S.vids]; simp [hid])).2
    rw [e] at this
    simp only at this
    omega
  have D' : DgF P N0 mla ml σ nt ops ns l k regs' (nx :: vs) f τ k' := by
    refine ⟨D.todo, D.mode, D.nsok, ⟨D.dg.lin, p5, D.dg.node, fun j hj => ?_, fun j hj => D.dg.sub j (by simp only [idxD, List.mem_cons]; exact .inr hj), (List.nodup_cons.1 D.dg.nodup).2⟩, D.its, D.tail, D.size, fun p v' hp hx => ?_, ?_⟩
    · rcases D.dg.cov j hj with h1 | h1
      · simp only [idxD, List.mem_cons] at h1
        rcases h1 with rfl | h1
        · exact .inr ⟨n, p4, rfl⟩
        · exact .inl h1
      · exact .inr h1
    · by_cases hdp : d = p
      · subst hdp; exact absurd ⟨n, pn, hd⟩ hx
      · rw [g2 p hdp] at hp
        exact D.vals p v' hp fun ⟨m, hm, hmd⟩ => hx ⟨m, up m hm, hmd⟩
    · refine ⟨fun m hm hk => ?_, fun id hid => ?_, fun a b id ha hb ma mb => ?_⟩
      · rcases down m hm with rfl | hm
        · exact ⟨nx, by simp, mn⟩
        · obtain ⟨id, h1, h2⟩ := hv.all m hm hk
          exact ⟨id, by simp [h1], h2⟩
      · rcases List.mem_cons.1 hid with rfl | hid
        · exact ⟨n, pn, mn⟩
        · obtain ⟨m, hm, hmd⟩ := hv.only id hid
          exact ⟨m, up m hm, hmd⟩
      · have old : ∀ m, PendN (.mk n :: l) τ m → Made regs' m id → id ≠ nx := by
          intro m hm hmd
          obtain ⟨id0, h1, h2⟩ := hv.all m hm hmd.1
          rw [made_fun hmd h2]
          exact fresh id0 h1
        rcases down a ha with rfl | ha <;> rcases down b hb with rfl | hb
        · rfl
        · exact absurd (made_fun ma mn) (old b hb mb)
        · exact absurd (made_fun mb mn) (old a ha ma)
        · exact hv.inj a b id ha hb ma mb
  refine ⟨σ, ⟨nx :: vt.ids, vt.hf⟩, nx :: vs, vss, ids, f, fs, rfl, ⟨AR.virt S.ar, D'.frR hn S.top rfl rfl rfl rfl, S.cs, S.io, by rw [S.vids]; rfl, List.nodup_cons.2 ⟨fun hin => ?_, S.nodup⟩, S.hf, S.kept, S.lt⟩⟩
  have := (S.ar.vts nx hin).2
  simp only at this
  omega
end
end Go.Gb
end
section
/-! Drawn regions: what is looked at again. -/
set_option linter.unusedSimpArgs false
set_option linter.unusedVariables false
set_option linter.unusedSectionVars false
namespace Go.Gb
open Go.Conc
/-- A floating operation tells now what it told. -/
def FlOk (n : Nd) (regs : Regs) (h : Heap) (nx : P) : Prop := ∃ v, (∀ p, n.t.dst = some p → T.get p regs = some v) ∧ ((Wtd n.t regs ∧ ∃ i h1 nx1, n.t.wh = .i i ∧ exec (C := V × Heap × P) i regs h nx (fun v h nx => some (v, h, nx)) = some (v, h1, nx1)) ∨ (Uwt n.t regs ∧ v = .tup []))
/-- What was made lies as it was made. -/
def MkOk (n : Nd) (regs : Regs) (h : Heap) : Prop := n.t.g = none ∧ ∃ d, n.t.dst = some d ∧ ((∃ id el zs, n.t.wh = .i (.alloc el zs) ∧ T.get d regs = some (.ptr id 0) ∧ T.get id h = some (.row zs el 0 false 0)) ∨
  (∃ id c kd m, n.t.wh = .i (.mkchan c) ∧ T.get d regs = some (.chan id) ∧ opdK c regs some = some (.int kd (.ofNat m)) ∧ m ≤ 1048576 ∧ T.get id h = some (.chan m [] false 0 0)))
section
variable {C : Type} {regs : Regs} {h : Heap} {nx : P} {r : C}
theorem evF_inv {n : Nd} {k : V → O C} (e : evF n.t regs h nx k = some r) : ∃ v, k v = some r ∧ ((Wtd n.t regs ∧ ∃ i h1 nx1, n.t.wh = .i i ∧ exec (C := V × Heap × P) i regs h nx (fun v h nx => some (v, h, nx)) = some (v, h1, nx1)) ∨ (Uwt n.t regs ∧ v = .tup [])) := by
  unfold evF at e
  rcases guardK_split e with ⟨hw, e⟩ | ⟨hw, e⟩
  · cases hwh : n.t.wh with
    | f x => rw [hwh] at e; cases e
    | i i =>
      rw [hwh] at e
      obtain ⟨⟨v, h1, nx1⟩, h2, e⟩ := optK_inv e
      exact ⟨v, e, .inl ⟨hw, i, h1, nx1, rfl, h2⟩⟩
  · exact ⟨_, e, .inr ⟨hw, rfl⟩⟩
theorem stillMade_inv {n : Nd} {k : O C} (e : stillMade n.t regs h k = some r) : MkOk n regs h ∧ k = some r := by
  unfold stillMade at e
  split at e
  · rename_i el zs d hg hw hd
    obtain ⟨u, hu, e⟩ := optK_inv e
    split at e
    · obtain ⟨ob, hob, e⟩ := getOb_inv e
      split at e
      · obtain ⟨h1, e9⟩ := boolK_inv e
        simp only [Bool.and_eq_true] at h1
        have := vsameL_eq h1.1
        subst this
        have := beq2.1 h1.2
        subst this
        exact ⟨⟨hg, d, hd, .inl ⟨_, _, _, hw, hu, hob⟩⟩, e9⟩
      · cases e
    · cases e
  · rename_i c d hg hw hd
    obtain ⟨u, hu, e⟩ := optK_inv e
    split at e
    · obtain ⟨v, hv, e⟩ := opdK_some e
      obtain ⟨kd, m, rfl, e2⟩ := nat0K_inv e
      obtain ⟨h1, e2⟩ := boolK_inv e2
      obtain ⟨ob, hob, e2⟩ := getOb_inv e2
      split at e2
      · obtain ⟨h2, e9⟩ := boolK_inv e2
        have := beq2.1 h2
        subst this
        exact ⟨⟨hg, d, hd, .inr ⟨_, c, kd, _, hw, hu, hv, Nat.le_of_ble_eq_true h1, hob⟩⟩, e9⟩
      · cases e2
    · cases e
  · cases e
theorem syncK_inv : ∀ {s : List Nd} {k : O C}, syncK s regs h nx k = some r → k = some r ∧ ∀ n ∈ s, (n.kd = 1 → MkOk n regs h) ∧ (n.kd ≠ 1 → FlOk n regs h nx) := by
  intro s
  induction s with
  | nil => intro k e; exact ⟨e, by simp⟩
  | cons n s ih =>
    intro k e
    replace e : boolK (Nat.beq n.kd 1) (stillMade n.t regs h (syncK s regs h nx k)) (evF n.t regs h nx fun v => (match n.t.dst with
      | some d => optK (T.get d regs) none fun u => boolK (vsameV v u) (syncK s regs h nx k) none
      | none => syncK s regs h nx k)) = some r := e
    rcases boolK_cases e with ⟨h1, e⟩ | ⟨h1, e⟩
    · obtain ⟨h2, e⟩ := stillMade_inv e
      obtain ⟨e, h3⟩ := ih e
      refine ⟨e, fun m hm => ?_⟩
      rcases List.mem_cons.1 hm with rfl | hm
      · exact ⟨fun _ => h2, fun h => absurd (beq2.1 h1) h⟩
      · exact h3 m hm
    · obtain ⟨v, e, h2⟩ := evF_inv e
      have hx : (∀ p, n.t.dst = some p → T.get p regs = some v) ∧ syncK s regs h nx k = some r := by
        cases hd : n.t.dst with
        | none => rw [hd] at e; exact ⟨fun p h => (by cases h), e⟩
        | some d =>
          rw [hd] at e
          obtain ⟨u, hu, e⟩ := optK_inv e
          obtain ⟨h3, e9⟩ := boolK_inv e
          have := vsameV_eq h3
          subst this
          exact ⟨fun p h => (by cases h; exact hu), e9⟩
      obtain ⟨e, h3⟩ := ih hx.2
      refine ⟨e, fun m hm => ?_⟩
      rcases List.mem_cons.1 hm with rfl | hm
      · exact ⟨fun h => absurd h (beq2f.1 h1), fun _ => ⟨v, hx.1, h2⟩⟩
      · exact h3 m hm
/-- The temporaries of a list alone. -/
noncomputable def restr (regs : Regs) : List Opd → Regs
  | [] => .nil
  | .r p :: l => T.put (T.get p regs) p (restr regs l)
  | .c _ :: l => restr regs l
theorem restr_get (regs : Regs) : ∀ (l : List Opd) (p : P), (Opd.r p ∈ l → T.get p (restr regs l) = T.get p regs) ∧ ∀ v, T.get p (restr regs l) = some v → Opd.r p ∈ l ∧ T.get p regs = some v := by
  intro l
  induction l with
  | nil => intro p; exact ⟨fun h => by simp at h, fun v h => by simp only [restr, T.get_nil] at h; cases h⟩
  | cons x l ih =>
    intro p
    cases x with
    | c v => exact ⟨fun h => (ih p).1 (by simpa using h), fun v h => ⟨by have := ((ih p).2 v h).1; simp [this], ((ih p).2 v h).2⟩⟩
    | r q =>
      by_cases hq : q = p
      · subst hq
        exact ⟨fun _ => by simp only [restr, T.get_put_same], fun v h => ⟨by simp, by simpa only [restr, T.get_put_same] using h⟩⟩
      · refine ⟨fun h => ?_, fun v h => ?_⟩
        · simp only [restr]; rw [T.get_put_ne _ _ _ _ hq]
          exact (ih p).1 (by
            rcases List.mem_cons.1 h with h | h
            · cases h; exact absurd rfl hq
            · exact h)
        · simp only [restr] at h; rw [T.get_put_ne _ _ _ _ hq] at h
          exact ⟨List.mem_cons_of_mem _ ((ih p).2 v h).1, ((ih p).2 v h).2⟩
end
end Go.Gb
end
section
/-! Drawn regions: what waits is carried out, one by one. -/
set_option linter.unusedSimpArgs false
set_option linter.unusedVariables false
set_option linter.unusedSectionVars false
namespace Go.Gb
open Go.Conc
section
variable {P : Program} {N0 : Nat} {mla : Addr} {ml : Gl} {θ : Th} {Post : Value → World → Prop} {E : Env}
variable {cs : List Fr} {h : Heap} {nx : Gb.P} {io : AIo} {r : Rs} {fn : Gb.P} {nt : Nat} {regs : Regs} {k : List AIt} {ds : List ATgt} {dfd : Bool} {rd : Option Gb.P} {ops : Array Oper} {l l2 : List DOp} {s : List Nd}
/-- What was made ahead comes to lie in a new block. -/
theorem AR.place {vt : Vt} {σ : Sg} {own : Own} {n0 : Nat} {w : World} {id : Gb.P} {ob : Ob} {o : Obj} {rest : List Gb.P} (H : AR N0 mla ml vt σ h nx own n0 w) (hid : id ∈ vt.ids) (hob : T.get id h = some ob) (hhf : ∀ i ∈ rest, i ∈ vt.ids ∧ i ≠ id) (hz : ∀ p, p = (⟨w.heap.size, 0, 0⟩ : Pl) → ∀ σ', ObR ml σ' p ob o) (hfr : T.get id vt.hf = none) :
    ∃ σ', Sub σ σ' ∧ σ' id = some ⟨w.heap.size, 0, 0⟩ ∧ AR N0 mla ml ⟨rest, vt.hf⟩ σ' h nx own n0 { w with heap := w.heap.push o } := by
  have hnone := (H.vts id hid).1
  have sub : Sub σ (fun i => if i = id then some ⟨w.heap.size, 0, 0⟩ else σ i) := by
    intro i p hp
    have : i ≠ id := fun e => by rw [e, hnone] at hp; cases hp
    simp [this, hp]
  have cases' : ∀ i p, (if i = id then some (⟨w.heap.size, 0, 0⟩ : Pl) else σ i) = some p → (i = id ∧ p = ⟨w.heap.size, 0, 0⟩) ∨ (i ≠ id ∧ σ i = some p) := by
    intro i p hp
    by_cases e : i = id
    · simp [e] at hp; exact .inl ⟨e, hp.symm⟩
    · simp [e] at hp; exact .inr ⟨e, hp⟩
  have old : ∀ b, b < w.heap.size → (w.heap.push o)[b]? = w.heap[b]? := fun b hb => by rw [Array.getElem?_push, if_neg (by omega)]
  refine ⟨_, sub, by simp, ⟨?_, ?_, ?_, H.hlow, ?_, ?_, ?_, ?_, ?_, ?_, H.frl, ?_, ?_, H.apart⟩⟩
  · intro i p hp
    rcases cases' i p hp with ⟨_, rfl⟩ | ⟨_, hp⟩
    · simp
    · have := H.dom i p hp
      simp; omega
  · intro i p ob' hp hg
    rcases cases' i p hp with ⟨_, rfl⟩ | ⟨e, hp⟩
    · exact .inr ⟨H.n0le.2, by simp⟩
    · exact mine_mono (by simp) (H.has i p _ hp hg)
  · intro i p hp
    rcases cases' i p hp with ⟨rfl, _⟩ | ⟨_, hp⟩
    · exact (H.vts i hid).2
    · exact H.low i p hp
  · intro i i' p p' ob1 ob2 hp hp' h1 h2 hb
    rcases cases' i p hp with ⟨e, ep⟩ | ⟨e, hp⟩ <;> rcases cases' i' p' hp' with ⟨e', ep'⟩ | ⟨e', hp'⟩
    · rw [e, e']
    · have := H.dom _ _ hp'; rw [ep] at hb; simp at hb; omega
    · have := H.dom _ _ hp; rw [ep'] at hb; simp at hb; omega
    · exact H.inj i i' p p' _ _ hp hp' h1 h2 hb
  · intro i p ob' hp hg
    rcases cases' i p hp with ⟨rfl, rfl⟩ | ⟨e, hp⟩
    · rw [hob] at hg; cases hg
      exact ⟨o, by simp, hz _ rfl _⟩
    · obtain ⟨o', h3, h4⟩ := H.obs i p ob' hp hg
      exact ⟨o', by show (w.heap.push o)[p.bl]? = _; rw [old _ (H.dom i p hp)]; exact h3, h4.mono sub⟩
  · intro i hi
    obtain ⟨h1, h2⟩ := hhf i hi
    exact ⟨by simp [h2, (H.vts i h1).1], (H.vts i h1).2⟩
  · intro i p ob' hp hg
    rcases cases' i p hp with ⟨rfl, rfl⟩ | ⟨e, hp⟩
    · simp only at hg; rw [hfr] at hg; cases hg
    · obtain ⟨o', h3, h4⟩ := H.fr i p ob' hp hg
      exact ⟨o', by show (w.heap.push o)[p.bl]? = _; rw [old _ (H.dom i p hp)]; exact h3, h4.mono sub⟩
  · intro i i' p p' ob1 ob2 hp hp' h1 h2
    rcases cases' i p hp with ⟨rfl, rfl⟩ | ⟨e, hp⟩
    · simp only at h1; rw [hfr] at h1; cases h1
    · rcases cases' i' p' hp' with ⟨e', ep'⟩ | ⟨e', hp'⟩
      · intro hb
        have := H.dom _ _ hp; rw [ep'] at hb; simp at hb; omega
      · exact H.frx i i' p p' _ _ hp hp' h1 h2
  · intro i p ob' hp hg
    rcases cases' i p hp with ⟨rfl, rfl⟩ | ⟨e, hp⟩
    · simp only at hg; rw [hfr] at hg; cases hg
    · exact mine_mono (by simp) (H.fro i p ob' hp hg)
  · refine ⟨H.glob.1, ?_⟩
    have h1 := H.glob.2
    have h2 := H.n0le
    have h3 := H.glob.1
    unfold World.cell? at h1 ⊢
    show (match (w.heap.push o)[mla.block]? with | _ => _) = _
    rw [old _ (by omega)]; exact h1
  · exact ⟨H.n0le.1, by have := H.n0le.2; simp; omega⟩
/-- Whoever is used by the first in line does not wait. -/
theorem not_pend {ns : List Nd} {τ : List Nat} {m : Nd} (hns : NsOk P N0 mla ml nt ops.toList ns) (hlin : Lin ops.toList (m.i :: τ)) (hm : m ∈ ns) {l : List DOp} (hpl : PlanS ns l) {p : Gb.P} (hu : usesB m.t p = true) : ¬ Pend l (m.i :: τ) p := by
  rintro ⟨a, ha, hd⟩
  obtain ⟨h1, h2⟩ := sync1_mem hpl ha.1
  have hsep := hns.sep a h1 h2 p hd m hm
  by_cases hi : m.i = a.i
  · have := hsep.1 hi
    rw [hu] at this; cases this
  · have hb := (hsep.2 hi).2 hu
    exact hlin.head ((hns.node m hm).prec _ hb) ha.2.1
theorem anyL_of {α : Type} {f : α → Bool} : ∀ {l : List α} {x : α}, x ∈ l → f x = true → anyL f l = true := by
  intro l
  induction l with
  | nil => intro x h; simp at h
  | cons a l ih =>
    intro x hx hf
    show boolK (f a) true (anyL f l) = true
    rcases List.mem_cons.1 hx with rfl | hx
    · rw [hf]; rfl
    · cases f a with
      | true => rfl
      | false => exact ih hx hf
theorem uses_g {t : TOp} {p : Gb.P} {b : Bool} (h : t.g = some (p, b)) : usesB t p = true := by
  unfold usesB; rw [h]; simp only [pbeq_self]; rfl
theorem uses_i {t : TOp} {i : Ins} {p : Gb.P} (h : t.wh = .i i) (hp : Opd.r p ∈ insOpds i) : usesB t p = true := by
  unfold usesB
  rw [h]
  have : anyL (opdIs p) (insOpds i) = true := anyL_of hp (pbeq_self p)
  simp only [this]
  rw [boolK_eq]; simp
theorem uses_f {t : TOp} {x : Fx} {p : Gb.P} (h : t.wh = .f x) (hp : Opd.r p ∈ fxOpds x) : usesB t p = true := by
  unfold usesB
  rw [h]
  have : anyL (opdIs p) (fxOpds x) = true := anyL_of hp (pbeq_self p)
  simp only [this]
  rw [boolK_eq]; simp
/-- Behind the first in line, which waited. -/
theorem pend_next {ns : List Nd} {j : Nat} {τ : List Nat} {m : Nd} (hns : NsOk P N0 mla ml nt ops.toList ns) (D : DgR ns ops.toList l (j :: τ)) (hm : m ∈ sync1 l) (hj : m.i = j) (hx : j ∉ idxD l) : DgR ns ops.toList l τ ∧ (∀ a, PendN l τ a ↔ PendN l (j :: τ) a ∧ a ≠ m) := by
  have hnd := List.nodup_cons.1 D.lin.nodup
  refine ⟨⟨D.lin.tail, D.plan, fun i hi => D.node i (by simp [hi]), fun i hi => D.cov i (by simp [hi]), fun i hi => ?_, D.nodup⟩, fun a => ⟨fun ha => ⟨⟨ha.1, by simp [ha.2.1], ha.2.2⟩, fun e => ?_⟩, fun ha => ⟨ha.1.1, ?_, ha.1.2.2⟩⟩⟩
  · rcases List.mem_cons.1 (D.sub i hi) with rfl | h
    · exact absurd hi hx
    · exact h
  · subst e; rw [← hj] at hnd; exact hnd.1 ha.2.1
  · rcases List.mem_cons.1 ha.1.2.1 with h | h
    · exact absurd (hns.uniq a (sync1_mem D.plan ha.1.1).1 m (sync1_mem D.plan hm).1 (by rw [h, hj])) ha.2
    · exact h
end
end Go.Gb
end
