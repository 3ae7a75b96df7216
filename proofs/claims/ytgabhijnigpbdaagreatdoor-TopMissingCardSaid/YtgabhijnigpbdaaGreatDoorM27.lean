/- A part of the proof of the statement Rows.TopMissingCardSaid (at every argument the law returns true on every schedule, and its argument reads as before; the listed variables as laid). This text: a stepper over symbolic states of the translated program and its soundness, part 27 of 41. -/
import Derived.Test.YtgabhijnigpbdaaGreatDoorM26
section
/-! Ranging over a map. -/
set_option linter.unusedSimpArgs false
set_option linter.unusedVariables false
set_option linter.unusedSectionVars false
namespace Go.Gb
open Go.Conc
theorem forkK_inv {id m : Gb.P} {since clk : Nat} {seen : List Nat} {h : Heap} {top : Fr} {cs : List Fr} {nx : Gb.P} {io : AIo} : ∀ {l : List (V × V × Nat)} {k : List Cfg → OR} {r : Rs}, forkK id m since clk seen l h (fun v h k => finK v top fun top => k ⟨top, cs, h, nx, io⟩) k = some r →
    ∃ L, k L = some r ∧ ∀ e ∈ l, ∃ fr', (∀ k' : Fr → OR, finK (.tup [.bool true, e.1, e.2.1]) top k' = k' fr') ∧ (⟨fr', cs, T.put (some (.mit (some m) since (seen ++ [e.2.2]) clk)) id h, nx, io⟩ : Cfg) ∈ L := by
  intro l
  induction l with
  | nil => intro k r e; exact ⟨[], e, by simp⟩
  | cons x l ih =>
    intro k r e
    replace e : stepMK id m since clk seen x h (fun v h' => finK v top fun t2 => forkK id m since clk seen l h (fun v h k => finK v top fun top => k ⟨top, cs, h, nx, io⟩) fun l => k (⟨t2, cs, h', nx, io⟩ :: l)) = some r := e
    unfold stepMK at e
    rw [lappK_eq, T.putK_eq] at e
    obtain ⟨fr', h1, e⟩ := finK_det e
    obtain ⟨L, e, h2⟩ := ih e
    refine ⟨_, e, fun e' he' => ?_⟩
    rcases List.mem_cons.1 he' with rfl | he'
    · exact ⟨fr', h1, by simp⟩
    · obtain ⟨fr2, g1, g2⟩ := h2 e' he'
      exact ⟨fr2, g1, by simp [g2]⟩
theorem EnR.mem {ml : Gl} {σ : Sg} : ∀ {l : List (V × V × Nat)} {xs : List MapEntry} {y : MapEntry}, EnR ml σ l xs → y ∈ xs → ∃ e ∈ l, VR ml σ e.1 y.key ∧ VR ml σ e.2.1 y.val ∧ y.born = e.2.2
  | [], [], y, h, hy => by simp at hy
  | [], x :: xs, y, h, hy => h.elim
  | e :: l, [], y, h, hy => h.elim
  | e :: l, x :: xs, y, h, hy => by
    rcases List.mem_cons.1 hy with rfl | hy
    · exact ⟨e, by simp, h.1⟩
    · obtain ⟨e', h1, h2⟩ := EnR.mem h.2 hy
      exact ⟨e', by simp [h1], h2⟩
section
variable {P : Program} {N0 : Nat} {mla : Addr} {ml : Gl} {θ : Th} {Post : Value → World → Prop} {E : Env}
variable {top : Fr} {cs : List Fr} {h : Heap} {nx : Gb.P} {io : AIo} {r : Rs}
theorem okay_nextM {it : Opd} (hat : Ats P N0 mla ml top (.nextM it)) {gk : GK} (e : fxK E gk (.nextM it) top cs h nx io = some r) (hr : Suc P N0 mla ml θ Post E r) : Okay P N0 mla ml θ Post ⟨top, cs, h, nx, io⟩ := by
  simp only [fxK] at e
  obtain ⟨v, hv, e⟩ := opdK_some e
  obtain ⟨id, ob, rfl, hob, e2⟩ := iterK_inv e
  refine okay_fx hat fun σ vt vs vss fr fs ops i τ k' oo own w hF' hfs H hm ht hk hvl hx => ?_
  generalize hop : oo.op = op at hx
  cases hx with
  | @nextM _ it' hi =>
    have h1 := opd_val (k := (some : V → O V)) (r := .nili) (hvl it (by simp [fxOpds])) hi hv
    obtain ⟨p, hp, hpy⟩ := vr_ptr h1
    refine ⟨.inr fun c h => (by cases h), fun nxt w' => ∃ (c' : Cfg) (σ' : Sg) (vs' : List Gb.P) (vss' : List (List Gb.P)) (f' : Frame) (fs' : List Frame), stepG.apply P true fr (fs ++ θ.outer) none (.pure nxt) w' = .go (G f' (fs' ++ θ.outer)) w' #[] ∧ vs' ++ vss'.flatten = vs ++ vss.flatten ∧
          Sub σ σ' ∧ FrR P N0 mla ml σ' vs' c'.top f' ∧ FrsR P N0 mla ml σ' vss' c'.cs fs' ∧ c'.io = io ∧ AR N0 mla ml vt σ' c'.h c'.nx own w.heap.size w' ∧ Okay P N0 mla ml θ Post c', ?_, fun nxt w' h => h⟩
    have ends : finK (.tup [.bool false]) top (fun top => some (.go ⟨top, cs, h, nx, io⟩)) = some r → ∃ (c' : Cfg) (σ' : Sg) (vs' : List Gb.P) (vss' : List (List Gb.P)) (f' : Frame) (fs' : List Frame), stepG.apply P true fr (fs ++ θ.outer) none (.pure (.value (.tuple #[.bool false]))) w = .go (G f' (fs' ++ θ.outer)) w #[] ∧ vs' ++ vss'.flatten = vs ++ vss.flatten ∧
          Sub σ σ' ∧ FrR P N0 mla ml σ' vs' c'.top f' ∧ FrsR P N0 mla ml σ' vss' c'.cs fs' ∧ c'.io = io ∧ AR N0 mla ml vt σ' c'.h c'.nx own w.heap.size w ∧ Okay P N0 mla ml θ Post c' := by
      intro e3
      obtain ⟨fr', e4, hfin, _⟩ := fin_rel hF' (v := .tup [.bool false]) (u := .tuple #[.bool false]) ⟨rfl, trivial⟩ e3
      cases e4
      exact ⟨⟨fr', cs, h, nx, io⟩, σ, vs, vss, _, fs, apply_value hk, rfl, Sub.refl _, hfin, hfs, rfl, H, hr⟩
    rcases e2 with ⟨a1, a2, a3, rfl, e3⟩ | ⟨m, since, seen, stepped, es, clk, rfl, hmm, hss, e3⟩
    · obtain ⟨obj, hobj, hrr⟩ := H.obs id p _ hp hob
      have hown := H.has id p _ hp hob
      cases obj <;> simp only [ObR] at hrr
      obtain ⟨hsh, rfl⟩ := hrr
      unfold execOp
      simp only [hop, hpy, hsh, Instr.next]
      rw [SW_bind]
      show SW P N0 own _ (getObj p.bl >>= _) w _
      rw [SW_bind]
      refine SW_getObj hobj trivial hown ?_
      exact ends e3
    · obtain ⟨q, xs, seen', i1, i2, i3, i4, i5, i6, i7, i8⟩ := iter_at H hp hob hmm
      obtain ⟨l, l1, l2, l3⟩ := leftK_inv es xs.toList i8 e3
      subst i5
      obtain ⟨hsc, l4⟩ := boolK_inv l3
      have one : ∀ (y : MapEntry) (d : Nat) (e0 : V × V × Nat) (fr' : Fr), (VR ml σ e0.1 y.key ∧ VR ml σ e0.2.1 y.val ∧ y.born = e0.2.2) → (∀ k' : Fr → OR, finK (.tup [.bool true, e0.1, e0.2.1]) top k' = k' fr') →
          Okay P N0 mla ml θ Post ⟨fr', cs, T.put (some (.mit (some m) since (seen'.toList ++ [e0.2.2]) clk)) id h, nx, io⟩ →
          ∃ (c' : Cfg) (σ' : Sg) (vs' : List Gb.P) (vss' : List (List Gb.P)) (f' : Frame) (fs' : List Frame), stepG.apply P true fr (fs ++ θ.outer) none (.pure (.value (.tuple #[.bool true, y.key, y.val]))) { w with drawn := d, heap := w.heap.setIfInBounds p.bl (.mapIter (some q.bl) since (seen'.push y.born) clk) } = .go (G f' (fs' ++ θ.outer)) { w with drawn := d, heap := w.heap.setIfInBounds p.bl (.mapIter (some q.bl) since (seen'.push y.born) clk) } #[] ∧ vs' ++ vss'.flatten = vs ++ vss.flatten ∧
          Sub σ σ' ∧ FrR P N0 mla ml σ' vs' c'.top f' ∧ FrsR P N0 mla ml σ' vss' c'.cs fs' ∧ c'.io = io ∧ AR N0 mla ml vt σ' c'.h c'.nx own w.heap.size { w with drawn := d, heap := w.heap.setIfInBounds p.bl (.mapIter (some q.bl) since (seen'.push y.born) clk) } ∧ Okay P N0 mla ml θ Post c' := by
        intro y d e0 fr' he hdet hok
        obtain ⟨fr2, e4, hfin, _⟩ := fin_rel hF' (v := .tup [.bool true, e0.1, e0.2.1]) (u := .tuple #[.bool true, y.key, y.val]) ⟨rfl, he.1, he.2.1, trivial⟩ (k := fun f => some (.go ⟨f, [], .nil, .z, .solo⟩)) (hdet _)
        cases e4
        refine ⟨⟨fr', cs, _, nx, io⟩, σ, vs, vss, _, fs, apply_value hk, rfl, Sub.refl _, hfin, hfs, rfl, ?_, hok⟩
        exact AR.drawn (d := d) (obj_put H hp hob i3 (ob' := .mit (some m) since (seen'.toList ++ [e0.2.2]) clk) (obj' := .mapIter (some q.bl) since (seen'.push y.born) clk) (by
          simp only [ObR]
          exact ⟨i2, ⟨q, i1, rfl⟩, trivial, trivial, by simp [he.2.2]⟩))
      refine next_map (by rw [hpy, i2]) i3 i4 i6 i7 hss l2 (fun h0 => ?_) (fun y d hy hd => ?_) hop
      · rw [h0] at l1
        cases l with
        | nil => exact ends l4
        | cons => exact l1.elim
      · generalize (xs.toList.filter fun e => !seen'.toList.contains e.born) = fl at *
        obtain ⟨e0, he0, hre⟩ := EnR.mem l1 hy
        match l, l4, he0 with
        | [e1], l4, he0 =>
          have : e0 = e1 := by simpa using he0
          subst this
          replace l4 : stepMK id m since clk seen'.toList e0 h (fun v h => finK v top fun top => some (.go ⟨top, cs, h, nx, io⟩)) = some r := l4
          unfold stepMK at l4
          rw [lappK_eq, T.putK_eq] at l4
          obtain ⟨fr', hdet, l5⟩ := finK_det l4
          cases l5
          exact one y d e0 fr' hre hdet hr
        | e1 :: e2 :: l, l4, he0 =>
          replace l4 : forkK id m since clk seen'.toList (e1 :: e2 :: l) h (fun v h k => finK v top fun top => k ⟨top, cs, h, nx, io⟩) (fun l => some (.fork l)) = some r := l4
          obtain ⟨L, l5, hL⟩ := forkK_inv l4
          cases l5
          obtain ⟨fr', hdet, hmem⟩ := hL e0 he0
          exact one y d e0 fr' hre hdet (hr _ hmem)
end
end Go.Gb
end
section
/-! A worker is sent out. -/
set_option linter.unusedSimpArgs false
set_option linter.unusedVariables false
set_option linter.unusedSectionVars false
namespace Go.Gb
open Go.Conc
/-- The record of a goroutine that is born. -/
def born (P : Program) (g : Nat) (us : Array Value) : Goroutine := G { (default : Frame) with fn := P.funcs.size, defers := [{ target := .fn (.func g) #[], args := us }], mode := .panicking [goexitEntry] } []
def two (c e : Gb.P) (pc pe : Pl) : Sg := fun id => if id = c then some pc else if id = e then some pe else none
section
variable (P : Program) (N0 : Nat) (mla : Addr) (ml : Gl) (Post : Value → World → Prop) (E : Env)
structure GkOk (gk : GK) : Prop where
  sub : SubOk P N0 mla ml Post E gk.sub
  ok : ∀ (g : Gb.P) (s : V) (c e nx : Gb.P) (k : List M → Gb.P → OR) (r : Rs), gk.go g [s, .chan c, .chan e] nx k = some r → ∃ ms nx', k ms nx' = some r ∧ ∀ (pc pe : Pl) (us : Array Value) (w : World), c ≠ e → c.toNat < nx.toNat → e.toNat < nx.toNat → pc.bl < w.heap.size → pe.bl < w.heap.size →
    plainV s = true → VRL ml (two c e pc pe) [s, .chan c, .chan e] us.toList → mla.block < N0 → w.cell? mla = some (.int .i64 ml.val) → N0 ≤ w.heap.size → Beh P N0 (MsgR N0 ml) Post (.work pc.bl pe.bl ms) (fun _ => False) (born P g.toNat us) w
end
theorem freshIds_inv {C : Type} {lo hi : Gb.P} : ∀ {l : List (Gb.P × Ob)} {s : T Bool} {k : T Bool → O C} {r : C}, freshIds lo hi l s k = some r → ∃ s', k s' = some r ∧ (l.map (·.1)).Nodup ∧ (∀ id ∈ l.map (·.1), T.get id s = none ∧ T.get id s' ≠ none ∧ lo.toNat ≤ id.toNat ∧ id.toNat < hi.toNat) ∧ (∀ id, T.get id s ≠ none → T.get id s' ≠ none) := by
  intro l
  induction l with
  | nil => intro s k r e; exact ⟨s, e, by simp, by simp, fun id h => h⟩
  | cons x l ih =>
    intro s k r e
    replace e : boolK (Nat.ble lo.toNat x.1.toNat && Nat.blt x.1.toNat hi.toNat) (optK (T.get x.1 s) (T.putK (some true) x.1 s fun s => freshIds lo hi l s k) fun _ => none) none = some r := e
    obtain ⟨h1, e⟩ := boolK_inv e
    cases hg : T.get x.1 s with
    | some b => rw [hg] at e; cases e
    | none =>
      rw [hg] at e
      replace e : T.putK (some true) x.1 s (fun s => freshIds lo hi l s k) = some r := e
      rw [T.putK_eq] at e
      obtain ⟨s', e, h2, h3, h4⟩ := ih e
      simp only [Bool.and_eq_true] at h1
      have hlo := Nat.le_of_ble_eq_true h1.1
      have hhi : x.1.toNat < hi.toNat := Nat.le_of_ble_eq_true h1.2
      refine ⟨s', e, ?_, fun id hid => ?_, fun id hid => ?_⟩
      · refine List.nodup_cons.2 ⟨fun hm => ?_, h2⟩
        have := (h3 _ hm).1
        rw [T.get_put_same] at this; cases this
      · rcases List.mem_cons.1 hid with rfl | hid
        · exact ⟨hg, h4 _ (by rw [T.get_put_same]; simp), hlo, hhi⟩
        · obtain ⟨a, b, c, d⟩ := h3 id hid
          have hne : x.1 ≠ id := fun e => by rw [← e, T.get_put_same] at a; cases a
          rw [T.get_put_ne _ _ _ _ hne] at a
          exact ⟨a, b, c, d⟩
      · by_cases hne : x.1 = id
        · subst hne; exact h4 _ (by rw [T.get_put_same]; simp)
        · exact h4 id (by rw [T.get_put_ne _ _ _ _ hne]; exact hid)
theorem freshMs_inv {C : Type} {lo hi : Gb.P} : ∀ {ms : List M} {s : T Bool} {k : O C} {r : C}, freshMs lo hi ms s k = some r → k = some r ∧ (ms.flatMap fun m => m.2.map (·.1)).Nodup ∧ ∀ id ∈ ms.flatMap (fun m => m.2.map (·.1)), T.get id s = none ∧ lo.toNat ≤ id.toNat ∧ id.toNat < hi.toNat := by
  intro ms
  induction ms with
  | nil => intro s k r e; exact ⟨e, by simp, by simp⟩
  | cons m ms ih =>
    intro s k r e
    replace e : freshIds lo hi m.2 s (fun s => freshMs lo hi ms s k) = some r := e
    obtain ⟨s', e, h1, h2, h3⟩ := freshIds_inv e
    obtain ⟨e, h4, h5⟩ := ih e
    rw [List.flatMap_cons]
    refine ⟨e, List.nodup_append.2 ⟨h1, h4, fun a ha b hb he => ?_⟩, fun id hid => ?_⟩
    · subst he
      have := (h2 a ha).2.1
      exact this (h5 a hb).1
    · rcases List.mem_append.1 hid with hid | hid
      · exact ⟨(h2 id hid).1, (h2 id hid).2.2⟩
      · refine ⟨?_, (h5 id hid).2⟩
        exact Classical.byContradiction fun hne => h3 id hne (h5 id hid).1
section
variable {P : Program} {N0 : Nat} {mla : Addr} {ml : Gl} {θ : Th} {Post : Value → World → Prop} {E : Env}
variable {top : Fr} {cs : List Fr} {h : Heap} {nx : Gb.P} {io : AIo} {r : Rs}
theorem apply_spawn {f : Frame} {cs : List Frame} {w : World} (hk : f.kind ≠ .early) {g : Nat} {us : Array Value} : stepG.apply P true f cs none (.pure (.spawn { target := .fn (.func g) #[], args := us })) w = .spawn (G (f.finish undef) cs) (born P g us) w #[] := by
  have hk' : (f.kind == CallKind.early) = false := by simpa using hk
  unfold stepG.apply
  simp [Sem.runT, seen_none, after_none, hk', G, born]
theorem vrl_nil {σ : Sg} {xs : Array Value} (h : VRL ml σ [] xs.toList) : xs = #[] := by
  cases hx : xs.toList with
  | nil => exact Array.toList_eq_nil_iff.1 hx
  | cons x l => rw [hx] at h; exact h.elim
theorem okay_go {gk : GK} (hgk : GkOk P N0 mla ml Post E gk) {f : Opd} {args : List Opd} (hat : Ats P N0 mla ml top (.go f args)) (e : fxK E gk (.go f args) top cs h nx io = some r) (hr : Suc P N0 mla ml θ Post E r) : Okay P N0 mla ml θ Post ⟨top, cs, h, nx, io⟩ := by
  simp only [fxK] at e
  obtain ⟨fv, hfv, e⟩ := opdK_some e
  obtain ⟨vs0, hvs, e⟩ := opdsK_inv e
  split at e
  case h_2 => cases e
  rename_i g0 s c ec e0 e1
  clear e0 e1
  split at e
  case isTrue => cases e
  rename_i hce
  obtain ⟨hpl, e⟩ := boolK_inv e
  replace e : getOb (C := Rs) c h _ = some r := e
  obtain ⟨oc, hoc, e⟩ := getOb_inv e
  replace e : getOb (C := Rs) ec h _ = some r := e
  obtain ⟨oe, hoe, e⟩ := getOb_inv e
  split at e
  case h_2 => cases e
  obtain ⟨g, hg, e2⟩ := pK_inv e
  subst hg
  clear e
  obtain ⟨ms, nx', e3, hwork⟩ := hgk.ok g s c ec nx _ r e2
  clear e2
  obtain ⟨hnn, e4⟩ := boolK_inv e3
  clear e3
  obtain ⟨e5, hnd, hfr⟩ := freshMs_inv e4
  clear e4
  rw [T.putK_eq, T.putK_eq] at e5
  have hnn : nx.toNat ≤ nx'.toNat := Nat.le_of_ble_eq_true hnn
  intro io' own g1 w hc
  refine comm_at (Q := fun _ _ _ _ _ _ _ _ => True) (fun h => by cases h) hat hc fun σ vt vs vss ids f1 fs w1 a hg S hk oo hv hx hst => ?_
  generalize hop : oo.op = op at hx
  cases hx with
  | @go cl _ f' _ hcl hf ha =>
    have h1 := opd_val (k := (some : V → O V)) (r := .nili) (hv f (by simp [fxOpds])) hf hfv
    have h2 := args_val (fun y hy => hv y (by simp [fxOpds, hy])) ha hvs
    generalize hff : (⟨f1.tmps, f1.defers⟩ : Act).eval f' = uf at h1
    cases uf <;> simp only [VR] at h1
    rename_i g1 first1 caps1
    obtain ⟨rfl, _, h3, h4⟩ := h1
    have := vrl_nil h3
    subst this
    have := vrl_nil h4
    subst this
    generalize hus : cl.args.map (Act.eval ⟨f1.tmps, f1.defers⟩) = us at h2
    have hstill : Still P (execOp (Act.eval ⟨f1.tmps, f1.defers⟩) oo) (.spawn { target := .fn (.func g.toNat) #[], args := us }) := by
      unfold execOp
      simp only [hop, resolve, hcl, hff, Deferred.ofValue, hus]
      have : (#[] ++ us : Array Value) = us := by simp
      rw [this]
      exact Still.pure
    have hstep : stepG P true (G f1 (fs ++ θ.outer)) w1 = .spawn (G (f1.finish undef) (fs ++ θ.outer)) (born P g.toNat us) w1 #[] := by
      rw [hst _ (fun c h => by rw [hop] at h; cases h) hstill true, apply_spawn hk]
    have hio := S.io
    generalize hioe : (⟨top, cs, h, nx, AIo.solo⟩ : Cfg).io = ioe at hio
    cases hio with
    | duo => cases hioe
    | work => cases hioe
    | off => cases hioe
    | solo hids hz =>
      obtain ⟨ul⟩ := us
      match ul, h2, hwork, hstep with
      | [us0, u1, u2], h2, hwork, hstep =>
        obtain ⟨q0, q1, q2, _⟩ := id h2
        obtain ⟨pc, hpc, rfl⟩ := vr_chan q1
        obtain ⟨pe, hpe, rfl⟩ := vr_chan q2
        have H := S.ar
        obtain ⟨o1, ho1, hr1⟩ := H.obs c pc _ hpc hoc
        obtain ⟨o2, ho2, hr2⟩ := H.obs ec pe _ hpe hoe
        have hw1 := mine_self.1 (H.has c pc _ hpc hoc)
        have hw2 := mine_self.1 (H.has ec pe _ hpe hoe)
        cases o1 <;> simp only [ObR] at hr1
        cases o2 <;> simp only [ObR] at hr2
        obtain ⟨rfl, rfl, rfl, rfl, rfl, hb1⟩ := hr1
        obtain ⟨rfl, rfl, rfl, rfl, rfl, hb2⟩ := hr2
        have := vrl_nil hb1
        subst this
        have := vrl_nil hb2
        subst this
        have hbl : pc.bl ≠ pe.bl := fun e => hce (H.inj c ec pc pe _ _ hpc hpe hoc hoe e)
        have t2 : ∀ id ob, T.get id (T.put none ec (T.put none c h)) = some ob → id ≠ c ∧ id ≠ ec ∧ T.get id h = some ob := by
          intro id ob hg
          have n1 : ec ≠ id := fun e => by subst e; rw [T.get_put_same] at hg; cases hg
          rw [T.get_put_ne _ _ _ _ n1] at hg
          have n2 : c ≠ id := fun e => by subst e; rw [T.get_put_same] at hg; cases hg
          rw [T.get_put_ne _ _ _ _ n2] at hg
          exact ⟨Ne.symm n2, Ne.symm n1, hg⟩
        obtain ⟨fr', e6, hfin, _⟩ := fin_rel S.top (v := .tup []) (u := undef) trivial e5
        cases e6
        have hvh : vt.hf = .nil := by rw [S.hf]; exact hz.1
        refine .spawn (own' := fun b => own b ∧ b ≠ pc.bl ∧ b ≠ pe.bl) (ownc := fun _ => False) (c := pc.bl) (e := pe.bl) (ms := ms) hstep rfl rfl ⟨rfl, rfl, rfl, Nat.le_refl _, fun _ _ _ => rfl, fun b hb => ?_, fun b hb => .inl hb, by simp, by simp⟩ ho1 ho2 hbl (fun b hb => ⟨fun x => x, hb.2⟩) (fun b hb => hb.elim) (hr _ _ _ _ ?_) ?_
        · rcases hb with hb | hb | rfl | rfl
          · exact .inl hb.1
          · exact hb.elim
          · exact .inl hw1
          · exact .inl hw2
        · refine ⟨σ, ⟨vs ++ (vss.flatten ++ ((ms.flatMap fun m => m.2.map (·.1)) ++ θ.ov)), vt.hf⟩, vs, vss, _, _, fs, rfl, ⟨⟨H.dom, fun id p ob hp hob => .inl ⟨mine_self.1 (H.has id p ob hp (t2 _ _ hob).2.2), fun e => (t2 _ _ hob).1 (H.inj id c p pc _ _ hp hpc (t2 _ _ hob).2.2 hoc e), fun e => (t2 _ _ hob).2.1 (H.inj id ec p pe _ _ hp hpe (t2 _ _ hob).2.2 hoe e)⟩, fun id p hp => Nat.lt_of_lt_of_le (H.low id p hp) hnn, fun id ob hob => Nat.lt_of_lt_of_le (H.hlow id ob (t2 id ob hob).2.2) hnn,
            fun id id' p p' ob ob' hp hp' hob hob' hb => H.inj id id' p p' ob ob' hp hp' (t2 _ _ hob).2.2 (t2 _ _ hob').2.2 hb, fun id p ob hp hob => H.obs id p ob hp (t2 _ _ hob).2.2, fun id hid => ?_, fun id p ob hp hob => (by rw [hvh, T.get_nil] at hob; cases hob), fun id id' p p' ob ob' hp hp' hob hob' => (by rw [hvh, T.get_nil] at hob; cases hob), fun id p ob hp hob => (by rw [hvh, T.get_nil] at hob; cases hob), fun id ob hob => (by rw [hvh, T.get_nil] at hob; cases hob), H.glob, H.n0le, fun b hb => H.apart b hb.1⟩,
            hfin, S.cs, .duo hpc rfl rfl hz, rfl, ?_, S.hf, S.kept, fun b hb => S.lt b hb.1⟩⟩
          · simp only [List.mem_append] at hid
            have old : id ∈ vt.ids → σ id = none ∧ id.toNat < nx'.toNat := fun hm => ⟨(H.vts id hm).1, Nat.lt_of_lt_of_le (H.vts id hm).2 hnn⟩
            rcases hid with hid | hid | hid | hid
            · exact old (by rw [S.vids]; simp [hid])
            · exact old (by rw [S.vids]; simp only [List.mem_append]; exact .inr (.inl hid))
            · obtain ⟨_, j1, j2⟩ := hfr id hid
              refine ⟨?_, j2⟩
              cases hsg : σ id with
              | none => rfl
              | some p => have := H.low id p hsg; simp only at this; omega
            · exact old (by rw [S.vids]; simp only [List.mem_append]; exact .inr (.inr (.inr hid)))
          · have hp : ((ms.flatMap fun m => m.2.map (·.1)) ++ (vs ++ (vss.flatten ++ θ.ov))).Perm (vs ++ (vss.flatten ++ ((ms.flatMap fun m => m.2.map (·.1)) ++ θ.ov))) :=
              (List.perm_append_comm_assoc ..).trans ((List.perm_append_comm_assoc ..).append_left _)
            refine hp.nodup_iff.1 (List.nodup_append.2 ⟨hnd, ?_, fun a ha b hb hab => ?_⟩)
            · have := S.nodup
              rw [S.vids, hids] at this
              exact this
            · subst hab
              obtain ⟨_, j1, _⟩ := hfr a ha
              have : a ∈ vt.ids := by rw [S.vids, hids]; exact hb
              have := (H.vts a this).2
              simp only at this
              omega
        · refine FBeh.of ?_ hz
          refine hwork pc pe ⟨[us0, .chan (some pc.bl), .chan (some pe.bl)]⟩ w1 hce (H.hlow _ _ hoc) (H.hlow _ _ hoe) (H.dom _ _ hpc) (H.dom _ _ hpe) hpl ?_ H.glob.1 H.glob.2 H.n0le.1
          refine ⟨VR.plain hpl q0, ⟨pc, by simp [two], rfl⟩, ⟨pe, by simp [two, Ne.symm hce], rfl⟩, trivial⟩
end
end Go.Gb
end
