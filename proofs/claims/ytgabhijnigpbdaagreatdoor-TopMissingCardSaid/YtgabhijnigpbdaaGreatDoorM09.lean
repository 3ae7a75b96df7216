/- A part of the proof of the statement Rows.TopMissingCardSaid (at every argument the law returns true on every schedule, and its argument reads as before; the listed variables as laid). This text: a stepper over symbolic states of the translated program and its soundness, part 9 of 41. -/
import Derived.Test.YtgabhijnigpbdaaGreatDoorM08
import Derived.Laws.Sem
section
/-! Operations, one by one: arithmetic; values built; strings and bytes. -/
set_option linter.unusedSimpArgs false
set_option linter.unusedVariables false
set_option linter.unusedSectionVars false
namespace Go.Gb
open Go.Conc
section
variable {C : Type} {P : Program} {N0 : Nat} {mla : Addr} {ml : Gl} {vt : Vt} {own : Own} {n0 : Nat}
variable {σ : Sg} {h : Heap} {nx : Gb.P} {w : World} {regs : Regs} {a : Act} {k : K C} {r : C} {o : Oper}
theorem vr_unk {i : Nat} {u : Value} (hv : VR ml σ (.unk i) u) : u = .int .i64 ml.val ∧ (i % 3 = 0 → ml.val < (i / 3 : Nat)) ∧ (i % 3 = 1 → (i / 3 : Nat) ≤ ml.val) := by simpa only [VR] using hv
theorem binK_rel {op : BinOp} {x y : V} {x' y' : Value} {t : TypeId} {k : V → O C} {r : C} {Q : Value → World → Prop} (hx : VR ml σ x x') (hy : VR ml σ y y') (e : binK op x y k = some r) (hQ : ∀ v u, VR ml σ v u → k v = some r → Q u w) :
    op ≠ .eql ∧ op ≠ .neq ∧ SW P N0 own n0 (binOp op t x' y') w Q := by
  have h1 : op ≠ .eql := by rintro rfl; cases e
  have h2 : op ≠ .neq := by rintro rfl; cases e
  refine ⟨h1, h2, ?_⟩
  have main : bin2K op x y k = some r := by
    cases op <;> first | exact absurd rfl h1 | exact absurd rfl h2 | exact e
  clear e
  cases x <;> cases y <;> simp only [bin2K, reduceCtorEq] at main
  · rename_i kd n kd' m
    rw [vr_int hx, vr_int hy]
    by_cases hs : op = .shl
    · subst hs; exact arith_shl main hQ
    by_cases hs' : op = .shr
    · subst hs'; exact arith_shr main hQ
    have main2 : boolK (kdeq kd kd') (arith op kd n m k) none = some r := by
      cases op <;> first | exact absurd rfl hs | exact absurd rfl hs' | exact main
    obtain ⟨hk, main3⟩ := boolK_inv main2
    have hk := kdeq_eq hk
    subst hk
    by_cases ho : op = .or
    · subst ho; exact arith_or main3 hQ
    by_cases ha : op = .and
    · subst ha; exact arith_and main3 hQ
    have hp : plainOp op = true := by
      cases op <;> first | rfl | exact absurd rfl hs | exact absurd rfl hs' | exact absurd rfl ho | exact absurd rfl ha | exact absurd rfl h1 | exact absurd rfl h2 | cases main3
    exact arith_rel hp main3 hQ
  · rename_i kd n i
    obtain ⟨rfl, hi0, hi1⟩ := vr_unk hy
    rw [vr_int hx]
    cases kd <;> cases n <;> simp only [reduceCtorEq] at main
    rename_i n
    cases op <;> simp only [reduceCtorEq] at main
    simp only [binOp, ne_eq, not_true_eq_false, if_false, Op.intCmp, SW_pure]
    rcases boolK_cases main with ⟨h0, main⟩ | ⟨h0, main⟩
    · obtain ⟨hb, main2⟩ := boolK_inv main
      have h1 : i % 3 = 0 := Nat.eq_of_beq_eq_true h0
      have h2 : i / 3 ≤ n := Nat.le_of_ble_eq_true hb
      have h3 := hi0 h1
      refine hQ _ _ ?_ main2
      simp only [VR]
      have : ¬ ((n : Int) ≤ ml.val) := by omega
      simp [this]
    · rcases boolK_cases main with ⟨h1, main⟩ | ⟨h1, main⟩
      · obtain ⟨hb, main2⟩ := boolK_inv main
        have h1 : i % 3 = 1 := Nat.eq_of_beq_eq_true h1
        have h2 : n ≤ i / 3 := Nat.le_of_ble_eq_true hb
        have h3 := hi1 h1
        refine hQ _ _ ?_ main2
        simp only [VR]
        have : ((n : Int) ≤ ml.val) := by omega
        simp
        omega
      · cases main
  rotate_left
  · rename_i kd m r1 kd' b
    rw [vr_int hy]
    cases x' <;> simp only [VR] at hx
    obtain ⟨rfl, rfl, hp1, hp2⟩ := hx
    cases b <;> simp only [reduceCtorEq] at main
    rename_i b
    cases op <;> simp only [reduceCtorEq] at main
    obtain ⟨hb, main2⟩ := boolK_inv main
    simp only [Bool.and_eq_true] at hb
    have hk := kdeq_eq hb.1
    subst hk
    have hm := Nat.eq_of_beq_eq_true hb.2.1
    subst hm
    have h0 : 0 < m := Nat.le_of_ble_eq_true hb.2.2
    have hne : ¬ ((Int.ofNat m) = 0) := by
      show ¬ ((m : Int) = 0)
      omega
    have hval : (Int.ofNat ml.par).tmod (Int.ofNat m) = Int.ofNat r1 := by
      show Int.tmod (ml.par : Int) (m : Int) = (r1 : Int)
      rw [← hp2]; rfl
    simp only [binOp, ne_eq, not_true_eq_false, if_false, Op.intArith, Op.intDiv, if_neg hne, hval, SW_pure]
    refine hQ _ _ ?_ main2
    simp [VR]
  · rename_i n N m M
    obtain ⟨s, rfl, hs⟩ := vr_str hx
    obtain ⟨s', rfl, hs'⟩ := vr_str hy
    by_cases hadd : op = .add
    · subst hadd; exact sarith_add hs hs' main hQ
    have ho : ordOp op = true := by
      cases op <;> first | rfl | exact absurd rfl hadd | exact absurd rfl h1 | exact absurd rfl h2 | cases main
    have := sarith_ord (P := P) (N0 := N0) (own := own) (n0 := n0) (w := w) (ml := ml) (σ := σ) ho hs hs' main hQ
    cases op <;> first | exact this | exact absurd rfl h1 | exact absurd rfl h2
variable (H : AR N0 mla ml vt σ h nx own n0 w) (hr : RegR ml σ regs a)
 include H hr
theorem snd_bin {op : BinOp} {x y : Opd} {x' y' : Operand} (hx : OpdR x x') (hy : OpdR y y') {t yt : TypeId} (ho : o.op = .binOp op t x' y' yt)
    (e : exec (.bin op x y) regs h nx k = some r) : SW P N0 own n0 (execOp a.eval o) w (Out N0 mla ml vt own n0 σ k r) := by
  replace e : hBin op x y regs h nx k = some r := e
  obtain ⟨u, hu, e1⟩ := opd_rel hr hx e
  obtain ⟨v, hv, e2⟩ := opd_rel hr hy e1
  obtain ⟨h1, h2, h3⟩ := binK_rel (P := P) (N0 := N0) (own := own) (n0 := n0) (t := t) (w := w) hu hv e2 (Q := fun u w => Out N0 mla ml vt own n0 σ k r (.value u) w) (fun v u hv hk => out_pure H hv hk)
  unfold execOp
  simp only [ho]
  rw [SW_bind, SW_bind]
  exact SW_guard' h1 h2 h3
theorem snd_gload {i : Nat} {t g : TypeId} (hg : mla = ⟨g, 0, none⟩) (hu : P.underlying t = some (.int .i64)) (hi : (i % 3 = 0 → ml.val < (i / 3 : Nat)) ∧ (i % 3 = 1 → (i / 3 : Nat) ≤ ml.val)) (ho : o.op = .load t (.global g))
    (e : exec (.gload i) regs h nx k = some r) : SW P N0 own n0 (execOp a.eval o) w (Out N0 mla ml vt own n0 σ k r) := by
  replace e : k (.unk i) h nx = some r := e
  unfold execOp
  simp only [ho, Act.eval, Instr.loadAt, Instr.sureAddr, loadVar]
  rw [SW_bind, SW_bind, SW_pure, SW_bind, SW_isAgg hu]
  obtain ⟨h1, h2⟩ := H.glob
  rw [hg] at h1 h2
  simp only [aggD, Bool.false_eq_true, if_false]
  refine SW_load (v := .int .i64 ml.val) h2 (.inr h1) ?_
  exact out_pure H (by simp only [VR]; exact ⟨trivial, hi⟩) e
end
end Go.Gb
end
section
/-! Operations, one by one: values built. -/
set_option linter.unusedSimpArgs false
set_option linter.unusedVariables false
set_option linter.unusedSectionVars false
namespace Go.Gb
open Go.Conc
theorem fold_write (off : Nat) : ∀ (l : List Value) (j : Nat) (cs : Array Value), off + j + l.length ≤ cs.size →
    ((l.zipIdx j).foldl (fun cs p => cs.setIfInBounds (off + p.2) p.1) cs).toList = cs.toList.take (off + j) ++ l ++ cs.toList.drop (off + j + l.length)
  | [], j, cs, h => by simp
  | v :: l, j, cs, h => by
    simp only [List.length_cons] at h
    simp only [List.zipIdx_cons, List.foldl_cons]
    rw [fold_write off l (j + 1) _ (by simp; omega)]
    simp only [Array.toList_setIfInBounds, List.length_cons]
    have e1 : (cs.toList.set (off + j) v).take (off + (j + 1)) = cs.toList.take (off + j) ++ [v] := by
      rw [show off + (j + 1) = (off + j) + 1 by omega, List.take_add_one, List.take_set_of_le (by omega)]
      simp [show off + j < cs.size by omega]
    have e2 : (cs.toList.set (off + j) v).drop (off + (j + 1) + l.length) = cs.toList.drop (off + j + (l.length + 1)) := by
      rw [List.drop_set_of_lt (by omega)]
      congr 1; omega
    rw [e1, e2]
    simp
theorem vrl_take {ml : Gl} {σ : Sg} (n : Nat) : ∀ {as : List V} {bs : List Value}, VRL ml σ as bs → VRL ml σ (as.take n) (bs.take n) := by
  induction n with
  | zero => intro as bs h; trivial
  | succ n ih =>
    intro as bs h
    match as, bs, h with
    | [], [], _ => trivial
    | _ :: as, _ :: bs, h => exact ⟨h.1, ih h.2⟩
theorem vrl_drop {ml : Gl} {σ : Sg} (n : Nat) : ∀ {as : List V} {bs : List Value}, VRL ml σ as bs → VRL ml σ (as.drop n) (bs.drop n) := by
  induction n with
  | zero => intro as bs h; exact h
  | succ n ih =>
    intro as bs h
    match as, bs, h with
    | [], [], _ => trivial
    | _ :: as, _ :: bs, h => exact ih h.2
theorem vrl_append {ml : Gl} {σ : Sg} : ∀ {as cs : List V} {bs ds : List Value}, VRL ml σ as bs → VRL ml σ cs ds → VRL ml σ (as ++ cs) (bs ++ ds)
  | [], _, [], _, _, h => h
  | _ :: as, _, _ :: bs, _, h, h' => ⟨h.1, vrl_append h.2 h'⟩
section
variable {C : Type} {P : Program} {N0 : Nat} {mla : Addr} {ml : Gl} {vt : Vt} {own : Own} {n0 : Nat}
variable {σ : Sg} {h : Heap} {nx : Gb.P} {w : World} {regs : Regs} {a : Act} {k : K C} {r : C} {o : Oper}
/-- The parts of a value that is built. -/
def PartsR (place : Nat → Option (Nat × Nat)) : List (Nat × Nat × Opd) → List (Nat × Operand) → Prop
  | [], [] => True
  | p :: ps, q :: qs => place q.1 = some (p.1, p.2.1) ∧ OpdR p.2.2 q.2 ∧ PartsR place ps qs
  | _, _ => False
theorem fillK_rel {place : Nat → Option (Nat × Nat)} (hr : RegR ml σ regs a) : ∀ (ps : List (Nat × Nat × Opd)) (qs : List (Nat × Operand)) (z : List V) (zs : Array Value) (k : List V → O C) (r : C), PartsR place ps qs → VRL ml σ z zs.toList → (∀ x ∈ zs.toList, OneCell x) →
    fillK z ps regs k = some r → ∃ cs xs, Instr.fill place zs (qs.map fun q => (q.1, a.eval q.2)) = some xs ∧ VRL ml σ cs xs.toList ∧ (∀ x ∈ xs.toList, OneCell x) ∧ k cs = some r := by
  intro ps
  induction ps with
  | nil =>
    intro qs z zs k r hp hz h1 e
    cases qs with
    | nil => exact ⟨z, zs, rfl, hz, h1, e⟩
    | cons q qs => exact hp.elim
  | cons p ps ih =>
    intro qs z zs k r hp hz h1 e
    cases qs with
    | nil => exact hp.elim
    | cons q qs =>
      obtain ⟨off, s, o⟩ := p
      obtain ⟨hp1, hp2, hp3⟩ := hp
      replace e : opdK o regs (fun v => match v with | .tup _ => none | v => boolK (Nat.beq (llen (cellsV v) 0) s) (lwriteK off z (cellsV v) (fun z => fillK z ps regs k)) none) = some r := e
      obtain ⟨v, hv, e1⟩ := opd_rel hr hp2 e
      obtain ⟨hnt, e2⟩ := notup e1 rfl
      obtain ⟨hs, e3⟩ := boolK_inv e2
      obtain ⟨hc1, hc2⟩ := cells_rel hv hnt
      obtain ⟨hl, e4⟩ := lwriteK_inv _ _ _ _ _ e3
      have hs' : (a.eval q.2).cells.size = s := by
        have := Nat.eq_of_beq_eq_true hs
        rw [llen_eq, Nat.zero_add, hc1.length] at this
        simpa using this
      have hzl : z.length = zs.size := by rw [hz.length]; simp
      have hcl : (cellsV v).length = (a.eval q.2).cells.size := by rw [hc1.length]; simp
      have hfw := fold_write off (a.eval q.2).cells.toList 0 zs (by simp; omega)
      rw [Nat.add_zero] at hfw
      have hfold : ((a.eval q.2).cells.zipIdx.foldl (fun cs p => cs.setIfInBounds (off + p.2) p.1) zs).toList = zs.toList.take off ++ (a.eval q.2).cells.toList ++ zs.toList.drop (off + (a.eval q.2).cells.toList.length) := by
        rw [← hfw, ← Array.foldl_toList, Array.toList_zipIdx]
      have hlen : (cellsV v).length = (a.eval q.2).cells.toList.length := hc1.length
      obtain ⟨cs, xs, g1, g2, g3, g4⟩ := ih qs (z.take off ++ cellsV v ++ z.drop (off + (cellsV v).length)) ((a.eval q.2).cells.zipIdx.foldl (fun cs p => cs.setIfInBounds (off + p.2) p.1) zs) k r hp3
        (by rw [hfold, hlen]; exact vrl_append (vrl_append (vrl_take _ hz) hc1) (vrl_drop _ hz))
        (by
          rw [hfold]
          intro x hx
          simp only [List.mem_append] at hx
          rcases hx with (hx | hx) | hx
          · exact h1 x (List.mem_of_mem_take hx)
          · exact hc2 x hx
          · exact h1 x (List.mem_of_mem_drop hx)) e4
      refine ⟨cs, xs, ?_, g2, g3, g4⟩
      simp only [List.map_cons, Instr.fill, hp1]
      rw [if_neg]
      · exact g1
      · simp only [Bool.or_eq_true, bne_iff_ne, ne_eq, decide_eq_true_eq, not_or, Decidable.not_not]
        exact ⟨hs', by omega⟩
end
end Go.Gb
end
section
/-! Operations, one by one: structs, arrays, slices built; slices made. -/
set_option linter.unusedSimpArgs false
set_option linter.unusedVariables false
set_option linter.unusedSectionVars false
namespace Go.Gb
open Go.Conc
section
variable {C : Type} {P : Program} {N0 : Nat} {mla : Addr} {ml : Gl} {vt : Vt} {own : Own} {n0 : Nat}
variable {σ : Sg} {h : Heap} {nx : Gb.P} {w : World} {regs : Regs} {a : Act} {k : K C} {r : C} {o : Oper}
/-- The places of a struct's fields. -/
def Places (P : Program) : List Field → List (Nat × Nat) → Prop
  | [], [] => True
  | f :: fs, p :: ps => p.1 = f.offset ∧ (∃ i, P.info? f.type = some i ∧ p.2 = i.size) ∧ Places P fs ps
  | _, _ => False
theorem SW_places {Q : List (Nat × Nat) → World → Prop} : ∀ (fs : List Field) (ps : List (Nat × Nat)), Places P fs ps → ∀ {Q : List (Nat × Nat) → World → Prop}, Q ps w →
    SW P N0 own n0 (fs.mapM fun f => do pure (f.offset, ← sizeOf f.type)) w Q
  | [], [], _, Q, hq => by simpa using hq
  | f :: fs, p :: ps, hp, Q, hq => by
    obtain ⟨h1, ⟨i, h2, h3⟩, h4⟩ := hp
    rw [List.mapM_cons, SW_bind, SW_bind, SW_sizeOf h2, SW_pure, SW_bind]
    refine SW_places (Q := Q) fs ps h4 ?_
    rw [SW_pure, ← h1, ← h3]
    exact hq
theorem map_parts (ps : Array (Nat × Operand)) : (ps.map fun q => (q.1, a.eval q.2)).toList = ps.toList.map fun q => (q.1, a.eval q.2) := by simp
variable (H : AR N0 mla ml vt σ h nx own n0 w) (hr : RegR ml σ regs a)
 include H hr
theorem snd_buildS {t : TypeId} {fs : Array Field} {i : TypeInfo} {z : Value} {zs : List V} {pl : List (Nat × Nat)} {ps : List (Nat × Nat × Opd)} {qs : Array (Nat × Operand)} (ht : P.underlying t = some (.struct fs)) (hi : P.info? t = some i) (hz : i.zero = some z)
    (hzs : ∀ σ, VRL ml σ zs z.cells.toList) (h1 : ∀ x ∈ z.cells.toList, OneCell x) (hpl : Places P fs.toList pl) (hp : PartsR (pl[·]?) ps qs.toList) (ho : o.op = .build t qs)
    (e : exec (.build zs ps) regs h nx k = some r) : SW P N0 own n0 (execOp a.eval o) w (Out N0 mla ml vt own n0 σ k r) := by
  replace e : hBuild zs ps regs h nx k = some r := e
  obtain ⟨cs, xs, g1, g2, g3, g4⟩ := fillK_rel hr ps qs.toList zs z.cells _ r hp (hzs σ) h1 e
  unfold execOp
  simp only [ho, Instr.build]
  rw [SW_bind, SW_bind, SW_zeroValue hi hz, SW_bind, SW_underlying ht]
  simp only [Array.mapM_eq_mapM_toList]
  rw [SW_bind, ← bind_pure_comp, SW_bind]
  refine SW_places (Q := fun _ _ => True) fs.toList pl hpl ?_
  rw [SW_pure]
  have g1' : Instr.fill (fun x => pl.toArray[x]?) z.cells (qs.map fun q => (q.1, a.eval q.2)).toList = some xs := by
    rw [map_parts]
    simpa using g1
  simp only [g1', SW_pure]
  exact out_pure H (v := .agg cs) (by simp only [VR]; exact ⟨g2, g3⟩) g4
theorem snd_buildA {t el : TypeId} {n : Nat} {i ei : TypeInfo} {z : Value} {zs : List V} {ps : List (Nat × Nat × Opd)} {qs : Array (Nat × Operand)} (ht : P.underlying t = some (.array n el)) (hi : P.info? t = some i) (hz : i.zero = some z)
    (hzs : ∀ σ, VRL ml σ zs z.cells.toList) (h1 : ∀ x ∈ z.cells.toList, OneCell x) (he : P.info? el = some ei) (hp : PartsR (fun i => some (i * ei.size, ei.size)) ps qs.toList) (ho : o.op = .build t qs)
    (e : exec (.build zs ps) regs h nx k = some r) : SW P N0 own n0 (execOp a.eval o) w (Out N0 mla ml vt own n0 σ k r) := by
  replace e : hBuild zs ps regs h nx k = some r := e
  obtain ⟨cs, xs, g1, g2, g3, g4⟩ := fillK_rel hr ps qs.toList zs z.cells _ r hp (hzs σ) h1 e
  unfold execOp
  simp only [ho, Instr.build]
  rw [SW_bind, SW_bind, SW_zeroValue hi hz, SW_bind, SW_underlying ht, SW_bind, SW_sizeOf he]
  have g1' : Instr.fill (fun i => some (i * ei.size, ei.size)) z.cells (qs.map fun q => (q.1, a.eval q.2)).toList = some xs := by
    rw [map_parts]; exact g1
  simp only [g1', SW_pure]
  exact out_pure H (v := .agg cs) (by simp only [VR]; exact ⟨g2, g3⟩) g4
 omit H hr in
theorem lrepK_eq (z : List V) : ∀ (n : Nat) (k : List V → O C), lrepK n z k = k ((List.replicate n z).flatten) := by
  intro n
  induction n with
  | zero => intro k; rfl
  | succ n ih =>
    intro k
    show lrepK n z (fun r => lappK z r k) = _
    rw [ih, lappK_eq]
    simp [List.replicate_succ]
 omit H hr in
theorem vrl_rep {z : List V} {zs : List Value} (hz : VRL ml σ z zs) : ∀ n : Nat, VRL ml σ ((List.replicate n z).flatten) ((List.replicate n zs).flatten)
  | 0 => trivial
  | n + 1 => by
    rw [List.replicate_succ, List.replicate_succ, List.flatten_cons, List.flatten_cons]
    exact vrl_append hz (vrl_rep hz n)
 omit H hr in
theorem rep_get (zero : Array Value) : ∀ (n : Nat), ((Array.range (n * zero.size)).map (zero[· % zero.size]!)).toList = (List.replicate n zero.toList).flatten := by
  intro n
  rw [Array.toList_map, Array.toList_range]
  induction n with
  | zero => simp
  | succ n ih =>
    have e : List.range ((n + 1) * zero.size) = List.range (n * zero.size) ++ (List.range zero.size).map (n * zero.size + ·) := by
      rw [Nat.succ_mul, List.range_add]
    rw [e, List.map_append, ih, List.map_map]
    have e2 : (List.range zero.size).map ((fun x => zero[x % zero.size]!) ∘ fun x => n * zero.size + x) = zero.toList := by
      apply List.ext_getElem
      · simp
      · intro i h1 h2
        simp at h1
        have : (n * zero.size + i) % zero.size = i := by
          rw [Nat.mul_comm, Nat.mul_add_mod]; exact Nat.mod_eq_of_lt h1
        simp [this, h1]
    rw [e2, List.replicate_succ', List.flatten_append]
    simp
 omit H hr in
theorem row_closed (H : AR N0 mla ml vt σ h nx own n0 w) {id : Gb.P} {p : Pl} {cs : List V} {el room fz : Nat} (hp : σ id = some p) (hob : T.get id h = some (.row cs el room false fz)) : p.ex = 0 ∧ p.sh = 0 := by
  obtain ⟨o', ho', hr'⟩ := H.obs id p _ hp hob
  cases o' <;> simp only [ObR] at hr'
  rename_i c el' fr
  obtain ⟨lo', hi''⟩ := fr
  simp only [ObR] at hr'
  exact ⟨(hr'.2.2.2.1 trivial).1, (hr'.2.2.2.1 trivial).2.2⟩
theorem snd_bslice {t el : TypeId} {n : Nat} {ei : TypeInfo} {z : Value} {zs : List V} {ps : List (Nat × Nat × Opd)} {qs : Array (Nat × Operand)} (ht : P.underlying t = some (.slice el)) (he : P.info? el = some ei) (hz : ei.zero = some z)
    (hzs : ∀ σ, VRL ml σ zs z.cells.toList) (h1 : ∀ x ∈ z.cells.toList, OneCell x) (hsz : z.cells.size = ei.size) (hs0 : ei.size ≠ 0) (hbig : n * ei.size ≤ 2 ^ 24) (hp : PartsR (fun i => some (i * ei.size, ei.size)) ps qs.toList) (ho : o.op = .buildSlice t n qs)
    (e : exec (.bslice el n zs ps) regs h nx k = some r) : SW P N0 own n0 (execOp a.eval o) w (Out N0 mla ml vt own n0 σ k r) := by
  replace e : hBslice el n zs ps regs h nx k = some r := e
  unfold hBslice at e
  rw [lrepK_eq] at e
  have key : ∀ zc : Array Value, (n * ei.size ≠ 0 → zc = z.cells) → ((Array.range (n * ei.size)).map (zc[· % zc.size]!)).toList = (List.replicate n z.cells.toList).flatten := by
    intro zc hzc
    by_cases hn : n = 0
    · subst hn; simp
    · have : n * ei.size ≠ 0 := Nat.mul_ne_zero hn hs0
      rw [hzc this, ← hsz]
      exact rep_get _ n
  have go : ∀ zc : Array Value, (n * ei.size ≠ 0 → zc = z.cells) → SW P N0 own n0 (do
      let some cells := Instr.fill (fun i => some (i * ei.size, ei.size)) ((Array.range (n * ei.size)).map (zc[· % zc.size]!)) (qs.map fun q => (q.1, a.eval q.2)).toList | stuck "buildSlice: a part of the wrong size"
      pure (.slice (some (← newRow el cells)) n n)) w (fun u w' => Out N0 mla ml vt own n0 σ k r (.value u) w') := by
    intro zc hzc
    have hk := key zc hzc
    obtain ⟨cs, xs, g1, g2, g3, g4⟩ := fillK_rel hr ps qs.toList _ ((Array.range (n * ei.size)).map (zc[· % zc.size]!)) _ r hp (by rw [hk]; exact vrl_rep (hzs σ) n)
      (by rw [hk]; intro x hx; obtain ⟨l, hl, hxl⟩ := List.mem_flatten.1 hx; rw [(List.mem_replicate.1 hl).2] at hxl; exact h1 x hxl) e
    replace g4 := newOb_new g4
    rw [map_parts, g1]
    simp only [newRow, SW_bind, SW_newObj, SW_pure]
    exact out_row H g2 g3 (fun σ' s1 s2 => by simp only [VR]; exact ⟨_, s2, by simp⟩) g4
  unfold execOp
  simp only [ho, Instr.buildSlice]
  rw [SW_bind, SW_bind, SW_underlying ht]
  rw [SW_bind, SW_sizeOf he]
  rw [if_neg (by omega)]
  by_cases hn : n * ei.size = 0
  · simp only [if_pos hn]
    exact SW.mono (go #[] (fun h => absurd hn h)) fun u w' h => h
  · simp only [if_neg hn]
    rw [SW_bind, SW_zeroValue he hz, SW_bind, SW_pure]
    exact SW.mono (go z.cells (fun h => rfl)) fun u w' h => h
theorem snd_mkslice {t el : TypeId} {ei : TypeInfo} {z : Value} {zs : List V} {l c : Opd} {l' c' : Operand} (hl : OpdR l l') (hc : OpdR c c') (ht : P.underlying t = some (.slice el)) (he : P.info? el = some ei) (hz : ei.zero = some z)
    (hzs : ∀ σ, VRL ml σ zs z.cells.toList) (h1 : ∀ x ∈ z.cells.toList, OneCell x) (hsz : z.cells.size = ei.size) (hs0 : ei.size ≠ 0) (hb : ei.bytes ≤ 1048576) (ho : o.op = .makeSlice t l' c')
    (e : exec (.mkslice el zs l c) regs h nx k = some r) : SW P N0 own n0 (execOp a.eval o) w (Out N0 mla ml vt own n0 σ k r) := by
  replace e : hMkslice el zs l c regs h nx k = some r := e
  obtain ⟨v, hv, e1⟩ := opd_rel hr hl e
  obtain ⟨kd, n, rfl, e2⟩ := nat0K_inv e1
  obtain ⟨v, hv', e3⟩ := opd_rel hr hc e2
  obtain ⟨kd', m, rfl, e4⟩ := nat0K_inv e3
  obtain ⟨hm, e5⟩ := boolK_inv e4
  obtain ⟨hnm, e6⟩ := boolK_inv e5
  have hm := Nat.le_of_ble_eq_true hm
  have hnm := Nat.le_of_ble_eq_true hnm
  rw [lrepK_eq] at e6
  replace e6 := newOb_new e6
  have w1 : IntKind.i64.wrap (Int.ofNat n) = n := wrap_low .i64 n (by simp only [lim]; omega)
  have w2 : IntKind.i64.wrap (Int.ofNat m) = m := wrap_low .i64 m (by simp only [lim]; omega)
  have hbm : (ei.bytes : Int) * (m : Int) ≤ 2 ^ 48 := by
    have : ei.bytes * m ≤ 1048576 * 1048576 := Nat.mul_le_mul hb hm
    have : ((ei.bytes * m : Nat) : Int) ≤ ((1048576 * 1048576 : Nat) : Int) := Int.ofNat_le.2 this
    rw [Int.natCast_mul] at this
    omega
  have hbm' : ¬ (m * ei.bytes > roomBytes) := by
    have : ei.bytes * m ≤ 1048576 * 1048576 := Nat.mul_le_mul hb hm
    rw [Nat.mul_comm]
    unfold roomBytes
    omega
  have go : ∀ zc : Array Value, (m * ei.size ≠ 0 → zc = z.cells) → SW P N0 own n0 (do
      let a ← newRow el ((Array.range (m * ei.size)).map (zc[· % zc.size]!))
      pure (.slice (some a) n m)) w (fun u w' => Out N0 mla ml vt own n0 σ k r (.value u) w') := by
    intro zc hzc
    have hk : ((Array.range (m * ei.size)).map (zc[· % zc.size]!)).toList = (List.replicate m z.cells.toList).flatten := by
      by_cases hn : m = 0
      · subst hn; simp
      · have : m * ei.size ≠ 0 := Nat.mul_ne_zero hn hs0
        rw [hzc this, ← hsz]
        exact rep_get _ m
    simp only [newRow, SW_bind, SW_newObj, SW_pure]
    refine out_row H (by rw [hk]; exact vrl_rep (hzs σ) m) (by rw [hk]; intro x hx; obtain ⟨l, hl, hxl⟩ := List.mem_flatten.1 hx; rw [(List.mem_replicate.1 hl).2] at hxl; exact h1 x hxl)
      (fun σ' s1 s2 => by simp only [VR]; exact ⟨_, s2, by simp⟩) e6
  unfold execOp
  simp only [ho, vr_int hv, vr_int hv', Instr.makeSlice, asInt, asIntOf]
  simp only [SW_bind, SW_underlying ht, SW_pure, SW_typeInfo he, w1, w2]
  rw [if_neg (by
    simp only [Bool.or_eq_true, decide_eq_true_eq, not_or, Int.not_lt]
    omega)]
  simp only [SW_bind, askRoom, Int.toNat_natCast, if_neg hbm', SW_pure, SW_sizeOf he]
  by_cases hn : m * ei.size = 0
  · simp only [if_pos hn, SW_pure]
    have := go #[] (fun h => absurd hn h)
    simpa only [SW_bind, SW_pure] using this
  · simp only [if_neg hn, SW_bind, SW_zeroValue he hz, SW_pure]
    have := go z.cells (fun h => rfl)
    simpa only [SW_bind, SW_pure] using this
end
end Go.Gb
end
section
/-! Operations, one by one: slices of slices, elements, bytes, minima. -/
set_option linter.unusedSimpArgs false
set_option linter.unusedVariables false
set_option linter.unusedSectionVars false
namespace Go.Gb
open Go.Conc
section
variable {C : Type} {P : Program} {N0 : Nat} {mla : Addr} {ml : Gl} {vt : Vt} {own : Own} {n0 : Nat}
variable {σ : Sg} {h : Heap} {nx : Gb.P} {w : World} {regs : Regs} {a : Act} {k : K C} {r : C} {o : Oper}
variable (H : AR N0 mla ml vt σ h nx own n0 w) (hr : RegR ml σ regs a)
 include H hr
 omit H hr in
/-- A number for a place where nothing lies. -/
theorem AR.name {p0 : Pl} (H : AR N0 mla ml vt σ h nx own n0 w) (hp0 : p0.bl < w.heap.size) : ∃ σ', Sub σ σ' ∧ σ' nx = some p0 ∧ AR N0 mla ml vt σ' h nx.succ own n0 w := by
  have hnx : σ nx = none := by
    cases e : σ nx with
    | none => rfl
    | some p => have := H.low _ _ e; omega
  have sub : Sub σ (fun i => if i = nx then some p0 else σ i) := by
    intro i p hp
    have : i ≠ nx := fun e => by rw [e, hnx] at hp; cases hp
    simp [this, hp]
  have cases' : ∀ i p, (if i = nx then some p0 else σ i) = some p → (i = nx ∧ p = p0) ∨ (i ≠ nx ∧ σ i = some p) := by
    intro i p hp
    by_cases e : i = nx
    · simp [e] at hp; exact .inl ⟨e, hp.symm⟩
    · simp [e] at hp; exact .inr ⟨e, hp⟩
  have live : ∀ i p ob, (if i = nx then some p0 else σ i) = some p → T.get i h = some ob → σ i = some p := by
    intro i p ob hp hob
    rcases cases' i p hp with ⟨e, _⟩ | ⟨_, hp⟩
    · subst e; have := H.hlow _ _ hob; omega
    · exact hp
  have liveh : ∀ i p ob, (if i = nx then some p0 else σ i) = some p → T.get i vt.hf = some ob → σ i = some p := by
    intro i p ob hp hob
    rcases cases' i p hp with ⟨e, _⟩ | ⟨_, hp⟩
    · subst e; have := H.frl _ _ hob; omega
    · exact hp
  refine ⟨_, sub, by simp, ⟨fun i p hp => ?_, fun i p ob hp hob => H.has i p ob (live i p ob hp hob) hob, fun i p hp => ?_, fun i ob hob => ?_, fun i i' p p' o1 o2 hp hp' h1 h2 hb => H.inj i i' p p' o1 o2 (live _ _ _ hp h1) (live _ _ _ hp' h2) h1 h2 hb, fun i p ob hp hob => ?_, fun i hi => ?_, fun i p ob hp hob => ?_,
    fun i i' p p' o1 o2 hp hp' h1 h2 => H.frx i i' p p' o1 o2 (liveh _ _ _ hp h1) (live _ _ _ hp' h2) h1 h2, fun i p ob hp hob => H.fro i p ob (liveh _ _ _ hp hob) hob, fun i ob hob => ?_, H.glob, H.n0le, H.apart⟩⟩
  · rcases cases' i p hp with ⟨_, rfl⟩ | ⟨_, hp⟩
    · exact hp0
    · exact H.dom i p hp
  · rw [P.toNat_succ]
    rcases cases' i p hp with ⟨rfl, _⟩ | ⟨_, hp⟩
    · omega
    · have := H.low i p hp; omega
  · rw [P.toNat_succ]; have := H.hlow i ob hob; omega
  · obtain ⟨o, h3, h4⟩ := H.obs i p ob (live i p ob hp hob) hob
    exact ⟨o, h3, h4.mono sub⟩
  · have := H.vts i hi
    have hne : i ≠ nx := fun e => by rw [e] at this; omega
    rw [P.toNat_succ]
    exact ⟨by simp [hne, this.1], by omega⟩
  · obtain ⟨o, h3, h4⟩ := H.fr i p ob (liveh i p ob hp hob) hob
    exact ⟨o, h3, h4.mono sub⟩
  · rw [P.toNat_succ]; have := H.frl i ob hob; omega
theorem snd_sliceV {x : Opd} {x' : Operand} {lo hi : Option Opd} {lo' hi' : Option Operand} (hx : OpdR x x') (hlo : OptR lo lo') (hhi : OptR hi hi') {t el : TypeId} {ei : TypeInfo} (ht : P.underlying t = some (.slice el)) (he : P.info? el = some ei) (ho : o.op = .slice t x' lo' hi' none)
    (e : exec (.sliceV ei.size x lo hi) regs h nx k = some r) : SW P N0 own n0 (execOp a.eval o) w (Out N0 mla ml vt own n0 σ k r) := by
  replace e : hSliceV ei.size x lo hi regs h nx k = some r := e
  obtain ⟨v, hv, e1⟩ := opd_rel hr hx e
  unfold execOp
  simp only [ho, Instr.sliceAt]
  rw [SW_bind, SW_bind, SW_underlying ht]
  simp only [Instr.slice, Option.map_none]
  cases v <;> simp only [reduceCtorEq] at e1
  · rename_i id off len cap
    obtain ⟨m, hm, e3⟩ := boundK_rel hr hhi e1
    obtain ⟨l, hl, e4⟩ := boundK_rel hr hlo e3
    obtain ⟨p, hp, hy⟩ := vr_sl hv
    obtain ⟨hlc, e4⟩ := boolK_inv e4
    have hlc := Nat.le_of_ble_eq_true hlc
    rw [natK_eq, natK_eq] at e4
    rw [hy]
    simp only [SW_bind, SW_underlying ht]
    have hm' : (hi' = none ∧ m = len) ∨ ∃ y kd, hi' = some y ∧ a.eval y = .int kd (.ofNat m) ∧ m ≤ cap + p.ex := by
      rcases hm with h | ⟨y, kd, h1, h2, h3⟩
      · exact .inl h
      · exact .inr ⟨y, kd, h1, h2, by omega⟩
    refine SW_bounds hm' hl ?_
    simp only [SW_sizeOf he, SW_pure]
    rcases boolK_cases e4 with ⟨hb, e5⟩ | ⟨hb, e5⟩
    · obtain ⟨ob, hob, e6⟩ := getOb_inv e5
      have hcl : cap = l := Nat.eq_of_beq_eq_true hb
      cases ob <;> (try simp only [reduceCtorEq] at e6)
      rename_i cs el' room opn fz
      have hopn : opn = false := by cases opn with | false => rfl | true => cases e6
      subst hopn
      have hx0 := (row_closed H hp hob).1
      rw [if_pos (by omega)]
      exact out_pure H (by simp only [VR]; exact ⟨p, hp, rfl, rfl, by rw [hx0]; rfl⟩) e6
    · rw [natK_eq] at e5
      have hcl : ¬ cap = l := Nat.ne_of_beq_eq_false hb
      rw [if_neg (by omega)]
      simp only [Option.map_some]
      rw [add_place rfl]
      refine out_pure H ?_ e5
      simp only [VR]
      refine ⟨p, hp, by simp [Nat.add_assoc], rfl, ?_⟩
      show cap + p.ex - l = (cap - l) + p.ex
      omega
  · obtain ⟨m, hm, e3⟩ := boundK_rel hr hhi e1
    obtain ⟨l, hl, e4⟩ := boundK_rel hr hlo e3
    rw [vr_nils hv]
    simp only [SW_bind, SW_underlying ht]
    refine SW_bounds hm hl ?_
    have hm0 : m = 0 := by rcases hm with ⟨_, rfl⟩ | ⟨_, _, _, _, h⟩ <;> omega
    have hl0 : l = 0 := by rcases hl with ⟨_, rfl⟩ | ⟨_, _, _, _, h⟩ <;> omega
    subst hm0; subst hl0
    simp only [SW_sizeOf he, SW_pure]
    exact out_pure H (by simp [VR]) e4
theorem snd_sliceW {x : Opd} {x' : Operand} {lo hi : Option Opd} {lo' hi' : Option Operand} (hx : OpdR x x') (hlo : OptR lo lo') (hhi : OptR hi hi') {t el : TypeId} {ei : TypeInfo} (ht : P.underlying t = some (.slice el)) (he : P.info? el = some ei) (ho : o.op = .slice t x' lo' hi' none)
    (e : exec (.sliceW ei.size x lo hi) regs h nx k = some r) : SW P N0 own n0 (execOp a.eval o) w (Out N0 mla ml vt own n0 σ k r) := by
  replace e : hSliceW ei.size x lo hi regs h nx k = some r := e
  obtain ⟨v, hv, e1⟩ := opd_rel hr hx e
  unfold execOp
  simp only [ho, Instr.sliceAt]
  rw [SW_bind, SW_bind, SW_underlying ht]
  simp only [Instr.slice, Option.map_none]
  cases v <;> simp only [reduceCtorEq] at e1
  · rename_i id off len cap
    obtain ⟨m, hm, e3⟩ := boundK_rel hr hhi e1
    obtain ⟨l, hl, e4⟩ := boundK_rel hr hlo e3
    obtain ⟨p, hp, hy⟩ := vr_sl hv
    obtain ⟨hlc, e4⟩ := boolK_inv e4
    have hlc := Nat.le_of_ble_eq_true hlc
    rw [natK_eq, natK_eq] at e4
    rw [hy]
    simp only [SW_bind, SW_underlying ht]
    have hm' : (hi' = none ∧ m = len) ∨ ∃ y kd, hi' = some y ∧ a.eval y = .int kd (.ofNat m) ∧ m ≤ cap + p.ex := by
      rcases hm with h | ⟨y, kd, h1, h2, h3⟩
      · exact .inl h
      · exact .inr ⟨y, kd, h1, h2, by omega⟩
    refine SW_bounds hm' hl ?_
    simp only [SW_sizeOf he, SW_pure]
    rcases boolK_cases e4 with ⟨hb, e5⟩ | ⟨hb, e5⟩
    · obtain ⟨ob, hob, e6⟩ := getOb_inv e5
      have hcl : cap = l := Nat.eq_of_beq_eq_true hb
      cases ob <;> (try simp only [reduceCtorEq] at e6)
      rename_i cs el' room opn fz
      cases opn with
      | false =>
        have hx0 := (row_closed H hp hob).1
        rw [if_pos (by omega)]
        exact out_pure H (by simp only [VR]; exact ⟨p, hp, rfl, rfl, by rw [hx0]; rfl⟩) e6
      | true =>
        replace e6 : boolK (Nat.beq (Nat.sub m l) 0) (succK nx fun nx' => k (.sl nx 0 0 0) h nx') none = some r := e6
        obtain ⟨hml0, e7⟩ := boolK_inv e6
        rw [succK_eq] at e7
        have hml : m = l := by
          have h0 : m - l = 0 := Nat.eq_of_beq_eq_true hml0
          have h1 : l ≤ m := by rcases hl with ⟨_, rfl⟩ | ⟨_, _, _, _, h⟩ <;> omega
          omega
        subst hml
        have fin : ∀ (b o c : Nat), b = p.bl → SW P N0 own n0 (pure (Next.value (.slice (some ⟨b, o, none⟩) (m - m) c))) w (Out N0 mla ml vt own n0 σ k r) := by
          intro b o c hb
          obtain ⟨σ', s1, s2, s3⟩ := H.name (p0 := ⟨b, o, c⟩) (by rw [hb]; exact H.dom id p hp)
          refine ⟨.sl nx 0 0 0, σ', h, nx.succ, .inl ⟨_, rfl, ?_⟩, s1, s3, e7⟩
          simp only [VR]
          exact ⟨_, s2, by simp, by omega, by simp⟩
        by_cases hc : cap + p.ex = m
        · rw [if_pos (by omega)]
          exact fin _ _ _ rfl
        · rw [if_neg (by omega)]
          simp only [Option.map_some]
          rw [add_place rfl]
          exact fin _ _ _ rfl
    · rw [natK_eq] at e5
      have hcl : ¬ cap = l := Nat.ne_of_beq_eq_false hb
      rw [if_neg (by omega)]
      simp only [Option.map_some]
      rw [add_place rfl]
      refine out_pure H ?_ e5
      simp only [VR]
      refine ⟨p, hp, by simp [Nat.add_assoc], rfl, ?_⟩
      show cap + p.ex - l = (cap - l) + p.ex
      omega
  · obtain ⟨m, hm, e3⟩ := boundK_rel hr hhi e1
    obtain ⟨l, hl, e4⟩ := boundK_rel hr hlo e3
    rw [vr_nils hv]
    simp only [SW_bind, SW_underlying ht]
    refine SW_bounds hm hl ?_
    have hm0 : m = 0 := by rcases hm with ⟨_, rfl⟩ | ⟨_, _, _, _, h⟩ <;> omega
    have hl0 : l = 0 := by rcases hl with ⟨_, rfl⟩ | ⟨_, _, _, _, h⟩ <;> omega
    subst hm0; subst hl0
    simp only [SW_sizeOf he, SW_pure]
    exact out_pure H (by simp [VR]) e4
theorem snd_ixaA {x i : Opd} {x' i' : Operand} (hx : OpdR x x') (hi : OpdR i i') {t el : TypeId} {n : Nat} {ei : TypeInfo} (ht : P.underlying t = some (.array n el)) (he : P.info? el = some ei) (ho : o.op = .indexAddr t x' i')
    (e : exec (.ixaA n ei.size x i) regs h nx k = some r) : SW P N0 own n0 (execOp a.eval o) w (Out N0 mla ml vt own n0 σ k r) := by
  replace e : hIxaA n ei.size x i regs h nx k = some r := e
  obtain ⟨v, hv, e1⟩ := opd_rel hr hx e
  obtain ⟨id, off, rfl, e1⟩ := ptrK_inv e1
  obtain ⟨kd, m, hm, hlt, e2⟩ := zidxK_rel hr hi e1
  rw [natK_eq] at e2
  obtain ⟨p, hp, hy⟩ := vr_ptr hv
  unfold execOp
  simp only [ho, hy, hm, Instr.indexAt, asIntOf, Instr.sureAddr]
  have hlt' : (0 : Int) ≤ Int.ofNat m ∧ (Int.ofNat m) < (n : Int) := ⟨by simp, by simpa using hlt⟩
  simp only [SW_bind, SW_pure, SW_underlying ht, if_pos hlt', SW_sizeOf he]
  refine out_pure H (v := .ptr id (off + m * ei.size)) ?_ e2
  rw [add_place rfl]
  simp only [VR]
  exact ⟨p, hp, by simp [Nat.add_assoc]⟩
theorem snd_idxA {x i : Opd} {x' i' : Operand} (hx : OpdR x x') (hi : OpdR i i') {t el : TypeId} {n : Nat} {d : TypeDesc} {ei : TypeInfo} (ht : P.underlying t = some (.array n el)) (hd : P.underlying el = some d) (he : P.info? el = some ei) (ho : o.op = .index t x' i')
    (e : exec (.idxA n ei.size (aggD d) x i) regs h nx k = some r) : SW P N0 own n0 (execOp a.eval o) w (Out N0 mla ml vt own n0 σ k r) := by
  replace e : hIdxA n ei.size (aggD d) x i regs h nx k = some r := e
  obtain ⟨v, hv, e1⟩ := opd_rel hr hx e
  cases v <;> simp only [reduceCtorEq] at e1
  rename_i cs
  generalize hu : a.eval x' = u at hv
  cases u <;> simp only [VR] at hv
  obtain ⟨kd, m, hm, hlt, e2⟩ := zidxK_rel hr hi e1
  unfold execOp
  simp only [ho, hu, hm, Instr.index, asIntOf]
  have hlt' : (0 : Int) ≤ Int.ofNat m ∧ (Int.ofNat m) < (n : Int) := ⟨by simp, by simpa using hlt⟩
  simp only [SW_bind, SW_pure, SW_underlying ht, if_pos hlt', SW_sizeOf he]
  exact partK_rel hv.1 hv.2 hd he e2 fun v u h1 h2 => out_pure H h1 h2
 omit H hr in
theorem SW_row {b : Nat} {c : Array Value} {t : TypeId} {f : Nat × Nat} (hb : w.heap[b]? = some (.cells c t f)) {Q : Option (TypeId × Nat) → World → Prop} : SW P N0 own n0 (shape b) w Q ↔ Q (some (t, c.size)) w := by
  show Q (w.shape? b) w ↔ _
  simp [World.shape?, hb]
 omit H hr in
theorem SW_seenAt {b off : Nat} {c : Array Value} {t : TypeId} {f : Nat × Nat} (hb : w.heap[b]? = some (.cells c t f)) {Q : Addr → World → Prop} (hq : Q ⟨b, off, none⟩ w) : SW P N0 own n0 (Conv.seenAt ⟨b, off, none⟩) w Q := by
  unfold Conv.seenAt viewAt
  simp only [SW_bind, SW_row hb]
  exact hq
theorem snd_toUns {x : Opd} {x' : Operand} (hx : OpdR x x') {s d el : TypeId} {ei : TypeInfo} (hs : P.underlying s = some (.pointer el)) (hd : P.underlying d = some .unsafePointer) (he : P.info? el = some ei) (hz : ei.size ≠ 0) (ho : o.op = .convert s d x')
    (e : exec (.toUns x) regs h nx k = some r) : SW P N0 own n0 (execOp a.eval o) w (Out N0 mla ml vt own n0 σ k r) := by
  replace e : hToUns x regs h nx k = some r := e
  obtain ⟨v, hv, e1⟩ := opd_rel hr hx e
  obtain ⟨id, off, rfl, e1⟩ := ptrK_inv e1
  obtain ⟨ob, hob, e1⟩ := getOb_inv e1
  obtain ⟨p, hp, hy⟩ := vr_ptr hv
  cases ob <;> simp only [reduceCtorEq] at e1
  rename_i cs el' room opn fz
  obtain ⟨hlt, e2⟩ := boolK_inv e1
  have hlt : off < cs.length := by
    have := Nat.le_of_ble_eq_true hlt
    rw [llen_eq] at this
    omega
  obtain ⟨obj, hb, hrr⟩ := H.obs id p _ hp hob
  cases obj <;> simp only [ObR] at hrr
  rename_i c el2 fr
  obtain ⟨lo, hi⟩ := fr
  simp only [ObR] at hrr
  obtain ⟨x0, hx0, _⟩ := hrr.2.1 off _ (List.getElem?_eq_getElem hlt)
  have hcs : p.sh + off < c.size := (Array.getElem?_eq_some_iff.1 hx0).1
  unfold execOp
  simp only [ho, hy, convert]
  rw [SW_bind, SW_bind, SW_underlying hs, SW_bind, SW_underlying hd]
  show SW P N0 own n0 (Conv.unsafePointer s d (.pointer (some ⟨p.bl, p.sh + off, none⟩))) w _
  unfold Conv.unsafePointer
  rw [SW_bind, SW_underlying hs, SW_bind, SW_underlying hd]
  simp only
  rw [SW_bind]
  refine SW_seenAt hb ?_
  unfold cellsIn
  simp only [SW_bind, SW_row hb, SW_pure, SW_sizeOf he]
  rw [if_neg]
  · exact out_pure H (v := .ptr id off) (by simp only [VR]; exact ⟨p, hp, rfl⟩) e2
  · simp [hz]; omega
theorem snd_ofUns {x : Opd} {x' : Operand} (hx : OpdR x x') {s d el : TypeId} {ei : TypeInfo} (hs : P.underlying s = some .unsafePointer) (hd : P.underlying d = some (.pointer el)) (he : P.info? el = some ei) (hz : ei.size ≠ 0) (ho : o.op = .convert s d x')
    (e : exec (.ofUns el ei.size x) regs h nx k = some r) : SW P N0 own n0 (execOp a.eval o) w (Out N0 mla ml vt own n0 σ k r) := by
  replace e : hOfUns el ei.size x regs h nx k = some r := e
  obtain ⟨v, hv, e1⟩ := opd_rel hr hx e
  obtain ⟨id, off, rfl, e1⟩ := ptrK_inv e1
  obtain ⟨ob, hob, e1⟩ := getOb_inv e1
  obtain ⟨p, hp, hy⟩ := vr_ptr hv
  cases ob <;> (try simp only [reduceCtorEq] at e1)
  rename_i cs el' room opn fz
  have hopn : opn = false := by cases opn with | false => rfl | true => cases e1
  subst hopn
  obtain ⟨hc, e2⟩ := boolK_inv e1
  simp only [Bool.and_eq_true] at hc
  have h0 := Nat.eq_of_beq_eq_true hc.1
  have h1 := Nat.eq_of_beq_eq_true hc.2.1
  have h2 := Nat.le_of_ble_eq_true hc.2.2
  rw [llen_eq, Nat.zero_add] at h2
  subst h0
  have hsh := (row_closed H hp hob).2
  obtain ⟨obj, hb, hrr⟩ := H.obs id p _ hp hob
  cases obj <;> simp only [ObR] at hrr
  rename_i c el2 fr
  obtain ⟨lo, hi⟩ := fr
  simp only [ObR] at hrr
  have hel : el2 = el := hrr.1.trans h1
  have hcs : ei.size ≤ c.size := by
    have : 0 < cs.length := by omega
    obtain ⟨x0, hx0, _⟩ := hrr.2.1 (cs.length - 1) _ (List.getElem?_eq_getElem (by omega))
    have := (Array.getElem?_eq_some_iff.1 hx0).1
    omega
  have hcz : P.cellsOf el = ei.size := by simp [Program.cellsOf, he]
  have hlies : liesAt P P.depth el (c.size / P.cellsOf el) (p.sh + 0) el 1 = true := by
    have hd : P.depth = (2 * (P.types.size + Made.depth) + 1) + 1 := rfl
    rw [hd]
    simp only [liesAt, Bool.or_eq_true]
    left
    rw [hd]
    have : 0 < c.size / ei.size := Nat.div_pos hcs (by omega)
    simp [rowAt, hcz, hz, hsh, sameLayout]
    left; omega
  unfold execOp
  simp only [ho, hy, convert]
  rw [SW_bind, SW_bind, SW_underlying hs, SW_bind, SW_underlying hd]
  show SW P N0 own n0 (Conv.unsafePointer s d (.pointer (some ⟨p.bl, p.sh + 0, none⟩))) w _
  unfold Conv.unsafePointer
  rw [SW_bind, SW_underlying hs, SW_bind, SW_underlying hd]
  simp only
  rw [SW_bind]
  refine SW_seenAt hb ?_
  unfold variablesAt
  simp only [SW_bind, SW_program, SW_row hb, SW_pure, SW_sizeOf he, hel, hlies, Bool.or_true, if_true]
  exact out_pure H (v := .ptr id 0) (by simp only [VR]; exact ⟨p, hp, rfl⟩) e2
end
end Go.Gb
end
