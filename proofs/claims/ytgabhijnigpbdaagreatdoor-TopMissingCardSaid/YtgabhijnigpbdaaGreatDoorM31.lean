/- A part of the proof of the statement Rows.TopMissingCardSaid (at every argument the law returns true on every schedule, and its argument reads as before; the listed variables as laid). This text: a stepper over symbolic states of the translated program and its soundness, part 31 of 41. -/
import Derived.Test.YtgabhijnigpbdaaGreatDoorM30
section
/-! The plan of a drawn region is sound. -/
set_option linter.unusedSimpArgs false
set_option linter.unusedVariables false
set_option linter.unusedSectionVars false
namespace Go.Gb
section
variable {C : Type} {E : Env} {P : Program} {N0 : Nat} {mla : Addr} {ml : Gl} {r : C}
theorem mkchan_mk (hE : EnvOk P E mla ml) {t : Nat} {c : Operand} {k : Ins → O C} (e : mkchanIns E t c k = some r) : ∃ i, SndOp P N0 mla ml (.makeChan t c) i ∧ MkR P (.makeChan t c) i ∧ k i = some r := by
  obtain ⟨d, hd, e⟩ := undK_inv hE.tys e
  cases d <;> simp only [reduceCtorEq] at e
  obtain ⟨i, hi, e⟩ := infoK_inv hE.tys e
  obtain ⟨hb, e⟩ := boolK_inv e
  have hb := Nat.le_of_ble_eq_true hb
  obtain ⟨c', hc', e⟩ := oK_inv e
  have hb' : ∀ n : Nat, n ≤ 1048576 → (i.bytes : Int) * n ≤ 2 ^ 48 - 112 := fun n hn => by
    have : i.bytes * n ≤ 1048576 * 1048576 := Nat.mul_le_mul hb hn
    have : ((i.bytes * n : Nat) : Int) ≤ ((1048576 * 1048576 : Nat) : Int) := Int.ofNat_le.2 this
    rw [Int.natCast_mul] at this
    omega
  exact ⟨_, fun H hr ho e => snd_mkchan H hr hc' hd hi hb' ho e, .chan rfl hc' hd hi hb', e⟩
/-- An operation compiled; what makes is known. -/
theorem compT_node (hE : EnvOk P E mla ml) {nt : Nat} {ops : List Oper} {o : Oper} {k : TOp → O C} (e : compT E nt ops o k = some r) : ∃ t, TopR P N0 mla ml nt ops o t ∧ (kindOp o.op t = 1 → ∀ i, t.wh = .i i → MkR P o.op i) ∧ k t = some r := by
  by_cases hal : ∃ el, o.op = .alloc el
  · obtain ⟨el, hal⟩ := hal
    obtain ⟨d, g, hd, hg, e⟩ := compT_dg e
    rw [hal] at e
    replace e : natK el (fun t => zeroK E t fun zs => k ⟨d, g, .i (.alloc t zs)⟩) = some r := e
    rw [natK_eq] at e
    obtain ⟨i, z, zs, hi, hz, hzs, h1, e⟩ := zeroK_inv hE.tys e
    refine ⟨_, ⟨hd, hg, .inl ⟨_, rfl, ?_, fun c h => by rw [hal] at h; cases h⟩⟩, fun _ i' hi' => ?_, e⟩
    · rw [hal]; exact fun H hr ho e => snd_alloc H hi hz (hzs ml) h1 ho e
    · cases hi'; rw [hal]; exact .alloc rfl hi hz hzs h1
  · by_cases hch : ∃ t c, o.op = .makeChan t c
    · obtain ⟨t, c, hch⟩ := hch
      obtain ⟨d, g, hd, hg, e⟩ := compT_dg e
      rw [hch] at e
      replace e : mkchanIns E t c (fun i => k ⟨d, g, .i i⟩) = some r := e
      obtain ⟨i, h1, h2, e⟩ := mkchan_mk (N0 := N0) hE e
      refine ⟨_, ⟨hd, hg, .inl ⟨_, rfl, by rw [hch]; exact h1, fun c h => by rw [hch] at h; cases h⟩⟩, fun _ i' hi' => ?_, e⟩
      cases hi'; rw [hch]; exact h2
    · obtain ⟨t, hT, e⟩ := compT_inv (N0 := N0) hE e
      refine ⟨t, hT, fun hk => ?_, e⟩
      exfalso
      unfold kindOp at hk
      split at hk
      · rename_i el h; exact hal ⟨el, h⟩
      · rename_i t c h; exact hch ⟨t, c, h⟩
      · cases hk
      · split at hk
        · cases hk
        · split at hk <;> cases hk
end
/-! what stands ahead -/
theorem binds_of {e : Edge} (h1 : gcOnlyB e = false) (h2 : textOnlyB e = false) : Region.binds .any e = true := by
  obtain ⟨on, g⟩ := e
  cases g with
  | gcOnly r => exact Bool.noConfusion h1
  | textOnly r => exact Bool.noConfusion h2
  | _ => rfl
section
variable {C : Type} {r : C}
/-- The bits of those before i. -/
def MOk (ops : List Oper) (W i M : Nat) : Prop := (∀ m, W * i ≤ m → M.testBit m = false) ∧ ∀ j k, j < i → k < W → M.testBit (k + W * j) = true → Prec ops k j
theorem MOk.at' {ops : List Oper} {W i M : Nat} (h : MOk ops W i M) {j k : Nat} (hb : ((M / 2 ^ (W * j)) % 2 ^ W).testBit k = true) : Prec ops k j := by
  rw [Nat.testBit_mod_two_pow, Bool.and_eq_true] at hb
  have hk := of_decide_eq_true hb.1
  have h2 : M.testBit (k + W * j) = true := by
    have := hb.2
    rw [Nat.testBit_div_two_pow] at this
    exact this
  by_cases hj : j < i
  · exact h.2 j k hj hk h2
  · have := h.1 (k + W * j) (by have : W * i ≤ W * j := Nat.mul_le_mul_left _ (by omega); omega)
    rw [this] at h2; cases h2
theorem edK_inv {ops : List Oper} {W i M : Nat} (hM : MOk ops W i M) {o : Oper} (ho : ops[i]? = some o) : ∀ (es : List Edge) (s : Nat) {k : Nat → O C}, (∀ e ∈ es, e ∈ o.after.toList) → (∀ b, s.testBit b = true → Prec ops b i) → edK W M es s k = some r → ∃ s', k s' = some r ∧ ∀ b, s'.testBit b = true → Prec ops b i := by
  intro es
  induction es with
  | nil => intro s k _ hs e; exact ⟨s, e, hs⟩
  | cons x es ih =>
    intro s k hx hs e
    replace e : boolK (gcOnlyB x) (edK W M es s k) (boolK (textOnlyB x) (edK W M es s k) (natK x.on fun on => natK (Nat.lor (Nat.lor s (Nat.pow 2 on)) (Nat.mod (Nat.div M (Nat.pow 2 (Nat.mul W on))) (Nat.pow 2 W))) fun s => edK W M es s k)) = some r := e
    have hx' : ∀ e ∈ es, e ∈ o.after.toList := fun e he => hx e (by simp [he])
    rcases boolK_cases e with ⟨_, e⟩ | ⟨h1, e⟩
    · exact ih s hx' hs e
    · rcases boolK_cases e with ⟨_, e⟩ | ⟨h2, e⟩
      · exact ih s hx' hs e
      · rw [natK_eq, natK_eq] at e
        refine ih _ hx' (fun b hb => ?_) e
        replace hb : ((s ||| 2 ^ x.on) ||| ((M / 2 ^ (W * x.on)) % 2 ^ W)).testBit b = true := hb
        rw [Nat.testBit_or, Nat.testBit_or, Bool.or_eq_true, Bool.or_eq_true] at hb
        have hin := hx x (by simp)
        rcases hb with (hb | hb) | hb
        · exact hs b hb
        · rw [Nat.testBit_two_pow] at hb
          exact .one ho hin (binds_of h1 h2) (of_decide_eq_true hb)
        · exact .more ho hin (binds_of h1 h2) rfl (hM.at' hb)
theorem befK_inv {ops : List Oper} {W : Nat} : ∀ (l : List Oper) (i M : Nat) {k : List Nat → O C}, (∀ (j : Nat) o, l[j]? = some o → ops[i + j]? = some o) → MOk ops W i M → befK W l i M k = some r → ∃ bs, k bs = some r ∧ ∀ (j b : Nat), bs[j]? = some b → ∀ k, bitM k b = true → Prec ops k (i + j) := by
  intro l
  induction l with
  | nil => intro i M k _ _ e; exact ⟨[], e, by simp⟩
  | cons o l ih =>
    intro i M k hl hM e
    replace e : edK W M o.after.toList 0 (fun s => natK (Nat.lor M (Nat.mul (Nat.mod s (Nat.pow 2 W)) (Nat.pow 2 (Nat.mul W i)))) fun M => natK (Nat.succ i) fun i => befK W l i M fun bs => k (s :: bs)) = some r := e
    have ho : ops[i]? = some o := by have := hl 0 o rfl; simpa using this
    obtain ⟨s, e, hs⟩ := edK_inv hM ho o.after.toList 0 (fun e he => he) (fun b hb => by simp at hb) e
    rw [natK_eq, natK_eq] at e
    have hM' : MOk ops W i.succ (M ||| (s % 2 ^ W) * 2 ^ (W * i)) := by
      refine ⟨fun m hm => ?_, fun j b hj hbw hb => ?_⟩
      · have h2 : W * i.succ = W * i + W := Nat.mul_succ _ _
        rw [Nat.testBit_or, hM.1 m (by omega), Bool.false_or, Nat.testBit_mul_two_pow, Nat.testBit_mod_two_pow]
        have : ¬ (m - W * i < W) := by omega
        simp [this]
      · rw [Nat.testBit_or, Bool.or_eq_true] at hb
        rcases hb with hb | hb
        · by_cases hji : j < i
          · exact hM.2 j b hji hbw hb
          · have : W * i ≤ W * j := Nat.mul_le_mul_left _ (by omega)
            rw [hM.1 _ (by omega)] at hb; cases hb
        · rw [Nat.testBit_mul_two_pow, Nat.testBit_mod_two_pow] at hb
          simp only [Bool.and_eq_true, decide_eq_true_eq] at hb
          obtain ⟨h1, h2, h3⟩ := hb
          have hji : j = i := by
            by_cases hlt : j < i
            · have : W * (j + 1) ≤ W * i := Nat.mul_le_mul_left _ hlt
              rw [Nat.mul_succ] at this; omega
            · have : j < i.succ := hj
              omega
          subst hji
          rw [show b + W * j - W * j = b by omega] at h3
          exact hs b h3
    obtain ⟨bs, e, hb⟩ := ih _ _ (fun j o' hj => by
      have := hl (j + 1) o' (by simpa using hj)
      rw [show i.succ + j = i + (j + 1) by omega]; exact this) hM' e
    refine ⟨_, e, fun j b hj k' hk => ?_⟩
    cases j with
    | zero => simp at hj; subst hj; exact hs k' (by rw [← bitM_eq]; exact hk)
    | succ j => rw [show i + (j + 1) = i.succ + j by omega]; exact hb j b (by simpa using hj) k' hk
end
end Go.Gb
end
section
/-! The plan of a drawn region is sound: the checks. -/
set_option linter.unusedSimpArgs false
set_option linter.unusedVariables false
set_option linter.unusedSectionVars false
namespace Go.Gb
theorem idxB_eq : ∀ l : List DOp, (idxB l).map (·.i) = idxD l := by
  intro l
  induction l with
  | nil => rfl
  | cons a l ih => cases a <;> simp only [idxD] <;> (try exact ih) <;> exact congrArg _ ih
theorem nextB_eq : ∀ l : List DOp, nextB l = sync1 l := by
  intro l
  induction l with
  | nil => rfl
  | cons a l ih => cases a <;> first | rfl | exact ih
theorem hasB_inv {i : Nat} {l : List Nd} (h : hasB i l = true) : ∃ m ∈ l, m.i = i := by
  obtain ⟨m, h1, h2⟩ := anyL_inv h
  exact ⟨m, h1, by rw [nbeq] at h2; simpa using h2⟩
theorem hasB_no {i : Nat} {l : List Nd} (h : hasB i l = false) : ∀ m ∈ l, m.i ≠ i := by
  intro m hm e
  have := anyL_no h m hm
  rw [nbeq] at this
  simp [e] at this
/-- Where a plan's operations come from. -/
def FromNs (ns : List Nd) : DOp → Prop
  | .fl n => n ∈ ns ∧ n.kd ≠ 1 ∧ n.kd ≠ 2
  | .mk n => n ∈ ns ∧ n.kd = 1
  | .ef n => n ∈ ns ∧ n.kd = 2
  | .sync s => ∀ n ∈ s, n ∈ ns ∧ n.kd ≠ 2
section
variable {C : Type} {r : C}
theorem beq2 {a b : Nat} : Nat.beq a b = true ↔ a = b := by rw [nbeq]; simp
theorem beq2f {a b : Nat} : Nat.beq a b = false ↔ a ≠ b := by rw [nbeq]; simp
theorem floatsK_inv {eff : Nat} {ns0 : List Nd} : ∀ (ns : List Nd) (done : Nat) {k : List DOp → Nat → O C}, (∀ n ∈ ns, n ∈ ns0) → floatsK ns done eff k = some r → ∃ fl d, k fl d = some r ∧ ∀ x ∈ fl, FromNs ns0 x := by
  intro ns
  induction ns with
  | nil => intro done k _ e; exact ⟨[], done, e, by simp⟩
  | cons n ns ih =>
    intro done k hs e
    replace e : boolK (Nat.beq n.kd 2 || bitM n.i done) (floatsK ns done eff k)
      (boolK (Nat.beq (Nat.land n.pr (Nat.sub eff (Nat.land eff done))) 0)
        (natK (Nat.lor done (Nat.pow 2 n.i)) fun done => floatsK ns done eff fun l done => boolK (Nat.beq n.kd 1) (k (.mk n :: l) done) (k (.fl n :: l) done)) (floatsK ns done eff k)) = some r := e
    have hs' : ∀ m ∈ ns, m ∈ ns0 := fun m hm => hs m (by simp [hm])
    rcases boolK_cases e with ⟨_, e⟩ | ⟨h1, e⟩
    · exact ih done hs' e
    · rcases boolK_cases e with ⟨_, e⟩ | ⟨_, e⟩
      · rw [natK_eq] at e
        obtain ⟨fl, d, e, hf⟩ := ih _ hs' e
        have hk2 : n.kd ≠ 2 := by
          simp only [Bool.or_eq_false_iff] at h1
          exact beq2f.1 h1.1
        rcases boolK_cases e with ⟨h3, e⟩ | ⟨h3, e⟩
        · exact ⟨_, d, e, fun x hx => by
            rcases List.mem_cons.1 hx with rfl | hx
            · exact ⟨hs n (by simp), beq2.1 h3⟩
            · exact hf x hx⟩
        · exact ⟨_, d, e, fun x hx => by
            rcases List.mem_cons.1 hx with rfl | hx
            · exact ⟨hs n (by simp), beq2f.1 h3, hk2⟩
            · exact hf x hx⟩
      · exact ih done hs' e
theorem syncNow_inv {done gone : Nat} {ns0 : List Nd} : ∀ (ns : List Nd) {k : List Nd → O C}, (∀ n ∈ ns, n ∈ ns0) → syncNow ns done gone k = some r → ∃ s, k s = some r ∧ FromNs ns0 (.sync s) := by
  intro ns
  induction ns with
  | nil => intro k _ e; exact ⟨[], e, by simp [FromNs]⟩
  | cons n ns ih =>
    intro k hs e
    replace e : boolK (Nat.beq n.kd 2 || (bitM n.i gone || !(bitM n.i done))) (syncNow ns done gone k) (syncNow ns done gone fun l => k (n :: l)) = some r := e
    have hs' : ∀ m ∈ ns, m ∈ ns0 := fun m hm => hs m (by simp [hm])
    rcases boolK_cases e with ⟨_, e⟩ | ⟨h1, e⟩
    · exact ih hs' e
    · obtain ⟨s, e, hf⟩ := ih hs' e
      simp only [Bool.or_eq_false_iff] at h1
      exact ⟨_, e, fun x hx => by
        rcases List.mem_cons.1 hx with rfl | hx
        · exact ⟨hs x (by simp), beq2f.1 h1.1⟩
        · exact hf x hx⟩
theorem effsK_inv {ns0 : List Nd} : ∀ (ns : List Nd) {k : List Nd → O C}, (∀ n ∈ ns, n ∈ ns0) → effsK ns k = some r → ∃ es, k es = some r ∧ ∀ n ∈ es, n ∈ ns0 ∧ n.kd = 2 := by
  intro ns
  induction ns with
  | nil => intro k _ e; exact ⟨[], e, by simp⟩
  | cons n ns ih =>
    intro k hs e
    replace e : effsK ns (fun l => boolK (Nat.beq n.kd 2) (k (n :: l)) (k l)) = some r := e
    obtain ⟨es, e, hf⟩ := ih (fun m hm => hs m (by simp [hm])) e
    rcases boolK_cases e with ⟨h1, e⟩ | ⟨_, e⟩
    · exact ⟨_, e, fun x hx => by
        rcases List.mem_cons.1 hx with rfl | hx
        · exact ⟨hs x (by simp), beq2.1 h1⟩
        · exact hf x hx⟩
    · exact ⟨_, e, hf⟩
theorem stagesK_inv {ns : List Nd} {eff : Nat} : ∀ (es : List Nd) (done gone : Nat) {k : List DOp → O C}, (∀ n ∈ es, n ∈ ns ∧ n.kd = 2) → stagesK ns eff es done gone k = some r → ∃ l, k l = some r ∧ ∀ x ∈ l, FromNs ns x := by
  intro es
  induction es with
  | nil =>
    intro done gone k _ e
    replace e : floatsK ns done eff (fun fl done => syncNow ns done gone fun sy => lappK fl [.sync sy] k) = some r := e
    obtain ⟨fl, d, e, h1⟩ := floatsK_inv ns done (fun n h => h) e
    obtain ⟨s, e, h2⟩ := syncNow_inv ns (fun n h => h) e
    rw [lappK_eq] at e
    exact ⟨_, e, fun x hx => by
      rcases List.mem_append.1 hx with hx | hx
      · exact h1 x hx
      · rw [List.mem_singleton.1 hx]; exact h2⟩
  | cons n es ih =>
    intro done gone k hs e
    replace e : floatsK ns done eff (fun fl done => syncNow ns done gone fun sy =>
      natK (Nat.lor done (Nat.pow 2 n.i)) fun done => natK (Nat.lor gone n.pr) fun gone => stagesK ns eff es done gone fun rest => lappK fl (.sync sy :: .ef n :: rest) k) = some r := e
    obtain ⟨fl, d, e, h1⟩ := floatsK_inv ns done (fun n h => h) e
    obtain ⟨s, e, h2⟩ := syncNow_inv ns (fun n h => h) e
    rw [natK_eq, natK_eq] at e
    obtain ⟨rest, e, h3⟩ := ih _ _ (fun m hm => hs m (by simp [hm])) e
    rw [lappK_eq] at e
    exact ⟨_, e, fun x hx => by
      rcases List.mem_append.1 hx with hx | hx
      · exact h1 x hx
      · rcases List.mem_cons.1 hx with rfl | hx
        · exact h2
        · rcases List.mem_cons.1 hx with rfl | hx
          · exact hs n (by simp)
          · exact h3 x hx⟩
end
theorem planB_inv {ns : List Nd} (hu : ∀ n ∈ ns, ∀ m ∈ ns, n.i = m.i → n = m) : ∀ {l : List DOp}, (∀ x ∈ l, FromNs ns x) → planB l = true → PlanS ns l ∧ (idxD l).Nodup ∧ ∀ n ∈ idxB l, n ∈ ns := by
  intro l
  induction l with
  | nil => intro _ _; exact ⟨trivial, by simp [idxD], by intro n hn; cases hn⟩
  | cons x l ih =>
    intro hf h
    have hfl : ∀ y ∈ l, FromNs ns y := fun y hy => hf y (by simp [hy])
    have hx := hf x (by simp)
    have sin : ∀ n ∈ sync1 l, n ∈ ns := by
      clear ih h
      intro n hn
      induction l with
      | nil => simp [sync1] at hn
      | cons y l ih2 =>
        cases y with
        | fl m => exact ih2 (fun y hy => hf y (by simp only [List.mem_cons] at hy ⊢; exact hy.imp id .inr)) (fun y hy => hfl y (by simp [hy])) hn
        | mk m => exact ih2 (fun y hy => hf y (by simp only [List.mem_cons] at hy ⊢; exact hy.imp id .inr)) (fun y hy => hfl y (by simp [hy])) hn
        | ef m => simp [sync1] at hn
        | sync s => exact (hfl (.sync s) (by simp) n hn).1
    have nxt : ∀ {n}, n ∈ ns → hasB n.i (nextB l) = true → n ∈ sync1 l := by
      intro n hn hh
      rw [nextB_eq] at hh
      obtain ⟨m, hm, he⟩ := hasB_inv hh
      rw [← hu m (sin m hm) n hn he]; exact hm
    have nodup : ∀ {n : Nd}, hasB n.i (idxB l) = false → n.i ∉ idxD l := by
      intro n hh hin
      rw [← idxB_eq] at hin
      obtain ⟨m, hm, he⟩ := List.mem_map.1 hin
      exact hasB_no hh m hm he
    cases x with
    | fl n =>
      replace h : boolK (hasB n.i (nextB l)) (boolK (hasB n.i (idxB l)) false (planB l)) false = true := h
      rcases bk h with ⟨h1, h⟩ | ⟨_, h⟩
      · rcases bk h with ⟨_, h⟩ | ⟨h2, h⟩
        · cases h
        · obtain ⟨i1, i2, i3⟩ := ih hfl h
          exact ⟨⟨hx.1, hx.2.1, hx.2.2, nxt hx.1 h1, i1⟩, List.nodup_cons.2 ⟨nodup h2, i2⟩, fun m hm => (List.mem_cons.1 hm).elim (fun e => e ▸ hx.1) (i3 m)⟩
      · cases h
    | mk n =>
      replace h : boolK (hasB n.i (nextB l)) (boolK (hasB n.i (idxB l)) false (planB l)) false = true := h
      rcases bk h with ⟨h1, h⟩ | ⟨_, h⟩
      · rcases bk h with ⟨_, h⟩ | ⟨h2, h⟩
        · cases h
        · obtain ⟨i1, i2, i3⟩ := ih hfl h
          exact ⟨⟨hx.1, hx.2, nxt hx.1 h1, i1⟩, List.nodup_cons.2 ⟨nodup h2, i2⟩, fun m hm => (List.mem_cons.1 hm).elim (fun e => e ▸ hx.1) (i3 m)⟩
      · cases h
    | ef n =>
      replace h : boolK (allL (fun m => bitM n.i m.pr) (idxB l)) (boolK (noEfB l) (boolK (hasB n.i (idxB l)) false (planB l)) false) false = true := h
      rcases bk h with ⟨h1, h⟩ | ⟨_, h⟩
      · rcases bk h with ⟨h3, h⟩ | ⟨_, h⟩
        · rcases bk h with ⟨_, h⟩ | ⟨h2, h⟩
          · cases h
          · obtain ⟨i1, i2, i3⟩ := ih hfl h
            refine ⟨⟨hx.1, hx.2, fun m hm hin => ?_, ?_, i1⟩, List.nodup_cons.2 ⟨nodup h2, i2⟩, fun m hm => (List.mem_cons.1 hm).elim (fun e => e ▸ hx.1) (i3 m)⟩
            · rw [← idxB_eq] at hin
              obtain ⟨m2, hm2, he⟩ := List.mem_map.1 hin
              rw [← hu m2 (i3 m2 hm2) m hm he]
              exact allL_inv h1 m2 hm2
            · cases l with
              | nil => trivial
              | cons y l => cases y <;> first | trivial | cases h3
        · cases h
      · cases h
    | sync s =>
      cases l with
      | nil => exact ⟨⟨hx, .inl rfl, trivial⟩, by simp [idxD], by intro n hn; cases hn⟩
      | cons y l =>
        cases y with
        | ef n =>
          replace h : boolK (allL (fun m => boolK (bitM m.i n.pr) true (hasB m.i (nextB l))) s) (planB (.ef n :: l)) false = true := h
          rcases bk h with ⟨h1, h⟩ | ⟨_, h⟩
          · obtain ⟨i1, i2, i3⟩ := ih hfl h
            refine ⟨⟨hx, .inr ⟨n, l, rfl, fun m hm => ?_⟩, i1⟩, i2, i3⟩
            rcases bk (allL_inv h1 m hm) with ⟨h2, _⟩ | ⟨_, h2⟩
            · exact .inl h2
            · right
              rw [nextB_eq] at h2
              obtain ⟨m2, hm2, he⟩ := hasB_inv h2
              have hm2n : m2 ∈ ns := (sync1_mem (l := l) i1.2.2.2.2 hm2).1
              rw [← hu m2 hm2n m (hx m hm).1 he]; exact hm2
          · cases h
        | fl => cases h
        | mk => cases h
        | sync => cases h
theorem pbeq_eq : ∀ {p q : Gb.P}, pbeq p q = true → p = q := by
  intro p
  induction p with
  | z => intro q h; cases q <;> first | rfl | cases h
  | o p ih => intro q h; cases q <;> first | (rw [ih h]) | cases h
  | e p ih => intro q h; cases q <;> first | (rw [ih h]) | cases h
/-- The table tells who sets what. -/
structure Rep (l : List Nd) (t : T Nat) : Prop where
  one : ∀ n ∈ l, n.kd ≠ 2 → ∀ d, n.t.dst = some d → T.get d t = some (n.i + 1) ∧ ∀ m ∈ l, m.i ≠ n.i → setsB m.t d = false
  all : ∀ m ∈ l, ∀ d, m.t.dst = some d → T.get d t ≠ none
theorem setsB_no {n : Nd} {d d' : P} (h : n.t.dst = some d) (hd : d ≠ d') : setsB n.t d' = false := by
  unfold setsB
  rw [h]
  simp only
  cases hp : pbeq d d' with
  | false => rfl
  | true => exact absurd (pbeq_eq hp) hd
theorem setsB_none {n : Nd} {d : P} (h : n.t.dst = none) : setsB n.t d = false := by
  unfold setsB; rw [h]
theorem setK_inv : ∀ (ns pre : List Nd) (t : T Nat) {k : T Nat → Bool}, Rep pre t → setK ns t k = true → ∃ t', k t' = true ∧ Rep (pre ++ ns) t' := by
  intro ns
  induction ns with
  | nil => intro pre t k hr e; exact ⟨t, e, by rw [List.append_nil]; exact hr⟩
  | cons n ns ih =>
    intro pre t k hr e
    have go : ∀ {t'}, Rep (pre ++ [n]) t' → setK ns t' k = true → ∃ t', k t' = true ∧ Rep (pre ++ n :: ns) t' := by
      intro t' h1 h2
      obtain ⟨t2, h3, h4⟩ := ih (pre ++ [n]) t' h1 h2
      exact ⟨t2, h3, by rw [List.append_assoc] at h4; exact h4⟩
    cases hd : n.t.dst with
    | none =>
      have e2 : setK ns t k = true := by
        have : setK (n :: ns) t k = Option.rec (motive := fun _ => Bool) (setK ns t k) (fun d => Option.rec (motive := fun _ => Bool)
          (boolK (Nat.beq n.kd 2) (T.putK (some 0) d t fun t => setK ns t k) (natK (Nat.succ n.i) fun j => T.putK (some j) d t fun t => setK ns t k))
          (fun x => boolK (Nat.beq n.kd 2 && Nat.beq x 0) (setK ns t k) false) (T.get d t)) n.t.dst := rfl
        rw [this, hd] at e; exact e
      refine go ⟨fun m hm hk d hmd => ?_, fun m hm d hmd => ?_⟩ e2
      · rcases List.mem_append.1 hm with hm | hm
        · obtain ⟨h1, h2⟩ := hr.one m hm hk d hmd
          refine ⟨h1, fun m' hm' hne => ?_⟩
          rcases List.mem_append.1 hm' with hm' | hm'
          · exact h2 m' hm' hne
          · have : m' = n := by simpa using hm'
            subst this; exact setsB_none hd
        · have : m = n := by simpa using hm
          subst this; rw [hd] at hmd; cases hmd
      · rcases List.mem_append.1 hm with hm | hm
        · exact hr.all m hm d hmd
        · have : m = n := by simpa using hm
          subst this; rw [hd] at hmd; cases hmd
    | some d =>
      have e2 : Option.rec (motive := fun _ => Bool)
          (boolK (Nat.beq n.kd 2) (T.putK (some 0) d t fun t => setK ns t k) (natK (Nat.succ n.i) fun j => T.putK (some j) d t fun t => setK ns t k))
          (fun x => boolK (Nat.beq n.kd 2 && Nat.beq x 0) (setK ns t k) false) (T.get d t) = true := by
        have : setK (n :: ns) t k = Option.rec (motive := fun _ => Bool) (setK ns t k) (fun d => Option.rec (motive := fun _ => Bool)
          (boolK (Nat.beq n.kd 2) (T.putK (some 0) d t fun t => setK ns t k) (natK (Nat.succ n.i) fun j => T.putK (some j) d t fun t => setK ns t k))
          (fun x => boolK (Nat.beq n.kd 2 && Nat.beq x 0) (setK ns t k) false) (T.get d t)) n.t.dst := rfl
        rw [this, hd] at e; exact e
      have put : ∀ x, T.get d t = none → (n.kd ≠ 2 → x = n.i + 1) → Rep (pre ++ [n]) (T.put (some x) d t) := by
        intro x hn hx
        have nod : ∀ m ∈ pre, ∀ d', m.t.dst = some d' → d' ≠ d := fun m hm d' hmd e => by subst e; exact hr.all m hm _ hmd hn
        refine ⟨fun m hm hk d' hmd => ?_, fun m hm d' hmd => ?_⟩
        · rcases List.mem_append.1 hm with hm | hm
          · obtain ⟨h1, h2⟩ := hr.one m hm hk d' hmd
            have hne := nod m hm d' hmd
            refine ⟨by rw [T.get_put_ne _ _ _ _ (Ne.symm hne)]; exact h1, fun m' hm' hi => ?_⟩
            rcases List.mem_append.1 hm' with hm' | hm'
            · exact h2 m' hm' hi
            · have : m' = n := by simpa using hm'
              subst this; exact setsB_no hd (Ne.symm hne)
          · have : m = n := by simpa using hm
            subst this
            rw [hd] at hmd; cases hmd
            refine ⟨by rw [T.get_put_same, hx hk], fun m' hm' hi => ?_⟩
            rcases List.mem_append.1 hm' with hm' | hm'
            · cases hmd' : m'.t.dst with
              | none => exact setsB_none hmd'
              | some d2 => exact setsB_no hmd' (nod m' hm' d2 hmd')
            · have : m' = m := by simpa using hm'
              subst this; exact absurd rfl hi
        · by_cases hdd : d = d'
          · subst hdd; rw [T.get_put_same]; simp
          · rw [T.get_put_ne _ _ _ _ hdd]
            rcases List.mem_append.1 hm with hm | hm
            · exact hr.all m hm d' hmd
            · have : m = n := by simpa using hm
              subst this; rw [hd] at hmd; cases hmd; exact absurd rfl hdd
      cases hg : T.get d t with
      | none =>
        rw [hg] at e2
        replace e2 : boolK (Nat.beq n.kd 2) (T.putK (some 0) d t fun t => setK ns t k) (natK (Nat.succ n.i) fun j => T.putK (some j) d t fun t => setK ns t k) = true := e2
        rw [natK_eq, T.putK_eq, T.putK_eq] at e2
        rcases bk e2 with ⟨h1, e3⟩ | ⟨h1, e3⟩
        · exact go (put 0 hg fun h => absurd (beq2.1 h1) h) e3
        · exact go (put (n.i + 1) hg fun _ => rfl) e3
      | some x =>
        rw [hg] at e2
        rcases bk (show boolK (Nat.beq n.kd 2 && Nat.beq x 0) (setK ns t k) false = true from e2) with ⟨h1, e3⟩ | ⟨_, e3⟩
        · simp only [Bool.and_eq_true] at h1
          have hk := beq2.1 h1.1
          have hx := beq2.1 h1.2
          subst hx
          refine go ⟨fun m hm hk' d' hmd => ?_, fun m hm d' hmd => ?_⟩ e3
          · rcases List.mem_append.1 hm with hm | hm
            · obtain ⟨h1, h2⟩ := hr.one m hm hk' d' hmd
              refine ⟨h1, fun m' hm' hi => ?_⟩
              rcases List.mem_append.1 hm' with hm' | hm'
              · exact h2 m' hm' hi
              · have : m' = n := by simpa using hm'
                subst this
                refine setsB_no hd fun e => ?_
                subst e; rw [hg] at h1; cases h1
            · have : m = n := by simpa using hm
              subst this; exact absurd hk hk'
          · rcases List.mem_append.1 hm with hm | hm
            · exact hr.all m hm d' hmd
            · have : m = n := by simpa using hm
              subst this; rw [hd] at hmd; cases hmd; rw [hg]; simp
        · cases e3
theorem use_of {t : T Nat} {m : Nd} {d : P} (h : useT t m = true) (hu : usesB m.t d = true) : use1 t m d = true := by
  unfold useT at h
  unfold usesB at hu
  rcases bk h with ⟨h1, h2⟩ | ⟨_, h2⟩
  · rcases bk hu with ⟨h3, _⟩ | ⟨_, h4⟩
    · cases hg : m.t.g with
      | none => rw [hg] at h3; cases h3
      | some pb =>
        obtain ⟨p, b⟩ := pb
        rw [hg] at h1 h3
        have := pbeq_eq h3
        subst this; exact h1
    · obtain ⟨x, hx, hd⟩ := anyL_inv h4
      have h5 := allL_inv h2 x hx
      cases x with
      | c v => cases hd
      | r p =>
        have := pbeq_eq hd
        subst this; exact h5
  · cases h2
theorem sepT_inv {ns : List Nd} (h : sepT ns = true) : ∀ n ∈ ns, n.kd ≠ 2 → ∀ d, n.t.dst = some d → ∀ m ∈ ns, (m.i = n.i → usesB m.t d = false) ∧ (m.i ≠ n.i → setsB m.t d = false ∧ (usesB m.t d = true → bitM n.i m.pr = true)) := by
  unfold sepT at h
  obtain ⟨t, h1, hr⟩ := setK_inv ns [] .nil ⟨by simp, by simp⟩ h
  rw [List.nil_append] at hr
  intro n hn hk d hd m hm
  obtain ⟨g1, g2⟩ := hr.one n hn hk d hd
  have hu := allL_inv h1 m hm
  have key : usesB m.t d = true → n.i ≠ m.i ∧ bitM n.i m.pr = true := by
    intro hx
    have h3 := use_of hu hx
    unfold use1 at h3
    rw [g1] at h3
    rcases bk (show boolK (Nat.beq n.i m.i) false (bitM n.i m.pr) = true from h3) with ⟨_, h4⟩ | ⟨h5, h4⟩
    · cases h4
    · exact ⟨beq2f.1 h5, h4⟩
  refine ⟨fun he => ?_, fun he => ⟨g2 m hm he, fun hx => (key hx).2⟩⟩
  cases hx : usesB m.t d with
  | false => rfl
  | true => exact absurd he.symm (key hx).1
end Go.Gb
end
