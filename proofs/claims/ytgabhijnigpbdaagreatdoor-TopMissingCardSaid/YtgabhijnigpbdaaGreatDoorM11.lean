/- A part of the proof of the statement Rows.TopMissingCardSaid (at every argument the law returns true on every schedule, and its argument reads as before; the listed variables as laid). This text: a stepper over symbolic states of the translated program and its soundness, part 11 of 41. -/
import Derived.Test.YtgabhijnigpbdaaGreatDoorM10
section
/-! Operations, one by one: strings over bytes, rows cleared. -/
set_option linter.unusedSimpArgs false
set_option linter.unusedVariables false
set_option linter.unusedSectionVars false
namespace Go.Gb
open Go.Conc
/-- Cells of bytes, their bytes. -/
def ByteL : List V → List UInt8 → Prop
  | [], [] => True
  | v :: vs, b :: bs => (∃ n, v = .int .u8 (.ofNat n) ∧ b = n.toUInt8) ∧ ByteL vs bs
  | _, _ => False
theorem unbytes_step {C : Type} {c : V} {cs : List V} {k : Nat → O C} {r : C} (e : unbytes (c :: cs) k = some r) : ∃ n, c = .int .u8 (.ofNat n) ∧ unbytes cs (fun N => natK (Nat.add (Nat.mod n 256) (Nat.mul 256 N)) k) = some r := by
  cases c with
  | int kd n =>
    cases kd <;> cases n <;> first | exact ⟨_, rfl, e⟩ | cases e
  | _ => cases e
theorem unbytes_inv {C : Type} : ∀ {cs : List V} {k : Nat → O C} {r : C}, unbytes cs k = some r → ∃ bs, ByteL cs bs ∧ bs.length = cs.length ∧ k (numL bs) = some r
  | [], k, r, e => ⟨[], trivial, rfl, e⟩
  | c :: cs, k, r, e => by
    obtain ⟨n, rfl, e2⟩ := unbytes_step e
    obtain ⟨bs, h1, h2, h3⟩ := unbytes_inv e2
    rw [natK_eq] at h3
    refine ⟨n.toUInt8 :: bs, ⟨⟨n, rfl, rfl⟩, h1⟩, by simp [h2], ?_⟩
    have : numL (n.toUInt8 :: bs) = Nat.add (Nat.mod n 256) (Nat.mul 256 (numL bs)) := by
      simp only [numL]
      show _ = n % 256 + 256 * numL bs
      congr 1
    rw [this]; exact h3
theorem low_numL (bs : List UInt8) : low bs.length (numL bs) = numL bs := by
  unfold low
  exact Nat.mod_eq_of_lt (numL_lt bs)
section
variable {C : Type} {P : Program} {N0 : Nat} {mla : Addr} {ml : Gl} {vt : Vt} {own : Own} {n0 : Nat}
variable {σ : Sg} {h : Heap} {nx : Gb.P} {w : World} {regs : Regs} {a : Act} {k : K C} {r : C} {o : Oper}
theorem SW_loadBytes {ad : Addr} (hs : ad.spot = none) (hm : mine own n0 w ad.block ∨ ad.block < N0) : ∀ (cs : List V) (bs : List UInt8) (xs : List Value) (i : Nat) (acc : ByteArray) {Q : ByteArray → World → Prop},
    ByteL cs bs → VRL ml σ cs xs → (∀ (j : Nat) x, xs[j]? = some x → w.cell? ⟨ad.block, ad.off + i + j, none⟩ = some x) → Q ⟨acc.data ++ bs.toArray⟩ w → SW P N0 own n0 (loadBytes (ad.add i) acc cs.length) w Q
  | [], [], _, i, acc, Q, _, _, _, hq => by
    show Q acc w
    simpa using hq
  | v :: cs, b :: bs, x :: xs, i, acc, Q, hb, hv, hx, hq => by
    obtain ⟨⟨n, rfl, rfl⟩, hb⟩ := hb
    rw [List.length_cons, loadBytes, SW_bind]
    have h0 := hx 0 x rfl
    have hxv := vr_int hv.1
    refine SW_load (v := x) (by rw [add_place hs]; exact h0) (by rw [add_place hs]; exact hm) ?_
    rw [hxv]
    simp only
    have e1 : (ad.add i).add 1 = ad.add (i + 1) := by
      rw [add_place hs, add_place hs, add_place rfl]
      simp [Nat.add_assoc]
    rw [e1]
    refine SW_loadBytes hs hm cs bs xs (i + 1) _ hb hv.2 (fun j y hy => ?_) ?_
    · have := hx (j + 1) y (by simpa using hy)
      rw [show ad.off + (i + 1) + j = ad.off + i + (j + 1) by omega]; exact this
    · simpa [ByteArray.push] using hq
variable (H : AR N0 mla ml vt σ h nx own n0 w) (hr : RegR ml σ regs a)
 include H hr
theorem snd_usStr {x y : Opd} {x' y' : Operand} (hx : OpdR x x') (hy : OpdR y y') {c : Call} {pt el : TypeId} {ei : TypeInfo} (hc : c.callee = .builtin .unsafeString) (hargs : c.args = #[x', y']) (hat : c.argTypes[0]? = some pt) (hpt : P.underlying pt = some (.pointer el)) (he : P.info? el = some ei) (hes : ei.size = 1) (ho : o.op = .call c)
    (e : exec (.usStr el x y) regs h nx k = some r) : SW P N0 own n0 (execOp a.eval o) w (Out N0 mla ml vt own n0 σ k r) := by
  replace e : hUsStr el x y regs h nx k = some r := e
  obtain ⟨u, hu, e1⟩ := opd_rel hr hx e
  obtain ⟨v, hv, e2⟩ := opd_rel hr hy e1
  obtain ⟨kd, n, rfl, e3⟩ := nat0K_inv e2
  obtain ⟨hn, e4⟩ := boolK_inv e3
  have hn := Nat.le_of_ble_eq_true hn
  have hpos : ¬ (Int.ofNat n) < 0 := by simp
  have hmx : ¬ (Int.ofNat n) > IntKind.i64.max := by
    have h2 : IntKind.i64.max = 9223372036854775807 := by decide
    rw [h2]
    show ¬ ((n : Int) > 9223372036854775807)
    omega
  refine SW_builtin hc ho fun consts => ?_
  rw [hargs]
  have hm2 : (#[x', y'] : Array Operand).map a.eval = #[a.eval x', .int kd (.ofNat n)] := by simp [vr_int hv]
  rw [hm2]
  cases n with
  | zero =>
    unfold builtin
    cases u <;> (try simp only [reduceCtorEq] at e4)
    · obtain ⟨p, hp, hy⟩ := vr_ptr hu
      rw [hy]
      simp only
      conv in Builtin.unsafeString_ _ _ _ => whnf
      simp only [SW_bind, SW_pure, hat, if_neg hpos, if_neg hmx]
      exact out_pure H (v := .str 0 0) (by simp [VR, StrR, low, numL]) e4
    · rw [vr_nilp hu]
      simp only
      conv in Builtin.unsafeString_ _ _ _ => whnf
      simp only [SW_bind, SW_pure, hat, if_neg hpos, if_neg hmx]
      exact out_pure H (v := .str 0 0) (by simp [VR, StrR, low, numL]) e4
  | succ n =>
    obtain ⟨id, off, rfl, e5⟩ := ptrK_inv e4
    obtain ⟨cs, el', room, opn, fz, hg, hl, e6⟩ := readK_inv e5
    obtain ⟨bs, hb1, hb2, e7⟩ := unbytes_inv e6
    obtain ⟨ob, hob, e8⟩ := getOb_inv e7
    rw [hg] at hob
    cases hob
    obtain ⟨hel, e9⟩ := boolK_inv e8
    have hel := Nat.eq_of_beq_eq_true hel
    subst hel
    rw [natK_eq, T.putK_eq] at e9
    unfold vStr at e9
    rw [natK_eq, natK_eq] at e9
    obtain ⟨p, hp, hy⟩ := vr_ptr hu
    obtain ⟨xs, g1, g0, g2⟩ := H.cells hp hg off (n + 1)
    obtain ⟨obj, hobj, hrr⟩ := H.obs id p _ hp hg
    cases obj <;> simp only [ObR] at hrr
    rename_i c el2 fr
    obtain ⟨lo, hi⟩ := fr
    simp only [ObR] at hrr
    obtain ⟨r1, r2, r3, r4, r5, r6⟩ := hrr
    have hcl : off + (n + 1) ≤ cs.length := by
      rw [List.length_take, List.length_drop] at hl; omega
    have hcsz : p.sh + off + (n + 1) ≤ c.size := by
      obtain ⟨x0, hx0, _⟩ := r2 (off + n) _ (List.getElem?_eq_getElem (by omega))
      have := (Array.getElem?_eq_some_iff.1 hx0).1
      omega
    have hcz : P.cellsOf el' = 1 := by simp [Program.cellsOf, he, hes]
    have hlies : liesAt P P.depth el2 (c.size / P.cellsOf el2) (p.sh + off) el' (n + 1) = true := by
      rw [r1]
      have hd : P.depth = (2 * (P.types.size + Made.depth) + 1) + 1 := rfl
      rw [hd]
      simp only [liesAt, Bool.or_eq_true]
      left
      rw [hd]
      simp [rowAt, hcz, sameLayout, Nat.mod_one]
      left; omega
    rw [hy]
    unfold builtin
    simp only
    conv in Builtin.unsafeString_ _ _ _ => whnf
    simp only [SW_bind, SW_pure, hat, if_neg hpos, if_neg hmx]
    rw [if_neg (by
      intro hz
      have : ((n + 1 : Nat) : Int) = 0 := hz
      omega)]
    simp only [SW_bind, elemOf, SW_underlying hpt, SW_pure, variablesAt, SW_program, SW_row hobj, Int.toNat_natCast]
    have hnat : (Int.ofNat (n + 1)).toNat = n + 1 := rfl
    rw [hnat, hlies]
    simp only [if_true, SW_bind]
    have hlen1 : n + 1 = ((cs.drop off).take (n + 1)).length := hl.symm
    rw [hlen1]
    have hlb := SW_loadBytes (P := P) (N0 := N0) (own := own) (n0 := n0) (ml := ml) (σ := σ) (w := w) (ad := ⟨p.bl, p.sh + off, none⟩) rfl (.inl (H.has id p _ hp hg)) _ bs xs 0 .empty (Q := fun s w' =>
      SW P N0 own n0 (freeze ⟨p.bl, p.sh + off, none⟩ ((cs.drop off).take (n + 1)).length) w' fun v w'_1 => Out N0 mla ml vt own n0 σ k r (Next.value (Value.string s)) w'_1) hb1 g1 (fun j y hy => g2 j y hy) ?_
    · exact hlb
    · rw [hl]
      refine ⟨H.has id p _ hp hg, ?_⟩
      have hbl : bs.length = n + 1 := by rw [hb2, hl]
      generalize hfz : boolK (fz.ble (off.add (n + 1))) (off.add (n + 1)) fz = fz' at e9
      have hfz' : off + (n + 1) ≤ fz' ∧ fz ≤ fz' := by
        rw [← hfz]
        cases hb : fz.ble (off.add (n + 1)) with
        | true =>
          have := Nat.le_of_ble_eq_true hb
          show off + (n + 1) ≤ off.add (n + 1) ∧ fz ≤ off.add (n + 1)
          exact ⟨Nat.le_refl _, this⟩
        | false =>
          have : ¬ fz ≤ off + (n + 1) := fun z => by
            have := Nat.ble_eq_true_of_le z
            rw [show fz.ble (off + (n + 1)) = false from hb] at this
            cases this
          show off + (n + 1) ≤ fz ∧ fz ≤ fz
          omega
      have hget : (w.freeze ⟨p.bl, p.sh + off, none⟩ (n + 1)).heap[p.bl]? = some (.cells c el2 (if lo == hi then (p.sh + off, p.sh + off + (n + 1)) else (min lo (p.sh + off), max hi (p.sh + off + (n + 1))))) := by
        unfold World.freeze
        rw [if_neg (by omega)]
        show (w.heap.modify p.bl _)[p.bl]? = _
        rw [Array.getElem?_modify, if_pos rfl, hobj]
        rfl
      have hput := H.put hp hg (ob' := .row cs el' room opn fz') (w' := w.freeze ⟨p.bl, p.sh + off, none⟩ (n + 1)) ?_ hget ?_ ?_
      · refine ⟨_, σ, _, nx, .inl ⟨_, rfl, ?_⟩, Sub.refl _, hput, e9⟩
        simp only [VR]
        refine ⟨by simp [ByteArray.size, hbl], ?_⟩
        have := low_numL bs
        rw [hbl] at this
        have e0 : (ByteArray.empty.data ++ bs.toArray).toList = bs := by
          rw [Array.toList_append]; rfl
        rw [e0]; exact this
      · split
        · simp only [ObR]
          exact ⟨r1, r2, r3, r4, .inr (by omega), r6⟩
        · simp only [ObR]
          rename_i hne
          have hne' : lo ≠ hi := by simpa using hne
          exact ⟨r1, r2, r3, r4, .inr (by rcases r5 with r5 | r5 <;> omega), r6⟩
      · intro b hb
        simp [World.freeze, Array.getElem?_modify, Ne.symm hb]
      · simp [World.freeze]
 omit H hr in
theorem zeroCells_list (zero : Array Value) (n : Nat) : (Builtin.zeroCells zero n).toList = (List.replicate n zero.toList).flatten := rep_get zero n
theorem snd_clear {x : Opd} {x' : Operand} (hx : OpdR x x') {c : Call} {t el : TypeId} {ei : TypeInfo} {z : Value} {zs : List V} (hc : c.callee = .builtin .clear) (hargs : c.args = #[x']) (hat : c.argTypes[0]? = some t) (ht : P.underlying t = some (.slice el)) (he : P.info? el = some ei) (hz : ei.zero = some z)
    (hzs : ∀ σ, VRL ml σ zs z.cells.toList) (h1 : ∀ x ∈ z.cells.toList, OneCell x) (ho : o.op = .call c)
    (e : exec (.clearB zs x) regs h nx k = some r) : SW P N0 own n0 (execOp a.eval o) w (Out N0 mla ml vt own n0 σ k r) := by
  replace e : hClear zs x regs h nx k = some r := e
  obtain ⟨u, hu, e1⟩ := opd_rel hr hx e
  refine SW_builtin hc ho fun consts => ?_
  rw [hargs, map_one]
  unfold builtin Builtin.clear_
  have h0 : (#[a.eval x'] : Array Value)[0]? = some (a.eval x') := rfl
  simp only [hat, h0, SW_bind, SW_underlying ht]
  cases u with
  | nils =>
    rw [vr_nils hu]
    exact ⟨_, σ, h, nx, .inl ⟨_, rfl, by simp [VR, VRL]⟩, Sub.refl _, H, e1⟩
  | sl id off n cap =>
    obtain ⟨p, hp, hy⟩ := vr_sl hu
    rw [hy]
    replace e1 : lrepK n zs (fun cs => writeK id off cs h fun h => k (.tup []) h nx) = some r := e1
    rw [lrepK_eq] at e1
    have hv := vrl_rep (hzs σ) n
    have h1' : ∀ x ∈ (List.replicate n z.cells.toList).flatten, OneCell x := by
      intro x hx
      obtain ⟨l, hl, hxl⟩ := List.mem_flatten.1 hx
      rw [(List.mem_replicate.1 hl).2] at hxl
      exact h1 x hxl
    have fin : ∀ (h' : Heap) (w' : World), AR N0 mla ml vt σ h' nx own n0 w' → k (.tup []) h' nx = some r → Out N0 mla ml vt own n0 σ k r (.value (.tuple #[])) w' :=
      fun h' w' H' e' => ⟨_, σ, h', nx, .inl ⟨_, rfl, by simp [VR, VRL]⟩, Sub.refl _, H', e'⟩
    have st : ∀ {Q : Unit → World → Prop}, (∀ w' h', AR N0 mla ml vt σ h' nx own n0 w' → k (.tup []) h' nx = some r → Q () w') → SW P N0 own n0 (storeCells ⟨p.bl, p.sh + off, none⟩ (Builtin.zeroCells z.cells n).toList) w Q := by
      intro Q hQ
      rw [zeroCells_list]
      rcases writeK_inv e1 with ⟨e0, e2⟩ | ⟨cs, el2, room, opn, fz, hg, hf, ⟨hl, e2⟩ | ⟨hl, hl', e2⟩⟩
      · have : (List.replicate n z.cells.toList).flatten = [] := by
          have := hv.length; rw [e0] at this; exact List.length_eq_zero_iff.1 this.symm
        rw [this]
        exact hQ w h H e2
      · refine storeCells_within hp rfl rfl _ _ 0 H hg hl hf hv h1' rfl fun w' h' => hQ w' _ h' e2
      · subst hl
        refine storeCells_behind hp rfl rfl _ _ 0 H hg hl' hf hv h1' rfl fun w' h' => hQ w' _ h' e2
    cases n with
    | zero =>
      have e3 : k (.tup []) h nx = some r := e1
      exact fin h w H e3
    | succ n =>
      simp only [SW_bind, SW_zeroValue he hz]
      exact st fun w' h' H' e' => fin h' w' H' e'
  | _ => cases e1
end
end Go.Gb
end
section
/-! Operations, one by one: append. -/
set_option linter.unusedSimpArgs false
set_option linter.unusedVariables false
set_option linter.unusedSectionVars false
namespace Go.Gb
open Go.Conc
theorem growBy_le (m : Nat) : ∀ (n c : Nat), c ≤ m + (m + 768) / 4 → Builtin.growBy m n c ≤ m + (m + 768) / 4
  | 0, c, h => h
  | n + 1, c, h => by
    unfold Builtin.growBy
    split
    · exact h
    · exact growBy_le m n _ (by omega)
theorem nextcap_le {m c : Nat} (h : c < m) : Builtin.nextslicecap m c ≤ 2 * m + 192 := by
  unfold Builtin.nextslicecap
  split
  · omega
  · split
    · omega
    · have := growBy_le m 4 c (by omega)
      omega
section
variable {C : Type} {P : Program} {N0 : Nat} {mla : Addr} {ml : Gl} {vt : Vt} {own : Own} {n0 : Nat}
variable {σ : Sg} {h : Heap} {nx : Gb.P} {w : World} {regs : Regs} {a : Act} {k : K C} {r : C} {o : Oper}
/-- An id is given up: its block bears another. -/
theorem AR.alias (H : AR N0 mla ml vt σ h nx own n0 w) {id : Gb.P} {p : Pl} {ob ob' : Ob} {obj : Obj} {sh ex : Nat} (hp : σ id = some p) (ho : T.get id h = some ob) (hob : w.heap[p.bl]? = some obj) (hr : ObR ml σ ⟨p.bl, sh, ex⟩ ob' obj) :
    ∃ σ', Sub σ σ' ∧ σ' nx = some ⟨p.bl, sh, ex⟩ ∧ AR N0 mla ml vt σ' (T.put (some ob') nx (T.put none id h)) nx.succ own n0 w := by
  have hnx : σ nx = none := by
    cases e : σ nx with
    | none => rfl
    | some p => have := H.low _ _ e; omega
  have hin : id ≠ nx := fun e => by rw [e, hnx] at hp; cases hp
  have sub : Sub σ (fun id' => if id' = nx then some ⟨p.bl, sh, ex⟩ else σ id') := by
    intro id' p' hp'
    have : id' ≠ nx := fun e => by rw [e, hnx] at hp'; cases hp'
    simp [this, hp']
  have cases' : ∀ id' p', (if id' = nx then some (⟨p.bl, sh, ex⟩ : Pl) else σ id') = some p' → (id' = nx ∧ p' = ⟨p.bl, sh, ex⟩) ∨ (id' ≠ nx ∧ σ id' = some p') := by
    intro id' p' hp'
    by_cases e : id' = nx
    · simp [e] at hp'; exact .inl ⟨e, hp'.symm⟩
    · simp [e] at hp'; exact .inr ⟨e, hp'⟩
  have live : ∀ id' ob2, id' ≠ nx → T.get id' (T.put (some ob') nx (T.put none id h)) = some ob2 → id' ≠ id ∧ T.get id' h = some ob2 := by
    intro id' ob2 hne h2
    rw [T.get_put_ne _ _ _ _ (Ne.symm hne)] at h2
    by_cases e : id' = id
    · subst e; rw [T.get_put_same] at h2; cases h2
    · rw [T.get_put_ne _ _ _ _ (Ne.symm e)] at h2; exact ⟨e, h2⟩
  refine ⟨_, sub, by simp, ⟨?_, ?_, ?_, ?_, ?_, ?_, ?_, ?_, ?_, ?_, ?_, H.glob, H.n0le, H.apart⟩⟩
  · intro id' p' hp'
    rcases cases' id' p' hp' with ⟨_, rfl⟩ | ⟨_, hp'⟩
    · exact H.dom id p hp
    · exact H.dom id' p' hp'
  · intro id' p' ob2 hp' h2
    rcases cases' id' p' hp' with ⟨_, rfl⟩ | ⟨e, hp'⟩
    · exact H.has id p _ hp ho
    · exact H.has id' p' _ hp' (live _ _ e h2).2
  · intro id' p' hp'
    rw [P.toNat_succ]
    rcases cases' id' p' hp' with ⟨rfl, _⟩ | ⟨_, hp'⟩
    · omega
    · have := H.low id' p' hp'; omega
  · intro id' ob2 h2
    rw [P.toNat_succ]
    by_cases e : id' = nx
    · subst e; omega
    · have := H.hlow id' _ (live _ _ e h2).2; omega
  · intro i j p1 p2 o1 o2 h1 h2 h3 h4 hb
    rcases cases' i p1 h1 with ⟨e, ep⟩ | ⟨e, h1⟩ <;> rcases cases' j p2 h2 with ⟨e', ep'⟩ | ⟨e', h2⟩
    · rw [e, e']
    · obtain ⟨l1, l2⟩ := live _ _ e' h4
      rw [ep] at hb
      exact absurd (H.inj j id p2 p _ _ h2 hp l2 ho hb.symm) l1
    · obtain ⟨l1, l2⟩ := live _ _ e h3
      rw [ep'] at hb
      exact absurd (H.inj i id p1 p _ _ h1 hp l2 ho hb) l1
    · exact H.inj i j p1 p2 _ _ h1 h2 (live _ _ e h3).2 (live _ _ e' h4).2 hb
  · intro id' p' ob2 hp' h2
    rcases cases' id' p' hp' with ⟨e, ep⟩ | ⟨e, hp'⟩
    · subst e; subst ep
      rw [T.get_put_same] at h2
      cases h2
      exact ⟨obj, hob, hr.mono sub⟩
    · obtain ⟨o', ho', hr'⟩ := H.obs id' p' ob2 hp' (live _ _ e h2).2
      exact ⟨o', ho', hr'.mono sub⟩
  · intro id' hid
    obtain ⟨h1, h2⟩ := H.vts id' hid
    have : id' ≠ nx := by rintro rfl; omega
    exact ⟨by simp [this, h1], by rw [P.toNat_succ]; omega⟩
  · intro id' p' ob2 hp' h2
    rcases cases' id' p' hp' with ⟨e, _⟩ | ⟨_, hp'⟩
    · have := H.frl id' ob2 h2; rw [e] at this; omega
    · obtain ⟨o', ho', hr'⟩ := H.fr id' p' ob2 hp' h2
      exact ⟨o', ho', hr'.mono sub⟩
  · intro i j p1 p2 o1 o2 h1 h2 h3 h4
    rcases cases' i p1 h1 with ⟨e, _⟩ | ⟨_, h1⟩
    · have := H.frl i o1 h3; rw [e] at this; omega
    · rcases cases' j p2 h2 with ⟨e', ep'⟩ | ⟨e', h2⟩
      · rw [ep']
        exact H.frx i id p1 p _ _ h1 hp h3 ho
      · exact H.frx i j p1 p2 _ _ h1 h2 h3 (live _ _ e' h4).2
  · intro id' p' ob2 hp' h2
    rcases cases' id' p' hp' with ⟨e, _⟩ | ⟨_, hp'⟩
    · have := H.frl id' ob2 h2; rw [e] at this; omega
    · exact H.fro id' p' ob2 hp' h2
  · intro id' ob2 h2
    have := H.frl id' ob2 h2
    rw [P.toNat_succ]; omega
/-- An id is given up. -/
theorem AR.del (H : AR N0 mla ml vt σ h nx own n0 w) (id : Gb.P) : AR N0 mla ml vt σ (T.put none id h) nx own n0 w := by
  have live : ∀ id' ob2, T.get id' (T.put none id h) = some ob2 → T.get id' h = some ob2 := by
    intro id' ob2 h2
    by_cases e : id' = id
    · subst e; rw [T.get_put_same] at h2; cases h2
    · rw [T.get_put_ne _ _ _ _ (Ne.symm e)] at h2; exact h2
  exact ⟨H.dom, fun i p ob h1 h2 => H.has i p ob h1 (live _ _ h2), H.low, fun i ob h2 => H.hlow i ob (live _ _ h2), fun i j p q o1 o2 h1 h2 h3 h4 => H.inj i j p q o1 o2 h1 h2 (live _ _ h3) (live _ _ h4),
    fun i p ob h1 h2 => H.obs i p ob h1 (live _ _ h2), H.vts, H.fr, fun i j p q o1 o2 h1 h2 h3 h4 => H.frx i j p q o1 o2 h1 h2 h3 (live _ _ h4), H.fro, H.frl, H.glob, H.n0le, H.apart⟩
/-- What is appended: how much, which cells. -/
theorem elemsK_rel (H : AR N0 mla ml vt σ h nx own n0 w) {es : Nat} {v : V} {u : Value} {k : Nat → List V → O C} {r : C} (hv : VR ml σ v u) (e : elemsK es v h k = some r) :
    ∃ n cs, ∃ xs : Array Value, k n cs = some r ∧ cs.length = n * es ∧ VRL ml σ cs xs.toList ∧ (∀ x ∈ xs.toList, OneCell x) ∧ (∀ {Q : Nat → World → Prop}, Q n w → SW P N0 own n0 (Builtin.lenOf u) w Q) ∧
      ∀ (w' : World), w'.heap = w.heap → ∀ {Q : Array Value → World → Prop}, Q xs w' → SW P N0 own n0 (Builtin.firstCells es n u) w' Q := by
  cases v with
  | nils =>
    rw [vr_nils hv]
    exact ⟨0, [], #[], e, by simp, trivial, by simp, fun hq => hq, fun w' _ _ hq => hq⟩
  | str n N =>
    obtain ⟨s, rfl, hs⟩ := vr_str hv
    obtain ⟨h0, e0⟩ := boolK_inv e
    have := Nat.eq_of_beq_eq_true h0
    subst this
    obtain ⟨cs, h1, h2, h3⟩ := bytesL_rel (ml := ml) (σ := σ) hs e0
    have hsz : s.size = n := hs.1
    refine ⟨n, cs, s.data.map fun b => .int .u8 b.toNat, h3, by rw [h2]; simp, by simpa using h1, by simpa using one_bytes s.data.toList, fun hq => ?_, fun w' _ _ hq => ?_⟩
    · show _
      unfold Builtin.lenOf
      rw [SW_pure, hsz]; exact hq
    · unfold Builtin.firstCells
      rw [SW_pure, ← hsz, ByteArray.extract_zero_size]
      exact hq
  | sl id off len cap =>
    obtain ⟨p, hp, rfl⟩ := vr_sl hv
    obtain ⟨cs, el, room, opn, fz, hg, hl, e2⟩ := readK_inv e
    obtain ⟨xs, h1, h3, h2⟩ := H.cells hp hg off (len * es)
    refine ⟨len, _, xs.toArray, e2, hl, by simpa using h1, by simpa using h3, fun hq => hq, fun w' hw' Q hq => ?_⟩
    unfold Builtin.firstCells loadCells
    have hl' : (List.take (len * es) (List.drop off cs)).length = len * es := hl
    have hlen : len * es = xs.length := by rw [← h1.length, hl']
    rw [hlen]
    have hm : mine own n0 w' p.bl := by
      have := H.has id p _ hp hg
      unfold mine at this ⊢
      rw [hw']; exact this
    refine SW_loadCells rfl (.inl hm) xs 0 #[] (fun j y hy => ?_) (by simpa using hq)
    have := h2 j y hy
    unfold World.cell? at this ⊢
    rw [hw']; exact this
  | _ => cases e
theorem SW_room {n : Nat} {Q : Unit → World → Prop} (hq : Q () w) : SW P N0 own n0 (askRoom n) w Q := by
  unfold askRoom
  split
  · exact ⟨.inl rfl, hq⟩
  · exact hq
/-- The end of an append that grows. -/
theorem grow_rel (H : AR N0 mla ml vt σ h nx own n0 w) {el : TypeId} {es fz : Nat} {old new : List V} {oldX newX : Array Value} {m q : Nat} {zero : Array Value} (ho : VRL ml σ old oldX.toList) (ho1 : ∀ x ∈ oldX.toList, OneCell x) (hn : VRL ml σ new newX.toList) (hn1 : ∀ x ∈ newX.toList, OneCell x)
    (hz : zero.size = es) (hcz : ml.cz el = es) (e : growK el fz old new m h nx k = some r) :
    Out N0 mla ml vt own n0 σ k r (.value (.slice (some ⟨w.heap.size, 0, none⟩) m (m + q))) { w with heap := w.heap.push (.cells (oldX ++ newX ++ Builtin.zeroCells zero (m + q - m)) el (0, 0)) } := by
  unfold growK at e
  rw [lappK_eq, natK_eq] at e
  replace e := newOb_new e
  refine out_open H (cs := old ++ new) (xs := oldX ++ newX) (ys := Builtin.zeroCells zero (m + q - m)) (ex := q) (by simpa using vrl_append ho hn) ?_ ?_ (.inl rfl) ?_ e
  · intro x hx
    simp only [Array.toList_append, List.mem_append] at hx
    exact hx.elim (ho1 x) (hn1 x)
  · rw [hcz, ← hz]
    unfold Builtin.zeroCells
    simp
  · intro σ' s1 s2
    simp only [VR]
    exact ⟨_, s2, by simp⟩
variable (H : AR N0 mla ml vt σ h nx own n0 w) (hr : RegR ml σ regs a)
 include H hr
theorem snd_append {x y : Opd} {x' y' : Operand} (hx : OpdR x x') (hy : OpdR y y') {c : Call} {t xt el : TypeId} {xd : TypeDesc} {ei : TypeInfo} {z : Value} (hc : c.callee = .builtin .append) (hargs : c.args = #[x', y']) (hat : c.argTypes[0]? = some t) (hat1 : c.argTypes[1]? = some xt)
    (ht : P.underlying t = some (.slice el)) (hxt : P.underlying xt = some xd) (hxd : ∀ kd, xd ≠ .int kd) (he : P.info? el = some ei) (hz : ei.zero = some z) (hzs : z.cells.size = ei.size) (hs0 : ei.size ≠ 0) (hb : ei.bytes ≤ 1048576) (hcz : ml.cz el = ei.size) (ho : o.op = .call c)
    (e : exec (.append el ei.size x y) regs h nx k = some r) : SW P N0 own n0 (execOp a.eval o) w (Out N0 mla ml vt own n0 σ k r) := by
  replace e : hAppend el ei.size x y regs h nx k = some r := e
  obtain ⟨u, hu, e1⟩ := opd_rel hr hx e
  obtain ⟨v, hv, e2⟩ := opd_rel hr hy e1
  obtain ⟨n, new, newX, e3, hnl, hn, hn1, hlen, hfirst⟩ := elemsK_rel H hv e2
  refine SW_builtin hc ho fun consts => ?_
  rw [hargs]
  have hm2 : (#[x', y'] : Array Operand).map a.eval = #[a.eval x', a.eval y'] := by simp
  rw [hm2]
  unfold builtin Builtin.append_
  have h0 : (#[a.eval x', a.eval y'] : Array Value)[0]? = some (a.eval x') := rfl
  have h1 : (#[a.eval x', a.eval y'] : Array Value)[1]? = some (a.eval y') := rfl
  rw [SW_bind, hat, h0, h1, hat1]
  show SW P N0 own n0 (underlying t >>= _) w _
  rw [SW_bind, SW_underlying ht]
  -- what grows
  have big : ∀ (need sCap : Nat), sCap < need → need ≤ 1048576 → ¬ (Builtin.nextslicecap need sCap * ei.bytes > 2 ^ 48) := by
    intro need sCap h1 h2
    have h3 := nextcap_le h1
    have : Builtin.nextslicecap need sCap * ei.bytes ≤ (2 * need + 192) * 1048576 := Nat.mul_le_mul h3 hb
    omega
  have notmax : ∀ need : Nat, need ≤ 1048576 → ¬ ((need : Int) > IntKind.i64.max) := by
    intro need h
    have h2 : IntKind.i64.max = 9223372036854775807 := by decide
    rw [h2]; omega
  cases u with
  | nils =>
    rw [vr_nils hu]
    show SW P N0 own n0 (sizeOf el >>= _) w _
    rw [SW_bind, SW_sizeOf he]
    show SW P N0 own n0 (underlying xt >>= _) w _
    rw [SW_bind, SW_underlying hxt, SW_bind, SW_pure]
    split
    · exact absurd rfl (hxd _)
    show SW P N0 own n0 (Builtin.lenOf (a.eval y') >>= _) w _
    rw [SW_bind]
    refine hlen ?_
    cases n with
    | zero =>
      have e4 : k .nils h nx = some r := e3
      show SW P N0 own n0 (Builtin.firstCells ei.size 0 (a.eval y') >>= _) w _
      rw [SW_bind]
      refine hfirst w rfl ?_
      show SW P N0 own n0 (pure (Value.slice none 0 0)) w _
      rw [SW_pure, SW_pure]
      exact out_pure H (by simp [VR]) e4
    | succ n =>
      obtain ⟨hle, e5⟩ := boolK_inv e3
      have hle := Nat.le_of_ble_eq_true hle
      show SW P N0 own n0 (if 0 + (n + 1) ≤ 0 then _ else _) w _
      rw [if_neg (by omega)]
      rw [SW_bind, SW_typeInfo he]
      show SW P N0 own n0 (if ((0 + (n + 1) : Nat) : Int) > IntKind.i64.max ∧ _ then _ else _) w _
      rw [if_neg (by intro hh; exact notmax _ (by omega) hh.1)]
      show SW P N0 own n0 (typeInfo el >>= _) w _
      rw [SW_bind, SW_typeInfo he]
      show SW P N0 own n0 (if Builtin.nextslicecap (0 + (n + 1)) 0 * ei.bytes > 2 ^ 48 then _ else _) w _
      rw [if_neg (big _ _ (by omega) (by omega))]
      show SW P N0 own n0 (choose _ >>= _) w _
      rw [SW_bind, SW_choose]
      refine .inr ⟨rfl, ?_⟩
      have hcut : ∀ t, Question.cut (.appendCap (0 + (n + 1)) 0 el) t = (0 + (n + 1)) + t % (2 ^ 63 - (0 + (n + 1))) := fun _ => rfl
      rw [hcut]
      generalize w.tape w.drawn (.appendCap (0 + (n + 1)) 0 el) % (2 ^ 63 - (0 + (n + 1))) = q
      rw [SW_bind, SW_typeInfo he, SW_bind]
      refine SW_room ?_
      show SW P N0 own n0 (pure #[] >>= _) _ _
      rw [SW_bind, SW_pure]
      show SW P N0 own n0 (Builtin.firstCells ei.size (n + 1) (a.eval y') >>= _) _ _
      rw [SW_bind]
      refine hfirst { w with drawn := w.drawn + 1 } rfl ?_
      rw [SW_bind, SW_zeroValue he hz, SW_bind]
      unfold newRow
      rw [SW_bind, SW_newObj, SW_pure, SW_pure, SW_pure]
      have hg := grow_rel (H.drawn (d := w.drawn + 1)) (old := []) (oldX := #[]) (q := q) trivial (by simp) hn hn1 hzs hcz e5
      rw [Nat.zero_add]
      exact hg
  | sl id off len cap =>
    obtain ⟨p, hp, hy⟩ := vr_sl hu
    rw [hy]
    show SW P N0 own n0 (sizeOf el >>= _) w _
    rw [SW_bind, SW_sizeOf he]
    show SW P N0 own n0 (underlying xt >>= _) w _
    rw [SW_bind, SW_underlying hxt, SW_bind, SW_pure]
    split
    · exact absurd rfl (hxd _)
    show SW P N0 own n0 (Builtin.lenOf (a.eval y') >>= _) w _
    rw [SW_bind]
    refine hlen ?_
    show SW P N0 own n0 (if len + n ≤ cap + p.ex then _ else _) w _
    replace e3 : boolK (Nat.ble (Nat.add len n) cap)
      (writeK id (Nat.add off (Nat.mul len ei.size)) new h fun h => natK (Nat.add len n) fun l => k (.sl id off l cap) h nx)
      (boolK (Nat.ble (Nat.add len n) 1048576) (readK id off (Nat.mul len ei.size) h fun old => getOb id h fun o => match o with
        | .row cs el' room opn fz =>
          boolK opn (boolK (Nat.beq len cap && (Nat.beq (Nat.add off (Nat.mul cap ei.size)) (llen cs 0) && (Nat.beq el' el && (Nat.beq room 0 && Nat.ble fz (Nat.add off (Nat.mul len ei.size))))))
              (T.putK none id h fun h => natK (Nat.sub fz off) fun fz => growK el fz old new (Nat.add len n) h nx k) none)
            (growK el 0 old new (Nat.add len n) h nx k)
        | _ => none) none) = some r := e3
    have hadd : (⟨p.bl, p.sh + off, none⟩ : Addr).add (len * ei.size) = ⟨p.bl, p.sh + (off + len * ei.size), none⟩ := by
      rw [add_place rfl]; simp [Nat.add_assoc]
    rcases boolK_cases e3 with ⟨hle, e4⟩ | ⟨hle, e4⟩
    · have hle : len + n ≤ cap := Nat.le_of_ble_eq_true hle
      rw [if_pos (by omega)]
      show SW P N0 own n0 (Builtin.firstCells ei.size n (a.eval y') >>= _) w _
      rw [SW_bind]
      refine hfirst w rfl ?_
      show SW P N0 own n0 (storeCells ((⟨p.bl, p.sh + off, none⟩ : Addr).add (len * ei.size)) newX.toList >>= _) w _
      rw [SW_bind, hadd]
      have fin : ∀ (h' : Heap) (w' : World), AR N0 mla ml vt σ h' nx own n0 w' → natK (Nat.add len n) (fun l => k (.sl id off l cap) h' nx) = some r → Out N0 mla ml vt own n0 σ k r (.value (.slice (some ⟨p.bl, p.sh + off, none⟩) (len + n) (cap + p.ex))) w' := by
        intro h' w' H' e'
        rw [natK_eq] at e'
        exact ⟨_, σ, h', nx, .inl ⟨_, rfl, by simp only [VR]; exact ⟨p, hp, rfl, rfl, rfl⟩⟩, Sub.refl _, H', e'⟩
      rcases writeK_inv e4 with ⟨e0, e5⟩ | ⟨cs, el2, room, opn, fz, hg, hf, ⟨hl, e5⟩ | ⟨hl, hl', e5⟩⟩
      · have : newX.toList = [] := by
          have := hn.length; rw [e0] at this; exact List.length_eq_zero_iff.1 this.symm
        rw [this]
        exact fin h w H e5
      · refine storeCells_within hp rfl rfl _ _ 0 H hg hl hf hn hn1 rfl fun w' h' => ?_
        exact fin _ w' h' e5
      · refine storeCells_behind hp rfl rfl _ _ 0 H hg hl' (hl ▸ hf) hn hn1 (by rw [← hl]; rfl) fun w' h' => ?_
        exact fin _ w' h' e5
    · have hgt : ¬ len + n ≤ cap := fun z => by
        have := Nat.ble_eq_true_of_le z
        rw [show (len.add n).ble cap = (len + n).ble cap from rfl, this] at hle
        cases hle
      obtain ⟨hsm, e5⟩ := boolK_inv e4
      have hsm : len + n ≤ 1048576 := Nat.le_of_ble_eq_true hsm
      obtain ⟨cs, el2, room, opn, fz, hg, hol, e6⟩ := readK_inv e5
      obtain ⟨ob, hob, e7⟩ := getOb_inv e6
      rw [hg] at hob
      cases hob
      simp only at e7
      generalize hold : List.take (len.mul ei.size) (List.drop off cs) = old at *
      have hol : old.length = len * ei.size := hol
      obtain ⟨oldX, g1, g0, g2⟩ := H.cells hp hg off (len * ei.size)
      have hold' : List.take (len * ei.size) (List.drop off cs) = old := hold
      rw [hold'] at g1
      have holdx : oldX.length = len * ei.size := by rw [← g1.length]; exact hol
      have oldCells : ∀ {Q : Array Value → World → Prop} (w' : World), w'.heap = w.heap → Q oldX.toArray w' → SW P N0 own n0 (Builtin.firstCells ei.size len (.slice (some ⟨p.bl, p.sh + off, none⟩) len (cap + p.ex))) w' Q := by
        intro Q w' hw' hq
        unfold Builtin.firstCells loadCells
        rw [← holdx]
        have hm : mine own n0 w' p.bl := by
          have := H.has id p _ hp hg
          unfold mine at this ⊢
          rw [hw']; exact this
        refine SW_loadCells rfl (.inl hm) oldX 0 #[] (fun j y hy => ?_) (by simpa using hq)
        have := g2 j y hy
        unfold World.cell? at this ⊢
        rw [hw']; exact this
      by_cases hin : len + n ≤ cap + p.ex
      · rw [if_pos hin]
        rcases boolK_cases e7 with ⟨hopn, e8⟩ | ⟨hopn, e8⟩
        · subst hopn
          obtain ⟨hc, e9⟩ := boolK_inv e8
          simp only [Bool.and_eq_true] at hc
          obtain ⟨c1, c2, c3, c4, c5⟩ := hc
          have c1 := Nat.eq_of_beq_eq_true c1
          have c2 : off + cap * ei.size = cs.length := by
            have := Nat.eq_of_beq_eq_true c2
            rw [llen_eq, Nat.zero_add] at this; exact this
          have c3 := Nat.eq_of_beq_eq_true c3
          have c4 := Nat.eq_of_beq_eq_true c4
          have c5 : fz ≤ off + len * ei.size := Nat.le_of_ble_eq_true c5
          subst c1; subst c3; subst c4
          rw [T.putK_eq, natK_eq] at e9
          unfold growK at e9
          rw [lappK_eq, natK_eq] at e9
          replace e9 := newOb_new e9
          obtain ⟨obj, hobj, hrr⟩ := H.obs id p _ hp hg
          cases obj <;> simp only [ObR] at hrr
          rename_i c2' el3 fr
          obtain ⟨lo, hi⟩ := fr
          simp only [ObR] at hrr
          obtain ⟨r1, r2, r3, r4, r5, r6⟩ := hrr
          have r6 := r6 trivial
          rw [hcz] at r6
          obtain ⟨ex', hex'⟩ : ∃ ex', len + p.ex = len + n + ex' := ⟨len + p.ex - (len + n), by omega⟩
          have hmul : p.ex * ei.size = n * ei.size + ex' * ei.size := by
            have : p.ex = n + ex' := by omega
            rw [this, Nat.add_mul]
          have hrow : ObR ml σ ⟨p.bl, p.sh + off, ex'⟩ (.row old el2 (n * ei.size) true (Nat.sub fz off)) (.cells c2' el3 (lo, hi)) := by
            simp only [ObR]
            refine ⟨r1, fun i v hi => ?_, fun i hi => by rw [hol]; omega, fun z => (by cases z), ?_, fun _ => by rw [hcz, hol]; omega⟩
            · rw [← hold] at hi
              have hi' : cs[off + i]? = some v := by
                rw [List.getElem?_take] at hi
                split at hi
                · simpa using hi
                · cases hi
              obtain ⟨x0, q1, q2⟩ := r2 _ _ hi'
              exact ⟨x0, by rw [show p.sh + off + i = p.sh + (off + i) by omega]; exact q1, q2⟩
            · rcases r5 with r5 | r5
              · exact .inl r5
              · refine .inr ?_
                have : Nat.sub fz off = fz - off := rfl
                rw [this]; omega
          obtain ⟨σ', s1, s2, s3⟩ := H.alias hp hg hobj hrow
          show SW P N0 own n0 (Builtin.firstCells ei.size n (a.eval y') >>= _) w _
          rw [SW_bind]
          refine hfirst w rfl ?_
          show SW P N0 own n0 (storeCells ((⟨p.bl, p.sh + off, none⟩ : Addr).add (len * ei.size)) newX.toList >>= _) w _
          rw [SW_bind, hadd]
          have hn' := VRL.mono s1 new _ hn
          refine storeCells_behind (id := nx) s2 rfl rfl new newX.toList 0 s3 (T.get_put_same _ _ _) (by rw [hnl]; exact Nat.le_refl _) ?_ hn' hn1 ?_ fun w' h' => ?_
          · have : Nat.sub fz off = fz - off := rfl
            rw [this, hol]; omega
          · rw [hol]
            show p.sh + (off + len * ei.size) + 0 = p.sh + off + len * ei.size
            omega
          · rw [T.put_put, hnl, Nat.sub_self] at h'
            refine ⟨_, σ', _, _, .inl ⟨_, rfl, ?_⟩, s1, h', e9⟩
            simp only [VR]
            refine ⟨_, s2, rfl, rfl, ?_⟩
            show len + p.ex = Nat.add len n + ex'
            exact hex'
        · subst hopn
          have hx0 := (row_closed H hp hg).1
          omega
      · rw [if_neg hin]
        obtain ⟨h', fz', H', e8⟩ : ∃ h' fz', AR N0 mla ml vt σ h' nx own n0 w ∧ growK el fz' old new (len + n) h' nx k = some r := by
          rcases boolK_cases e7 with ⟨hopn, e8⟩ | ⟨hopn, e8⟩
          · obtain ⟨_, e9⟩ := boolK_inv e8
            rw [T.putK_eq, natK_eq] at e9
            exact ⟨_, _, H.del id, e9⟩
          · exact ⟨_, _, H, e8⟩
        show SW P N0 own n0 (typeInfo el >>= _) w _
        rw [SW_bind, SW_typeInfo he]
        show SW P N0 own n0 (if ((len + n : Nat) : Int) > IntKind.i64.max ∧ _ then _ else _) w _
        rw [if_neg (by intro hh; exact notmax _ (by omega) hh.1)]
        show SW P N0 own n0 (typeInfo el >>= _) w _
        rw [SW_bind, SW_typeInfo he]
        show SW P N0 own n0 (if Builtin.nextslicecap (len + n) (cap + p.ex) * ei.bytes > 2 ^ 48 then _ else _) w _
        rw [if_neg (big _ _ (by omega) (by omega))]
        show SW P N0 own n0 (choose _ >>= _) w _
        rw [SW_bind, SW_choose]
        refine .inr ⟨rfl, ?_⟩
        have hcut : ∀ t, Question.cut (.appendCap (len + n) (cap + p.ex) el) t = (len + n) + t % (2 ^ 63 - (len + n)) := fun _ => rfl
        rw [hcut]
        generalize w.tape w.drawn (.appendCap (len + n) (cap + p.ex) el) % (2 ^ 63 - (len + n)) = q
        rw [SW_bind, SW_typeInfo he, SW_bind]
        refine SW_room ?_
        show SW P N0 own n0 (Builtin.firstCells ei.size len _ >>= _) _ _
        rw [SW_bind]
        refine oldCells { w with drawn := w.drawn + 1 } rfl ?_
        show SW P N0 own n0 (Builtin.firstCells ei.size n (a.eval y') >>= _) _ _
        rw [SW_bind]
        refine hfirst { w with drawn := w.drawn + 1 } rfl ?_
        rw [SW_bind, SW_zeroValue he hz, SW_bind]
        unfold newRow
        rw [SW_bind, SW_newObj, SW_pure, SW_pure, SW_pure]
        exact grow_rel (H'.drawn (d := w.drawn + 1)) (old := old) (oldX := oldX.toArray) (q := q) (by simpa using g1) (by simpa using g0) hn hn1 hzs hcz e8
  | _ => cases e3
end
end Go.Gb
end
