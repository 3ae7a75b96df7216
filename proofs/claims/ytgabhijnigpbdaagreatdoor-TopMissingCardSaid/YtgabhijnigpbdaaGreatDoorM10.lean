/- A part of the proof of the statement Rows.TopMissingCardSaid (at every argument the law returns true on every schedule, and its argument reads as before; the listed variables as laid). This text: a stepper over symbolic states of the translated program and its soundness, part 10 of 41. -/
import Derived.Test.YtgabhijnigpbdaaGreatDoorM09
section
/-! Operations, one by one: bytes and strings; minima. -/
set_option linter.unusedSimpArgs false
set_option linter.unusedVariables false
set_option linter.unusedSectionVars false
namespace Go.Gb
open Go.Conc
theorem bytesL_eq {C : Type} : ∀ (l : List UInt8) (N : Nat) (k : List V → O C), N % 256 ^ l.length = numL l → bytesL l.length N k = k (l.map fun b => V.int .u8 (Int.ofNat b.toNat))
  | [], _, _, _ => rfl
  | b :: l, N, k, h => by
    obtain ⟨h1, h2⟩ := num_head h
    show natK (Nat.mod N 256) (fun b => natK (Nat.div N 256) fun N => bytesL l.length N fun r => k (.int .u8 (.ofNat b) :: r)) = _
    rw [natK_eq, natK_eq]
    have e1 : Nat.mod N 256 = b.toNat := h1
    have e2 : Nat.div N 256 = N / 256 := rfl
    rw [e1, e2, bytesL_eq l (N / 256) _ h2]
    rfl
theorem vrl_bytes {ml : Gl} {σ : Sg} : ∀ (l : List UInt8), VRL ml σ (l.map fun b => V.int .u8 (Int.ofNat b.toNat)) (l.map fun b => Value.int .u8 (b.toNat : Int))
  | [] => trivial
  | b :: l => ⟨by simp [VR], vrl_bytes l⟩
theorem one_bytes (l : List UInt8) : ∀ x ∈ l.map (fun b => Value.int .u8 (b.toNat : Int)), OneCell x := by
  intro x hx
  obtain ⟨b, _, rfl⟩ := List.mem_map.1 hx
  trivial
section
variable {C : Type} {P : Program} {N0 : Nat} {mla : Addr} {ml : Gl} {vt : Vt} {own : Own} {n0 : Nat}
variable {σ : Sg} {h : Heap} {nx : Gb.P} {w : World} {regs : Regs} {a : Act} {k : K C} {r : C} {o : Oper}
theorem bytesL_rel {n N : Nat} {s : ByteArray} {k : List V → O C} {r : C} (hs : StrR n N s) (e : bytesL n N k = some r) : ∃ cs, VRL ml σ cs (s.data.toList.map fun b => Value.int .u8 (b.toNat : Int)) ∧ cs.length = n ∧ k cs = some r := by
  have hl : s.data.toList.length = n := by simpa using hs.1
  have := bytesL_eq s.data.toList N k (by rw [hl]; exact hs.2)
  rw [hl] at this
  rw [this] at e
  exact ⟨_, vrl_bytes _, by simp [hs.1], e⟩
/-- A new row whose slices have more room than is known. -/
theorem out_open (H : AR N0 mla ml vt σ h nx own n0 w) {cs : List V} {xs : Array Value} {el : TypeId} {fz ex lo hi : Nat} {ys : Array Value} (hv : VRL ml σ cs xs.toList) (h1 : ∀ x ∈ xs.toList, OneCell x) (hys : ys.size = ex * ml.cz el) (hf : lo = hi ∨ hi ≤ fz) {v : V} {u : Value}
    (hu : ∀ σ', Sub σ σ' → σ' nx = some ⟨w.heap.size, 0, ex⟩ → VR ml σ' v u) (e : k v (T.put (some (.row cs el 0 true fz)) nx h) nx.succ = some r) :
    Out N0 mla ml vt own n0 σ k r (.value u) { w with heap := w.heap.push (.cells (xs ++ ys) el (lo, hi)) } := by
  have hob : ObR ml σ ⟨w.heap.size, 0, ex⟩ (.row cs el 0 true fz) (.cells (xs ++ ys) el (lo, hi)) := by
    simp only [ObR]
    have hlen : cs.length = xs.size := by rw [hv.length]; simp
    refine ⟨trivial, fun i v hi => ?_, fun i hi => by omega, fun z => (by cases z), by simpa using hf, fun _ => by simp [hys, hlen]⟩
    obtain ⟨x, hx, hxv⟩ := hv.get hi
    have hx' : xs[i]? = some x := by simpa using hx
    have hlt := (Array.getElem?_eq_some_iff.1 hx').1
    exact ⟨x, by rw [Nat.zero_add, Array.getElem?_append_left hlt]; exact hx', hxv, h1 x (by simpa using Array.mem_of_getElem? hx')⟩
  obtain ⟨σ', s1, s2, s3, s4⟩ := H.new hob
  exact ⟨v, σ', _, _, .inl ⟨u, rfl, hu σ' s1 s2⟩, s1, s3, e⟩
theorem SW_choose {q : Question} {Q : Nat → World → Prop} : SW P N0 own n0 (choose q) w Q ↔ ((q.forced = true ∧ Q 0 w) ∨ (q.forced = false ∧ Q (q.cut (w.tape w.drawn q)) { w with drawn := w.drawn + 1 })) := Iff.rfl
theorem AR.drawn {d : Nat} (H : AR N0 mla ml vt σ h nx own n0 w) : AR N0 mla ml vt σ h nx own n0 { w with drawn := d } := ⟨H.dom, H.has, H.low, H.hlow, H.inj, H.obs, H.vts, H.fr, H.frx, H.fro, H.frl, H.glob, H.n0le, H.apart⟩
theorem freeze_push {w : World} {c : Array Value} {el : TypeId} {off : Nat} : ({ w with heap := w.heap.push (.cells c el (0, 0)) } : World).freeze ⟨w.heap.size, off, none⟩ 1 = { w with heap := w.heap.push (.cells c el (off, off + 1)) } := by
  unfold World.freeze
  rw [if_neg (by decide)]
  congr 1
  apply Array.ext_getElem?
  intro i
  rw [Array.getElem?_modify]
  by_cases e : w.heap.size = i
  · subst e; simp
  · rw [if_neg e, Array.getElem?_push, Array.getElem?_push]
    rw [if_neg (by omega), if_neg (by omega)]
variable (H : AR N0 mla ml vt σ h nx own n0 w) (hr : RegR ml σ regs a)
 include H hr
theorem snd_S2B {x : Opd} {x' : Operand} (hx : OpdR x x') {s d el : TypeId} (hs : P.underlying s = some .string) (hd : P.underlying d = some (.slice el)) (hel : P.underlying el = some (.int .u8)) (hcz : ml.cz el = 1) (ho : o.op = .convert s d x')
    (e : exec (.convS2B el x) regs h nx k = some r) : SW P N0 own n0 (execOp a.eval o) w (Out N0 mla ml vt own n0 σ k r) := by
  replace e : hS2B el x regs h nx k = some r := e
  obtain ⟨v, hv, e1⟩ := opd_rel hr hx e
  obtain ⟨n, N, rfl, e2⟩ := strK_inv e1
  obtain ⟨hn, e2⟩ := boolK_inv e2
  have hn := Nat.le_of_ble_eq_true hn
  obtain ⟨st, hst, hsr⟩ := vr_str hv
  obtain ⟨cs, hcs, hcl, e3⟩ := bytesL_rel (ml := ml) (σ := σ) hsr e2
  replace e3 := newOb_new e3
  have hsz : st.size = n := hsr.1
  unfold execOp
  simp only [ho, hst, convert]
  rw [SW_bind, SW_bind, SW_underlying hs, SW_bind, SW_underlying hd]
  simp only
  rw [SW_bind, SW_underlying hel]
  simp only [Conv.stringToBytes]
  rw [SW_bind, SW_choose]
  refine .inr ⟨rfl, ?_⟩
  generalize ht : w.tape w.drawn (.appendCap st.size 0 el) = t
  have hcut : Question.cut (.appendCap st.size 0 el) t = st.size + t % (2 ^ 63 - st.size) := rfl
  rw [hcut]
  generalize hq : t % (2 ^ 63 - st.size) = q
  have hq' : st.size + q - st.size = q := by omega
  have hqb : q < 2 ^ 63 := by
    have : t % (2 ^ 63 - st.size) < 2 ^ 63 - st.size := Nat.mod_lt _ (by omega)
    omega
  simp only [newRow, SW_bind, SW_newObj, SW_pure, hq', markStringish]
  rw [SW_row (c := st.data.map (fun b => .int .u8 b.toNat) ++ Array.replicate q (.int .u8 0)) (t := el) (f := (0, 0)) (by simp)]
  simp only
  refine ⟨.inr ⟨H.n0le.2, by simp⟩, ?_⟩
  show Out N0 mla ml vt own n0 σ k r _ (World.freeze _ _ _)
  have := freeze_push (w := { w with drawn := w.drawn + 1 }) (c := st.data.map (fun b => .int .u8 b.toNat) ++ Array.replicate q (.int .u8 0)) (el := el) (off := (st.data.map (fun b => .int .u8 b.toNat) ++ Array.replicate q (.int .u8 0) : Array Value).size)
  refine Eq.mpr (congrArg _ this) ?_
  refine out_open (H.drawn (d := w.drawn + 1)) (cs := cs) (xs := st.data.map (fun b => .int .u8 b.toNat)) (ys := Array.replicate q (.int .u8 0)) (ex := q) (el := el) (fz := 18446744073709551616) (by simpa using hcs) (by simpa using one_bytes st.data.toList) (by simp [hcz]) (.inr ?_) ?_ e3
  · simp only [Array.size_append, Array.size_map, Array.size_replicate]
    have : st.data.size = n := hsz
    omega
  · intro σ' s1 s2
    simp only [VR]
    exact ⟨_, s2, by simp, hsz, by rw [hsz]⟩
 omit H hr in
theorem foldlM_two {f : Value → Value → Sem Value} (x y : Value) : [y].foldlM f x = f x y := by simp [List.foldlM]
theorem snd_min {x y : Opd} {x' y' : Operand} (hx : OpdR x x') (hy : OpdR y y') {c : Call} (hc : c.callee = .builtin .min) (hargs : c.args = #[x', y']) (ho : o.op = .call c)
    (e : exec (.minB x y) regs h nx k = some r) : SW P N0 own n0 (execOp a.eval o) w (Out N0 mla ml vt own n0 σ k r) := by
  replace e : hMin x y regs h nx k = some r := e
  obtain ⟨u, hu, e1⟩ := opd_rel hr hx e
  obtain ⟨v, hv, e2⟩ := opd_rel hr hy e1
  refine SW_builtin hc ho fun consts => ?_
  rw [hargs]
  cases u <;> (try simp only [reduceCtorEq] at e2) <;> cases v <;> (try simp only [reduceCtorEq] at e2)
  simp only [List.map_toArray, List.map_cons, List.map_nil, vr_int hu, vr_int hv]
  unfold builtin Builtin.min_
  simp only [SW_bind, List.foldlM_cons, List.foldlM_nil, Builtin.min2, SW_pure]
  rename_i kd p kd' q
  rw [ile_eq] at e2
  rcases boolK_cases e2 with ⟨hb, e3⟩ | ⟨hb, e3⟩
  · have : ¬ q < p := by simpa using hb
    rw [if_neg this]
    exact out_pure H (by simp [VR]) e3
  · have : q < p := by simpa using hb
    rw [if_pos this]
    exact out_pure H (by simp [VR]) e3
theorem snd_max {x y : Opd} {x' y' : Operand} (hx : OpdR x x') (hy : OpdR y y') {c : Call} (hc : c.callee = .builtin .max) (hargs : c.args = #[x', y']) (ho : o.op = .call c)
    (e : exec (.maxB x y) regs h nx k = some r) : SW P N0 own n0 (execOp a.eval o) w (Out N0 mla ml vt own n0 σ k r) := by
  replace e : hMax x y regs h nx k = some r := e
  obtain ⟨u, hu, e1⟩ := opd_rel hr hx e
  obtain ⟨v, hv, e2⟩ := opd_rel hr hy e1
  refine SW_builtin hc ho fun consts => ?_
  rw [hargs]
  cases u <;> (try simp only [reduceCtorEq] at e2) <;> cases v <;> (try simp only [reduceCtorEq] at e2)
  simp only [List.map_toArray, List.map_cons, List.map_nil, vr_int hu, vr_int hv]
  unfold builtin Builtin.max_
  simp only [SW_bind, List.foldlM_cons, List.foldlM_nil, Builtin.max2, SW_pure]
  rename_i kd p kd' q
  rw [ile_eq] at e2
  rcases boolK_cases e2 with ⟨hb, e3⟩ | ⟨hb, e3⟩
  · have : ¬ q > p := by
      have : q ≤ p := by simpa using hb
      omega
    rw [if_neg this]
    exact out_pure H (by simp [VR]) e3
  · have : q > p := by
      have : ¬ q ≤ p := by simpa using hb
      omega
    rw [if_pos this]
    exact out_pure H (by simp [VR]) e3
theorem snd_usData {x : Opd} {x' : Operand} (hx : OpdR x x') {c : Call} (hc : c.callee = .builtin .unsafeSliceData) (hargs : c.args = #[x']) (ho : o.op = .call c)
    (e : exec (.usData x) regs h nx k = some r) : SW P N0 own n0 (execOp a.eval o) w (Out N0 mla ml vt own n0 σ k r) := by
  replace e : hUsData x regs h nx k = some r := e
  obtain ⟨u, hu, e1⟩ := opd_rel hr hx e
  refine SW_builtin hc ho fun consts => ?_
  rw [hargs, map_one]
  unfold builtin
  simp only [SW_bind]
  cases u <;> simp only [reduceCtorEq] at e1
  · rename_i id off len cap
    obtain ⟨p, hp, hy⟩ := vr_sl hu
    rw [hy]
    cases cap with
    | zero => cases e1
    | succ cap =>
      obtain ⟨q, hq⟩ : ∃ q, cap + 1 + p.ex = q + 1 := ⟨cap + p.ex, by omega⟩
      rw [hq]
      show SW P N0 own n0 (pure (Value.pointer (some ⟨p.bl, p.sh + off, none⟩))) w _
      rw [SW_pure, SW_pure]
      exact out_pure H (v := .ptr id off) (by simp only [VR]; exact ⟨p, hp, rfl⟩) e1
  · rw [vr_nils hu]
    show SW P N0 own n0 (pure (Value.pointer none)) w _
    rw [SW_pure, SW_pure]
    exact out_pure H (v := .nilp) (by simp [VR]) e1
end
end Go.Gb
end
