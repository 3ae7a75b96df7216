/- A part of the proof of the statement Rows.TopMissingCardSaid (at every argument the law returns true on every schedule, and its argument reads as before; the listed variables as laid). This text: a stepper over symbolic states of the translated program and its soundness, part 39 of 41. -/
import Derived.Test.YtgabhijnigpbdaaGreatDoorM37
import Derived.Lib.Bytealg
import Derived.Lib.IndexEntry
section
/-! Functions without a Go body. -/
set_option linter.unusedSimpArgs false
set_option linter.unusedVariables false
set_option linter.unusedSectionVars false
namespace Go.Gb
open Go.Conc
section
variable {P : Program} {N0 : Nat} {ml : Gl} {own : Own} {n0 : Nat} {w : World}
theorem ext_sw {g : Nat} {fn : Func} {ex : Array Value → Sem Value} {us : Array Value} (hp : P.funcs[g]? = some fn) (hname : (fn.name == "runtime.NumGoroutine") = false) (hb : fn.body = none) (hn : Extern.findNext fn = none) (hf : Extern.find fn = some ex) {Q : Value → World → Prop} (h : SW P N0 own n0 (ex us) w Q) :
    SW P N0 own n0 (callFunc g us) w fun nxt w' => ∃ u, nxt = .value u ∧ Q u w' := by
  unfold callFunc
  rw [SW_prog]
  simp only [hp, hname, Bool.false_eq_true, if_false, hb, Option.isNone_none, if_true, hn, hf]
  rw [SW_bind]
  refine ⟨.inr ⟨g, rfl⟩, ?_⟩
  show SW P N0 own n0 (ex us >>= fun v => Pure.pure (Next.value v)) w _
  rw [SW_bind]
  exact SW.mono h fun v w' hq => ⟨v, rfl, hq⟩
theorem noEscape_sw {big : Nat} {σ : Sg} {args : List V} {us : Array Value} {v : V} (hv : VRL ml σ args us.toList) (hx : ∀ k : V → OR, extK big .noEscape args k = k v) : SW P N0 own n0 (Extern.AbiNoEscape.same us) w fun u w' => w' = w ∧ VR ml σ v u := by
  obtain ⟨ul⟩ := us
  match args, ul, hv, hx with
  | [a], [u], hv, hx =>
    have : a = v := by have := hx fun v => some (.done v default); exact (Rs.done.inj (Option.some.inj this)).1
    subst this
    exact ⟨rfl, hv.1⟩
  | [], _, _, hx => have := hx fun v => some (.done v default); cases this
  | _ :: _ :: _, _, _, hx => have := hx fun v => some (.done v default); cases this
end
end Go.Gb
end
section
/-! The entries that are called. -/
set_option linter.unusedSimpArgs false
set_option linter.unusedVariables false
set_option linter.unusedSectionVars false
namespace Go.Gb
open Go.Conc
theorem sfind_eq (b : UInt8) : ∀ (l : List UInt8) (N i : Nat), N % 256 ^ l.length = numL l → (sfind b.toNat l.length N i = none ∧ Lib.indexByte l b = -1) ∨ ∃ j : Nat, sfind b.toNat l.length N i = some (i + j) ∧ Lib.indexByte l b = j
  | [], _, _, _ => .inl ⟨rfl, rfl⟩
  | x :: l, N, i, h => by
    obtain ⟨h1, h2⟩ := num_head h
    have hs : sfind b.toNat (x :: l).length N i = boolK (Nat.beq (N % 256) b.toNat) (natK i some) (natK (N / 256) fun N => natK (i + 1) fun i => sfind b.toNat l.length N i) := rfl
    rw [hs, boolK_eq, natK_eq, natK_eq, natK_eq, nbeq, h1]
    unfold Lib.indexByte
    by_cases hxb : x = b
    · subst hxb
      exact .inr ⟨0, by simp, by simp⟩
    · have hne : x.toNat ≠ b.toNat := fun e => hxb (UInt8.toNat_inj.1 e)
      have hne' : (x == b) = false := by simpa using hxb
      simp only [hne, decide_false, Bool.false_eq_true, if_false, hne']
      rcases sfind_eq b l _ (i + 1) h2 with ⟨k1, k2⟩ | ⟨j, k1, k2⟩
      · exact .inl ⟨k1, by simp [k2]⟩
      · refine .inr ⟨j + 1, by rw [k1]; congr 1; omega, ?_⟩
        have : ((Lib.indexByte l b) == -1) = false := by rw [k2, beq_eq_false_iff_ne]; omega
        rw [this, k2]
        simp
theorem scount_eq (b : UInt8) : ∀ (l : List UInt8) (N a : Nat), N % 256 ^ l.length = numL l → scount b.toNat l.length N a = a + Lib.countByte l b
  | [], _, a, _ => by show a = _; simp [Lib.countByte]
  | x :: l, N, a, h => by
    obtain ⟨h1, h2⟩ := num_head h
    have hs : scount b.toNat (x :: l).length N a = natK (N / 256) fun N' => boolK (Nat.beq (N % 256) b.toNat) (natK (a + 1) fun a => scount b.toNat l.length N' a) (scount b.toNat l.length N' a) := rfl
    rw [hs, natK_eq, boolK_eq, natK_eq, nbeq, h1, scount_eq b l _ _ h2, scount_eq b l _ _ h2]
    unfold Lib.countByte
    rw [List.count_cons]
    by_cases hxb : x = b
    · subst hxb; simp; omega
    · have hne : x.toNat ≠ b.toNat := fun e => hxb (UInt8.toNat_inj.1 e)
      have hne' : (x == b) = false := by simpa using hxb
      simp [hne, hne']
theorem cmp_less : ∀ (x y : List UInt8), Lib.compareBytes x y = if Op.bytesLess x y then -1 else if Op.bytesLess y x then 1 else 0
  | [], [] => rfl
  | [], _ :: _ => rfl
  | _ :: _, [] => rfl
  | a :: x, b :: y => by
    unfold Lib.compareBytes
    rw [cmp_less x y]
    simp only [Op.bytesLess]
    by_cases hab : a = b
    · subst hab
      simp [UInt8.lt_irrefl]
    · have h1 : (a == b) = false := by simpa using hab
      have h2 : (b == a) = false := by simpa using Ne.symm hab
      by_cases hlt : a < b
      · simp [hlt, h1, h2]
      · have hgt : b < a := UInt8.lt_of_le_of_ne (UInt8.not_lt.1 hlt) (Ne.symm hab)
        simp [hlt, hgt, h1, h2]
section
variable {P : Program} {N0 : Nat} {ml : Gl} {own : Own} {n0 : Nat} {w : World}
theorem indexByte_sw {big : Nat} {σ : Sg} {args : List V} {us : Array Value} {v : V} (hv : VRL ml σ args us.toList) (hx : ∀ k : V → OR, extK big .indexByte args k = k v) : SW P N0 own n0 (Extern.BytealgIndexByte.indexByte us) w fun u w' => w' = w ∧ VR ml σ v u := by
  have hx1 := hx fun v => some (.done v default)
  unfold extK at hx1
  split at hx1 <;> (try (rename_i h; cases h; done)) <;> (try (cases hx1; done))
  · rename_i n N c _
    obtain ⟨hc, hx2⟩ := boolK_inv hx1
    have hc : c < 256 := Nat.le_of_ble_eq_true hc
    obtain ⟨ul⟩ := us
    match ul, hv with
    | [u1, u2], hv =>
      obtain ⟨s, rfl, hs⟩ := vr_str hv.1
      have := vr_int hv.2.1
      subst this
      have hb : ((Int.ofNat c).toNat.toUInt8).toNat = c := by simp; omega
      have hl : s.data.toList.length = n := by simpa using hs.1
      have hN : N % 256 ^ s.data.toList.length = numL s.data.toList := by rw [hl]; exact hs.2
      have hf := sfind_eq ((Int.ofNat c).toNat.toUInt8) s.data.toList N 0 hN
      rw [hb, hl] at hf
      have hfi := Lib.firstIdx_eq s ((Int.ofNat c).toNat.toUInt8)
      unfold Go.firstIdx at hfi
      show SW P N0 own n0 (match (List.range s.size).find? fun i => s[i]! == (Int.ofNat c).toNat.toUInt8 with
        | some i => (pure (goInt i) : Sem Value)
        | none => pure (goInt (-1))) w _
      rcases hf with ⟨h1, h2⟩ | ⟨j, h1, h2⟩
      · rw [h1] at hx2
        cases hx2
        rw [h2] at hfi
        revert hfi
        cases (List.range s.size).find? fun i => s[i]! == (Int.ofNat c).toNat.toUInt8 with
        | none => intro _; exact ⟨rfl, by simp [VR, goInt]⟩
        | some i => intro h; simp at h
      · rw [h1] at hx2
        cases hx2
        rw [h2] at hfi
        revert hfi
        cases (List.range s.size).find? fun i => s[i]! == (Int.ofNat c).toNat.toUInt8 with
        | none => intro h; simp at h
        | some i => intro h; have h : (i : Int) = j := h; exact ⟨rfl, by simp [VR, goInt, h]⟩
theorem countStr_sw {big : Nat} {σ : Sg} {args : List V} {us : Array Value} {v : V} (hv : VRL ml σ args us.toList) (hx : ∀ k : V → OR, extK big .countStr args k = k v) : SW P N0 own n0 (Extern.BytealgCount.count us) w fun u w' => w' = w ∧ VR ml σ v u := by
  have hx1 := hx fun v => some (.done v default)
  unfold extK at hx1
  split at hx1 <;> (try (rename_i h; cases h; done)) <;> (try (cases hx1; done))
  · rename_i n N c _
    obtain ⟨hc, hx2⟩ := boolK_inv hx1
    have hc : c < 256 := Nat.le_of_ble_eq_true hc
    obtain ⟨ul⟩ := us
    match ul, hv with
    | [u1, u2], hv =>
      obtain ⟨s, rfl, hs⟩ := vr_str hv.1
      have := vr_int hv.2.1
      subst this
      have hb : ((Int.ofNat c).toNat.toUInt8).toNat = c := by simp; omega
      have hl : s.data.toList.length = n := by simpa using hs.1
      have hN : N % 256 ^ s.data.toList.length = numL s.data.toList := by rw [hl]; exact hs.2
      have hf := scount_eq ((Int.ofNat c).toNat.toUInt8) s.data.toList N 0 hN
      rw [hb, hl] at hf
      rw [natK_eq, hf] at hx2
      cases hx2
      show SW P N0 own n0 (pure (goInt (s.foldl (fun n x => if x == (Int.ofNat c).toNat.toUInt8 then n + 1 else n) (0 : Nat))) : Sem Value) w _
      refine ⟨rfl, ?_⟩
      rw [Lib.foldl_data, Lib.count_foldl]
      simp [VR, goInt]
theorem cmpStr_sw {big : Nat} {σ : Sg} {args : List V} {us : Array Value} {v : V} (hv : VRL ml σ args us.toList) (hx : ∀ k : V → OR, extK big .cmpStr args k = k v) : SW P N0 own n0 (Extern.BytealgCompare.compare us) w fun u w' => w' = w ∧ VR ml σ v u := by
  have hx1 := hx fun v => some (.done v default)
  unfold extK at hx1
  split at hx1 <;> (try (rename_i h; cases h; done)) <;> (try (cases hx1; done))
  · rename_i n N m M _
    obtain ⟨ul⟩ := us
    match ul, hv with
    | [u1, u2], hv =>
      obtain ⟨s, rfl, hs⟩ := vr_str hv.1
      obtain ⟨t, rfl, ht⟩ := vr_str hv.2.1
      show SW P N0 own n0 (pure (goInt (Extern.BytealgCompare.cmp s t)) : Sem Value) w _
      refine ⟨rfl, ?_⟩
      rw [Lib.cmp_eq, cmp_less, ← strR_less hs ht, ← strR_less ht hs]
      rcases boolK_cases hx1 with ⟨h1, h2⟩ | ⟨h1, h2⟩
      · cases h2; rw [h1]; simp [VR, goInt]
      · rcases boolK_cases h2 with ⟨h3, h4⟩ | ⟨h3, h4⟩
        · cases h4; rw [h1, h3]; simp [VR, goInt]
        · cases h4; rw [h1, h3]; simp [VR, goInt]
theorem SW_maxLen {mla : Addr} {g : Nat} (hg : P.globals.findIdx? (·.name == "internal/bytealg.MaxLen") = some g) (hm : mla = ⟨g, 0, none⟩) (h1 : mla.block < N0) (h2 : w.cell? mla = some (.int .i64 ml.val)) {Q : Int → World → Prop} (hq : Q ml.val w) : SW P N0 own n0 Extern.BytealgIndex.maxLen w Q := by
  unfold Extern.BytealgIndex.maxLen
  rw [SW_bind]
  unfold globalAddr
  rw [SW_prog]
  simp only [hg]
  rw [SW_pure]
  rw [SW_bind]
  rw [← hm]
  exact SW_load h2 (.inr h1) hq
theorem sindex_eq (sub : List UInt8) (hs : 1 ≤ sub.length) : ∀ (l : List UInt8) (N i : Nat), N % 256 ^ l.length = numL l → (sindex sub.length (numL sub) l.length N i = none ∧ Lib.index l sub = -1) ∨ ∃ j : Nat, sindex sub.length (numL sub) l.length N i = some (i + j) ∧ Lib.index l sub = j
  | [], _, _, _ => by
    cases sub with
    | nil => simp at hs
    | cons => exact .inl ⟨rfl, rfl⟩
  | x :: l, N, i, h => by
    obtain ⟨h1, h2⟩ := num_head h
    have hd : sindex sub.length (numL sub) (x :: l).length N i = boolK (Nat.ble sub.length (l.length + 1)) (boolK (Nat.beq (low sub.length N) (numL sub)) (natK i some) (natK (N / 256) fun N => natK (i + 1) fun i => sindex sub.length (numL sub) l.length N i)) none := rfl
    rw [hd, boolK_eq, boolK_eq, natK_eq, natK_eq, natK_eq]
    have hlen : ((x :: l).length : Nat) = l.length + 1 := rfl
    by_cases hle : sub.length ≤ l.length + 1
    · rw [if_pos (Nat.ble_eq_true_of_le hle)]
      have hpre : sub.isPrefixOf (x :: l) = decide (low sub.length N = numL sub) := by
        have e1 : low sub.length N = numL ((x :: l).take sub.length) := by
          rw [numL_take _ _ (by rw [hlen]; exact hle), ← h]
          show N % 256 ^ sub.length = N % 256 ^ (x :: l).length % 256 ^ sub.length
          rw [Nat.mod_mod_of_dvd _ (Nat.pow_dvd_pow 256 (by rw [hlen]; exact hle))]
        rw [e1]
        have e2 : sub.isPrefixOf (x :: l) = ((x :: l).take sub.length == sub) := by
          rw [Bool.eq_iff_iff, List.isPrefixOf_iff_prefix, List.prefix_iff_eq_take, beq_iff_eq]
          exact eq_comm
        rw [e2]
        by_cases he : (x :: l).take sub.length = sub
        · rw [he]; simp
        · have : numL ((x :: l).take sub.length) ≠ numL sub := fun e => he (numL_inj (by rw [List.length_take]; omega) e)
          simp [he, this]
      unfold Lib.index
      rw [hpre]
      by_cases hl : low sub.length N = numL sub
      · rw [if_pos (by rw [nbeq]; simpa using hl), if_pos (by simpa using hl)]
        exact .inr ⟨0, by simp, by simp⟩
      · rw [if_neg (by rw [nbeq]; simpa using hl), if_neg (by simpa using hl)]
        rcases sindex_eq sub hs l _ (i + 1) h2 with ⟨k1, k2⟩ | ⟨j, k1, k2⟩
        · exact .inl ⟨k1, by rw [k2]; rfl⟩
        · refine .inr ⟨j + 1, by rw [k1]; congr 1; omega, ?_⟩
          have : ((Lib.index l sub) == -1) = false := by rw [k2, beq_eq_false_iff_ne]; omega
          rw [this, k2]
          simp
    · rw [if_neg (by intro e; exact hle (Nat.le_of_ble_eq_true e))]
      refine .inl ⟨rfl, Lib.index_none fun j hj => ?_⟩
      cases ho : Lib.occAt (x :: l) sub j with
      | false => rfl
      | true =>
        rcases Lib.occAt_room ho with h | h
        · rw [hlen] at h; omega
        · rw [h] at hs; simp at hs
theorem index2_sw {big : Nat} {mla : Addr} {g : Nat} (hg : P.globals.findIdx? (·.name == "internal/bytealg.MaxLen") = some g) (hm : mla = ⟨g, 0, none⟩) (h1 : mla.block < N0) (h2 : w.cell? mla = some (.int .i64 ml.val)) (hbig : big % 3 = 1 → (big / 3 : Nat) ≤ ml.val) {σ : Sg} {args : List V} {us : Array Value} {v : V} (hv : VRL ml σ args us.toList) (hx : ∀ k : V → OR, extK big .index2 args k = k v) : SW P N0 own n0 (Extern.BytealgIndex.index us) w fun u w' => w' = w ∧ VR ml σ v u := by
  have hx1 := hx fun v => some (.done v default)
  unfold extK at hx1
  split at hx1 <;> (try (rename_i h; cases h; done)) <;> (try (cases hx1; done))
  · rename_i n N m M _
    obtain ⟨b1, hx2⟩ := boolK_inv hx1
    obtain ⟨b2, hx2⟩ := boolK_inv hx2
    obtain ⟨b3, hx2⟩ := boolK_inv hx2
    obtain ⟨b4, hx2⟩ := boolK_inv hx2
    rw [natK_eq] at hx2
    have b1 := hbig (Nat.eq_of_beq_eq_true b1)
    have b2 : m ≤ big / 3 := Nat.le_of_ble_eq_true b2
    have b3 := Nat.le_of_ble_eq_true b3
    have b4 := Nat.le_of_ble_eq_true b4
    obtain ⟨ul⟩ := us
    match ul, hv with
    | [u1, u2], hv =>
      obtain ⟨s, rfl, hs⟩ := vr_str hv.1
      obtain ⟨t, rfl, ht⟩ := vr_str hv.2.1
      have hl : s.data.toList.length = n := by simpa using hs.1
      have hlt : t.data.toList.length = m := by simpa using ht.1
      have hf := sindex_eq t.data.toList (by omega) s.data.toList N 0 (by rw [hl]; exact hs.2)
      have hlow : low m M = numL t.data.toList := ht.2
      rw [hl, hlt, ← hlow] at hf
      show SW P N0 own n0 (do
        let a' ← Extern.Bytes.bytesOf (.string s)
        let b' ← Extern.Bytes.bytesOf (.string t)
        if b'.size < 2 || (b'.size : Int) > (← Extern.BytealgIndex.maxLen) then
          unsupported (.noEntry "extern/internal/bytealg.Index.length")
        if a'.size ≥ 2 ^ 32 - 15 then
          unsupported (.noEntry "extern/internal/bytealg.Index: a haystack of 2^32 - 15 bytes or more")
        match (List.range (a'.size + 1 - b'.size)).find? fun i => a'.extract i (i + b'.size) == b' with
        | some i => pure (goInt i)
        | none => pure (goInt (-1))) w _
      simp only [Extern.Bytes.bytesOf]
      rw [SW_bind, SW_pure, SW_bind, SW_pure, SW_bind]
      refine SW_maxLen hg hm h1 h2 ?_
      have c1 : ¬ (t.size < 2) := by have := ht.1; omega
      have c2 : ¬ ((t.size : Int) > ml.val) := by have := ht.1; omega
      have c3 : ¬ (s.size ≥ 2 ^ 32 - 15) := by have := hs.1; omega
      have hfi := Lib.find_index s t (by have := ht.1; omega)
      simp only [c1, c2, c3, decide_false, Bool.or_self, Bool.false_eq_true, if_false]
      rcases hf with ⟨h3, h4⟩ | ⟨j, h3, h4⟩
      · rw [h3] at hx2
        cases hx2
        rw [h4] at hfi
        revert hfi
        cases (List.range (s.size + 1 - t.size)).find? fun i => s.extract i (i + t.size) == t with
        | none => intro _; exact ⟨rfl, by simp [VR, goInt]⟩
        | some i => intro h; simp at h
      · rw [h3] at hx2
        cases hx2
        rw [h4] at hfi
        revert hfi
        cases (List.range (s.size + 1 - t.size)).find? fun i => s.extract i (i + t.size) == t with
        | none => intro h; simp at h
        | some i => intro h; have h : (i : Int) = j := h; exact ⟨rfl, by simp [VR, goInt, h]⟩
end
end Go.Gb
end
