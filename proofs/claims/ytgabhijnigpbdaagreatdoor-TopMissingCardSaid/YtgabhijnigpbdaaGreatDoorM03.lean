/- A part of the proof of the statement Rows.TopMissingCardSaid (at every argument the law returns true on every schedule, and its argument reads as before; the listed variables as laid). This text: a stepper over symbolic states of the translated program and its soundness, part 3 of 41. -/
import Derived.Test.YtgabhijnigpbdaaGreatDoorM02
import Derived.Conc.CompanyDraw
import Derived.Test.YtgabhijnigpbdaaGreatDoorM01
section
/-! From the calculus to a goroutine's step. -/
set_option linter.unusedSimpArgs false
set_option linter.unusedVariables false
namespace Go.Gb
open Go.Conc
theorem seen_fold_mark (quiet : FuncId → Bool) : ∀ (l : List Event) (q : Bool) (kept : Array Event), (∀ e ∈ kept, ∀ f, e.loc ≠ .mark (.extern f)) → ∀ e ∈ (l.foldl (seenStep quiet) (q, kept)).2, ∀ f, e.loc ≠ .mark (.extern f) := by
  intro l
  induction l with
  | nil => exact fun _ _ h e he => h e he
  | cons a l ih =>
    intro q kept h e he
    simp only [List.foldl_cons, seenStep] at he
    split at he
    · exact ih _ _ h e he
    · rename_i hne
      refine ih _ _ ?_ e he
      split
      · exact h
      · intro e' he'
        rcases Array.mem_push.1 he' with he' | rfl
        · exact h e' he'
        · exact fun f hf => hne f hf
theorem seen_no_extern {P : Program} {fn : FuncId} {es : Array Event} {e : Event} (h : e ∈ seen P fn es) : ∀ f, e.loc ≠ .mark (.extern f) := by
  rw [seen_def] at h
  exact seen_fold_mark _ es.toList _ #[] (by simp) e h
theorem Part.does {P : Program} {N0 : Nat} {own : Own} {fn : FuncId} {w w' : World} {es : Array Event} (h : Part N0 own w.heap.size w w' es) : Does N0 own (mine own w.heap.size w') w w' (seen P fn es) := by
  refine ⟨h.os, h.tape, h.output, h.size, fun b hb hn => h.keep b hb (fun z => z.elim hn fun y => by omega), fun b hb => hb, h.chans, fun e he m hm => ?_, fun e he => h.touch e (mem_seen he)⟩
  rcases h.marks e (mem_seen he) m hm with z | ⟨f, rfl⟩
  · exact z
  · exact absurd hm (seen_no_extern he f)
section
variable {P : Program} {N0 : Nat} {own : Own} {main : Bool} {b : Frame} {a : Act} {k : List Item} {cs : List Frame} {w : World} {ops : Array Oper} {i : Nat} {rest : List Nat} {o : Oper}
theorem SW.run {α : Type} {s : Sem α} {Q : α → World → Prop} (h : SW P N0 own w.heap.size s w Q) : ∃ v w', s.run P w = .ok v w' ∧ Part N0 own w.heap.size w w' (s.events P w #[]) ∧ Q v w' := by
  obtain ⟨v, w', es, h1, h2, h3⟩ := SW.sound s #[] h
  refine ⟨v, w', ?_, ?_, h3⟩
  · have := Sem.runT_fst P s w #[]
    rw [h1] at this; exact this.symm
  · have : s.events P w #[] = es := by unfold Sem.events; rw [h1]; simp
    rw [this]; exact h2
theorem oper_value (ho : ops[i]? = some o) (hw : Region.wanted o (yielded ops a.tmps) = true) (hk : b.kind ≠ .early) {Q : Value → World → Prop}
    (hs : SW P N0 own w.heap.size (execOp a.eval o) w fun nx w' => ∃ v, nx = .value v ∧ Q v w') :
    ∃ v w' es, stepG P main (G (b.at a (.inRegion ops (i :: rest) :: k)) cs) w = .go (G (b.at (a.put o.dst v) (.inRegion ops rest :: k)) cs) w' es ∧ Does N0 own (mine own w.heap.size w') w w' es ∧ Q v w' := by
  obtain ⟨nx, w', hr, hp, v, rfl, hq⟩ := hs.run
  exact ⟨v, w', _, stepG_value ho hw hk hr, hp.does, hq⟩
theorem oper_skip (ho : ops[i]? = some o) (hw : Region.wanted o (yielded ops a.tmps) = true) (hk : b.kind ≠ .early) {Q : World → Prop}
    (hs : SW P N0 own w.heap.size (execOp a.eval o) w fun nx w' => nx = .skip ∧ Q w') :
    ∃ w' es, stepG P main (G (b.at a (.inRegion ops (i :: rest) :: k)) cs) w = .go (G (b.at (a.put o.dst undef) (.inRegion ops rest :: k)) cs) w' es ∧ Does N0 own (mine own w.heap.size w') w w' es ∧ Q w' := by
  obtain ⟨nx, w', hr, hp, rfl, hq⟩ := hs.run
  exact ⟨w', _, stepG_none ho hw hk hr, hp.does, hq⟩
theorem oper_enter (ho : ops[i]? = some o) (hw : Region.wanted o (yielded ops a.tmps) = true) (hk : b.kind ≠ .early) {Q : FuncId → Array Value → World → Prop}
    (hs : SW P N0 own w.heap.size (execOp a.eval o) w fun nx w' => ∃ f args, nx = .enter f args ∧ Q f args w') :
    ∃ f args w' es, stepG P main (G (b.at a (.inRegion ops (i :: rest) :: k)) cs) w = .go (G (Frame.enter P f args .normal) (b.at a (.inRegion ops (i :: rest) :: k) :: cs)) w' es ∧ Does N0 own (mine own w.heap.size w') w w' es ∧ Q f args w' := by
  obtain ⟨nx, w', hr, hp, f, args, rfl, hq⟩ := hs.run
  refine ⟨f, args, w', listed P b.fn a o w, ?_, hp.does, hq⟩
  have hk' : (b.kind == CallKind.early) = false := by simpa using hk
  rw [stepG_oper ho hw]
  simp [stepG.apply, hr, G, Frame.at, hk', GStep.after, listed]
end
end Go.Gb
end
section
/-! The evaluator's values and memory, and the model's. -/
set_option linter.unusedSimpArgs false
set_option linter.unusedVariables false
namespace Go.Gb
open Go.Conc

/-- Where an id lies: its block, the place of its cell 0 there, how much more room its slices have than the evaluator knows. -/
structure Pl where
  bl : Nat
  sh : Nat
  ex : Nat
abbrev Sg := P → Option Pl
/-- What is given: the value of the one variable that is read; how many cells a variable of a type has. -/
structure Gl where
  val : Int
  cz : Nat → Nat
  par : Nat
def numL : List UInt8 → Nat
  | [] => 0
  | b :: l => b.toNat + 256 * numL l
def StrR (n N : Nat) (s : ByteArray) : Prop := s.size = n ∧ low n N = numL s.data.toList

 mutual
/-- The evaluator's value, the model's. -/
def VR (ml : Gl) (σ : Sg) : V → Value → Prop
  | .int k n, .int k' n' => k = k' ∧ n = n'
  | .bool b, .bool b' => b = b'
  | .str n N, .string s => StrR n N s
  | .ptr id off, .pointer (some a) => ∃ p, σ id = some p ∧ a = ⟨p.bl, p.sh + off, none⟩
  | .nilp, .pointer none => True
  | .sl id off len cap, .slice (some a) len' cap' => ∃ p, σ id = some p ∧ a = ⟨p.bl, p.sh + off, none⟩ ∧ len' = len ∧ cap' = cap + p.ex
  | .nils, .slice none len cap => len = 0 ∧ cap = 0
  | .map id, .map (some r) => ∃ p, σ id = some p ∧ r = p.bl
  | .nilm, .map none => True
  | .chan id, .chan (some r) => ∃ p, σ id = some p ∧ r = p.bl
  | .nilc, .chan none => True
  | .fn f first caps, .func f' first' caps' => f' = f ∧ (∀ l, f ≠ .yield l) ∧ VRL ml σ first first'.toList ∧ VRL ml σ caps caps'.toList
  | .yld id, .func f' first' caps' => ∃ p, σ id = some p ∧ f' = .yield p.bl ∧ first' = #[] ∧ caps' = #[]
  | .nilf, .nilFunc => True
  | .ifc t v, .iface t' v' => t' = t ∧ VR ml σ v v'
  | .nili, .nilIface => True
  | .agg cs, .agg xs => VRL ml σ cs xs.toList ∧ ∀ x ∈ xs.toList, OneCell x
  | .tup vs, .tuple xs => VRL ml σ vs xs.toList
  | .unk i, v => v = .int .i64 ml.val ∧ (i % 3 = 0 → ml.val < (i / 3 : Nat)) ∧ (i % 3 = 1 → (i / 3 : Nat) ≤ ml.val)
  | .par k m r, .int k' n => k' = k ∧ n = Int.ofNat ml.par ∧ ml.par < 256 ∧ ml.par % m = r
  | _, _ => False
def VRL (ml : Gl) (σ : Sg) : List V → List Value → Prop
  | [], [] => True
  | v :: vs, x :: xs => VR ml σ v x ∧ VRL ml σ vs xs
  | _, _ => False
end

def Sub (σ σ' : Sg) : Prop := ∀ id p, σ id = some p → σ' id = some p
theorem Sub.refl (σ : Sg) : Sub σ σ := fun _ _ h => h
theorem Sub.trans {a b c : Sg} (h : Sub a b) (h' : Sub b c) : Sub a c := fun id p e => h' id p (h id p e)

 mutual
theorem VR.mono {ml : Gl} {σ σ' : Sg} (h : Sub σ σ') : ∀ (v : V) (x : Value), VR ml σ v x → VR ml σ' v x
  | .int _ _, x, r => by cases x <;> simp_all [VR]
  | .bool _, x, r => by cases x <;> simp_all [VR]
  | .str _ _, x, r => by cases x <;> simp_all [VR]
  | .ptr id off, x, r => by
    cases x <;> try simp only [VR] at r
    rename_i a; cases a <;> simp only [VR] at r
    obtain ⟨p, hp, e⟩ := r; exact ⟨p, h _ _ hp, e⟩
  | .nilp, x, r => by
    cases x <;> try simp only [VR] at r
    rename_i a; cases a <;> simp_all [VR]
  | .sl id off len cap, x, r => by
    cases x <;> try simp only [VR] at r
    rename_i a _ _; cases a <;> simp only [VR] at r
    obtain ⟨p, hp, e⟩ := r; exact ⟨p, h _ _ hp, e⟩
  | .nils, x, r => by
    cases x <;> try simp only [VR] at r
    rename_i a _ _; cases a <;> simp_all [VR]
  | .map id, x, r => by
    cases x <;> try simp only [VR] at r
    rename_i a; cases a <;> simp only [VR] at r
    obtain ⟨p, hp, e⟩ := r; exact ⟨p, h _ _ hp, e⟩
  | .nilm, x, r => by
    cases x <;> try simp only [VR] at r
    rename_i a; cases a <;> simp_all [VR]
  | .chan id, x, r => by
    cases x <;> try simp only [VR] at r
    rename_i a; cases a <;> simp only [VR] at r
    obtain ⟨p, hp, e⟩ := r; exact ⟨p, h _ _ hp, e⟩
  | .nilc, x, r => by
    cases x <;> try simp only [VR] at r
    rename_i a; cases a <;> simp_all [VR]
  | .fn f a b, x, r => by
    cases x <;> simp only [VR] at r
    obtain ⟨e1, e2, e3, e4⟩ := r
    exact ⟨e1, e2, VRL.mono h a _ e3, VRL.mono h b _ e4⟩
  | .yld id, x, r => by
    cases x <;> simp only [VR] at r
    obtain ⟨p, hp, e⟩ := r; exact ⟨p, h _ _ hp, e⟩
  | .nilf, x, r => by cases x <;> simp_all [VR]
  | .ifc t v, x, r => by
    cases x <;> simp only [VR] at r
    exact ⟨r.1, VR.mono h v _ r.2⟩
  | .nili, x, r => by cases x <;> simp_all [VR]
  | .agg cs, x, r => by
    cases x <;> simp only [VR] at r
    exact ⟨VRL.mono h cs _ r.1, r.2⟩
  | .tup cs, x, r => by
    cases x <;> simp only [VR] at r
    exact VRL.mono h cs _ r
  | .unk _, x, r => by simp only [VR] at r ⊢; exact r
  | .par _ _ _, x, r => by cases x <;> simp_all [VR]
theorem VRL.mono {ml : Gl} {σ σ' : Sg} (h : Sub σ σ') : ∀ (vs : List V) (xs : List Value), VRL ml σ vs xs → VRL ml σ' vs xs
  | [], [], _ => trivial
  | v :: vs, x :: xs, r => ⟨VR.mono h v x r.1, VRL.mono h vs xs r.2⟩
  | [], _ :: _, r => r.elim
  | _ :: _, [], r => r.elim
end
theorem VRL.length {ml : Gl} {σ : Sg} : ∀ {vs : List V} {xs : List Value}, VRL ml σ vs xs → vs.length = xs.length
  | [], [], _ => rfl
  | v :: vs, x :: xs, r => by simp [VRL.length r.2]
theorem VRL.get {ml : Gl} {σ : Sg} : ∀ {vs : List V} {xs : List Value} {i : Nat} {v : V}, VRL ml σ vs xs → vs[i]? = some v → ∃ x, xs[i]? = some x ∧ VR ml σ v x
  | v :: vs, x :: xs, 0, _, r, h => by simp at h; subst h; exact ⟨x, rfl, r.1⟩
  | v :: vs, x :: xs, i + 1, _, r, h => by simpa using VRL.get r.2 (by simpa using h)

/-- The evaluator's object, the model's. -/
def ObR (ml : Gl) (σ : Sg) (p : Pl) : Ob → Obj → Prop
  | .row cs el room opn fz, .cells c el' (lo, hi) => el' = el ∧ (∀ i v, cs[i]? = some v → ∃ x, c[p.sh + i]? = some x ∧ VR ml σ v x ∧ OneCell x) ∧ (∀ i, i < room → p.sh + cs.length + i < c.size) ∧
      (opn = false → p.ex = 0 ∧ room = 0 ∧ p.sh = 0) ∧ (lo = hi ∨ hi ≤ p.sh + fz) ∧ (opn = true → c.size = p.sh + cs.length + room + p.ex * ml.cz el)
  | .map es clk, .map xs clk' => clk' = clk ∧ es.length = xs.size ∧ ∀ (i : Nat) (e : V × V × Nat), es[i]? = some e → ∃ x : MapEntry, xs[i]? = some x ∧ VR ml σ e.1 x.key ∧ VR ml σ e.2.1 x.val ∧ x.born = e.2.2
  | .chan cap buf cl s r, .chan cap' buf' cl' s' r' tm => cap' = cap ∧ cl' = cl ∧ s' = s ∧ r' = r ∧ tm = false ∧ VRL ml σ buf buf'.toList
  | .sit n N pos, .stringIter s pos' => p.sh = 0 ∧ pos' = pos ∧ StrR n N s
  | .mit none _ _ _, .mapIter m' _ _ _ => p.sh = 0 ∧ m' = none
  | .mit (some m) since seen stepped, .mapIter m' since' seen' stepped' => p.sh = 0 ∧ (∃ q, σ m = some q ∧ m' = some q.bl) ∧ since' = since ∧ stepped' = stepped ∧ seen'.toList = seen
  | .lp st pend fn nt regs params asg body dfr, .loop l => l.state = st ∧ l.pending = pend ∧ l.fn = fn.toNat ∧ l.params = params ∧ l.assign = asg ∧ l.body = body ∧ l.tmps.size = nt ∧ (∃ q, σ dfr = some q ∧ l.defers = q.bl) ∧
      ∀ p v, T.get p regs = some v → VR ml σ v (l.tmps.getD p.toNat undef)
  | .dfr full, .deferred ds => ds = if full then some [] else none
  | _, _ => False
end Go.Gb
end
section
/-! What the kernel's combinators are; what a success says. -/
set_option linter.unusedSimpArgs false
set_option linter.unusedVariables false
namespace Go.Gb
open Go.Conc
theorem opdK_inv {C : Type} {o : Opd} {regs : Regs} {k : V → O C} {r : C} (h : opdK o regs k = some r) : ∃ v, (match o with | .r p => T.get p regs = some v | .c v' => v' = v) ∧ k v = some r := by
  cases o with
  | r p =>
    simp only [opdK] at h
    cases hg : T.get p regs with
    | none => rw [hg] at h; cases h
    | some v => rw [hg] at h; exact ⟨v, hg, h⟩
  | c v => exact ⟨v, rfl, h⟩
theorem llen_eq {α : Type} (l : List α) : ∀ a, llen l a = a + l.length := by
  induction l with
  | nil => intro a; rfl
  | cons x l ih =>
    intro a
    show natK (Nat.add a 1) (fun a => llen l a) = _
    rw [natK_eq, ih]
    simp; omega
theorem ldrop_eq {α : Type} (n : Nat) : ∀ (l : List α), ldrop n l = l.drop n := by
  induction n with
  | zero => intro l; rfl
  | succ n ih =>
    intro l
    cases l with
    | nil => rfl
    | cons x l => exact ih l
theorem ltakeK_eq {α R : Type} (n : Nat) : ∀ (l : List α) (k : List α → R), ltakeK n l k = k (l.take n) := by
  induction n with
  | zero => intro l k; rfl
  | succ n ih =>
    intro l k
    cases l with
    | nil => rfl
    | cons x l => exact (ih l _).trans (by simp)
theorem lappK_eq {α R : Type} (a b : List α) : ∀ (k : List α → R), lappK a b k = k (a ++ b) := by
  induction a with
  | nil => intro k; rfl
  | cons x a ih => intro k; exact ih _
theorem lhead_eq {α R : Type} (l : List α) (e : R) (k : α → R) : lhead l e k = match l with | [] => e | x :: _ => k x := by cases l <;> rfl
theorem lwriteK_inv {α C : Type} (n : Nat) : ∀ (xs ys : List α) (k : List α → O C) (r : C), lwriteK n xs ys k = some r → n + ys.length ≤ xs.length ∧ k (xs.take n ++ ys ++ xs.drop (n + ys.length)) = some r := by
  induction n with
  | zero =>
    intro xs ys
    induction ys generalizing xs with
    | nil => intro k r h; replace h : k xs = some r := h; exact ⟨by simp, by simpa using h⟩
    | cons y ys ih =>
      intro k r h
      cases xs with
      | nil => cases h
      | cons x xs =>
        obtain ⟨h1, h2⟩ := ih xs _ r h
        refine ⟨by simpa using h1, ?_⟩
        simpa [Nat.add_comm] using h2
  | succ n ih =>
    intro xs ys k r h
    cases xs with
    | nil => cases h
    | cons x xs =>
      obtain ⟨h1, h2⟩ := ih xs ys _ r h
      refine ⟨by simp; omega, ?_⟩
      have e : n + 1 + ys.length = (n + ys.length) + 1 := by omega
      rw [e]
      simpa using h2
theorem getOb_inv {C : Type} {id : P} {h : Heap} {k : Ob → O C} {r : C} (e : getOb id h k = some r) : ∃ o, T.get id h = some o ∧ k o = some r := by
  unfold getOb at e
  cases hg : T.get id h with
  | none => rw [hg] at e; cases e
  | some v => rw [hg] at e; exact ⟨v, rfl, e⟩
theorem succK_eq {C : Type} (p : P) : ∀ (k : P → O C), succK p k = k p.succ := by
  induction p with
  | z => intro k; rfl
  | o p ih => intro k; rfl
  | e p ih => intro k; exact ih _
theorem newOb_inv {C : Type} {o : Ob} {h : Heap} {nx : P} {k : P → Heap → P → O C} {r : C} (e : newOb o h nx k = some r) : T.get nx h = none ∧ k nx (T.put (some o) nx h) nx.succ = some r := by
  unfold newOb at e
  cases hg : T.get nx h with
  | none =>
    rw [hg] at e
    replace e : T.putK (some o) nx h (fun h => succK nx fun nx' => k nx h nx') = some r := e
    rw [T.putK_eq, succK_eq] at e
    exact ⟨rfl, e⟩
  | some v => rw [hg] at e; cases e
theorem boolK_inv {C : Type} {b : Bool} {x : O C} {r : C} (e : boolK b x none = some r) : b = true ∧ x = some r := by cases b with | true => exact ⟨rfl, e⟩ | false => cases e
theorem readK_inv {C : Type} {id : P} {off n : Nat} {h : Heap} {k : List V → O C} {r : C} (e : readK id off n h k = some r) :
    ∃ cs el room opn fz, T.get id h = some (.row cs el room opn fz) ∧ ((cs.drop off).take n).length = n ∧ k ((cs.drop off).take n) = some r := by
  unfold readK at e
  obtain ⟨o, ho, e⟩ := getOb_inv e
  cases o <;> simp only [reduceCtorEq] at e
  rename_i cs el room opn fz
  rw [ltakeK_eq, ldrop_eq] at e
  obtain ⟨h1, h2⟩ := boolK_inv e
  rw [llen_eq, Nat.zero_add] at h1
  exact ⟨cs, el, room, opn, fz, ho, Nat.eq_of_beq_eq_true h1, h2⟩

/-- Numbers that are given away, and lie nowhere yet; objects that are set aside. -/
structure Vt where
  ids : List P
  hf : Heap
/-- The evaluator's memory and the model's. 'vt': numbers that are given away, and lie nowhere yet. -/
structure AR (N0 : Nat) (mla : Addr) (ml : Gl) (vt : Vt) (σ : Sg) (h : Heap) (nx : P) (own : Own) (n0 : Nat) (w : World) : Prop where
  dom : ∀ id p, σ id = some p → p.bl < w.heap.size
  has : ∀ id p ob, σ id = some p → T.get id h = some ob → mine own n0 w p.bl
  low : ∀ id p, σ id = some p → id.toNat < nx.toNat
  hlow : ∀ id ob, T.get id h = some ob → id.toNat < nx.toNat
  inj : ∀ id id' p p' ob ob', σ id = some p → σ id' = some p' → T.get id h = some ob → T.get id' h = some ob' → p.bl = p'.bl → id = id'
  obs : ∀ id p ob, σ id = some p → T.get id h = some ob → ∃ o, w.heap[p.bl]? = some o ∧ ObR ml σ p ob o
  vts : ∀ id ∈ vt.ids, σ id = none ∧ id.toNat < nx.toNat
  fr : ∀ id p ob, σ id = some p → T.get id vt.hf = some ob → ∃ o, w.heap[p.bl]? = some o ∧ ObR ml σ p ob o
  frx : ∀ id id' p p' ob ob', σ id = some p → σ id' = some p' → T.get id vt.hf = some ob → T.get id' h = some ob' → p.bl ≠ p'.bl
  fro : ∀ id p ob, σ id = some p → T.get id vt.hf = some ob → mine own n0 w p.bl
  frl : ∀ id ob, T.get id vt.hf = some ob → id.toNat < nx.toNat
  glob : mla.block < N0 ∧ w.cell? mla = some (.int .i64 ml.val)
  n0le : N0 ≤ n0 ∧ n0 ≤ w.heap.size
  apart : ∀ b, own b → N0 ≤ b

/-- What is read. -/
theorem AR.cell {N0 : Nat} {mla : Addr} {ml : Gl} {vt : Vt} {σ : Sg} {h : Heap} {nx : P} {own : Own} {n0 : Nat} {w : World} (H : AR N0 mla ml vt σ h nx own n0 w) {id : P} {p : Pl} {cs : List V} {el room fz : Nat} {opn : Bool}
    (hp : σ id = some p) (ho : T.get id h = some (.row cs el room opn fz)) {i : Nat} {v : V} (hi : cs[i]? = some v) : ∃ x, w.cell? ⟨p.bl, p.sh + i, none⟩ = some x ∧ VR ml σ v x ∧ OneCell x := by
  obtain ⟨o, ho', hr⟩ := H.obs id p _ hp ho
  cases o <;> simp only [ObR] at hr
  rename_i c el' fr
  obtain ⟨lo, hi'⟩ := fr
  simp only [ObR] at hr
  obtain ⟨x, hx, hv⟩ := hr.2.1 i v hi
  exact ⟨x, by simp [World.cell?, ho', hx], hv⟩
end Go.Gb
end
section
/-! The calculus' rules for the model's small programs; memory read, written, made. -/
set_option linter.unusedSimpArgs false
set_option linter.unusedVariables false
namespace Go.Gb
open Go.Conc
section
variable {P : Program} {N0 : Nat} {own : Own} {n0 : Nat} {w : World}
@[simp] theorem SW_pure {α : Type} {a : α} {Q : α → World → Prop} : SW P N0 own n0 (Pure.pure a) w Q ↔ Q a w := Iff.rfl
@[simp] theorem SW_pure' {α : Type} {a : α} {Q : α → World → Prop} : SW P N0 own n0 (Sem.pure a) w Q ↔ Q a w := Iff.rfl
@[simp] theorem SW_program {Q : Program → World → Prop} : SW P N0 own n0 program w Q ↔ Q P w := Iff.rfl
@[simp] theorem SW_newObj {o : Obj} {Q : Nat → World → Prop} : SW P N0 own n0 (newObj o) w Q ↔ Q w.heap.size { w with heap := w.heap.push o } := Iff.rfl
@[simp] theorem SW_shape {r : Nat} {Q : Option (TypeId × Nat) → World → Prop} : SW P N0 own n0 (shape r) w Q ↔ Q (w.shape? r) w := Iff.rfl
@[simp] theorem SW_frozen {a : Addr} {Q : Bool → World → Prop} : SW P N0 own n0 (frozen a) w Q ↔ Q (w.frozen? a) w := Iff.rfl
theorem SW_map {α β : Type} {s : Sem α} {f : α → β} {Q : β → World → Prop} : SW P N0 own n0 (f <$> s) w Q ↔ SW P N0 own n0 s w (fun v w' => Q (f v) w') := by
  have : (f <$> s) = (s >>= fun v => Pure.pure (f v)) := rfl
  rw [this, SW_bind]; rfl
theorem SW_typeInfo {t : TypeId} {i : TypeInfo} (h : P.info? t = some i) {Q : TypeInfo → World → Prop} : SW P N0 own n0 (typeInfo t) w Q ↔ Q i w := by
  unfold typeInfo; rw [SW_bind]; simp [h]
theorem SW_underlying {t : TypeId} {d : TypeDesc} (h : P.underlying t = some d) {Q : TypeDesc → World → Prop} : SW P N0 own n0 (underlying t) w Q ↔ Q d w := by
  unfold underlying; rw [SW_bind]; simp [h]
theorem SW_sizeOf {t : TypeId} {i : TypeInfo} (h : P.info? t = some i) {Q : Nat → World → Prop} : SW P N0 own n0 (sizeOf t) w Q ↔ Q i.size w := by
  unfold sizeOf; rw [SW_bind, SW_typeInfo h]; rfl
theorem SW_zeroValue {t : TypeId} {i : TypeInfo} {z : Value} (h : P.info? t = some i) (hz : i.zero = some z) {Q : Value → World → Prop} : SW P N0 own n0 (zeroValue t) w Q ↔ Q z w := by
  unfold zeroValue; rw [SW_bind, SW_typeInfo h]; simp [hz]
def aggD : TypeDesc → Bool | .struct _ => true | .array _ _ => true | _ => false
theorem SW_isAgg {t : TypeId} {d : TypeDesc} (h : P.underlying t = some d) {Q : Bool → World → Prop} : SW P N0 own n0 (isAgg t) w Q ↔ Q (aggD d) w := by
  unfold isAgg; rw [SW_bind, SW_underlying h]; cases d <;> rfl
theorem add_place {a : Addr} (h : a.spot = none) (i : Nat) : a.add i = ⟨a.block, a.off + i, none⟩ := by
  unfold Addr.add
  split
  · rename_i e; subst e; cases a; simp_all
  · rfl
theorem SW_load {a : Addr} {v : Value} {Q : Value → World → Prop} (hv : w.cell? a = some v) (hm : mine own n0 w a.block ∨ a.block < N0) (h : Q v w) : SW P N0 own n0 (load a) w Q := ⟨v, hv, hm, h⟩
theorem SW_loadCells {a : Addr} (hs : a.spot = none) (hm : mine own n0 w a.block ∨ a.block < N0) : ∀ (xs : List Value) (i : Nat) (acc : Array Value) {Q : Array Value → World → Prop},
    (∀ (j : Nat) x, xs[j]? = some x → w.cell? ⟨a.block, a.off + i + j, none⟩ = some x) → Q (acc ++ xs.toArray) w → SW P N0 own n0 (loadCellsFrom a i xs.length acc) w Q
  | [], i, acc, Q, _, hq => by simpa [loadCellsFrom] using hq
  | x :: xs, i, acc, Q, hx, hq => by
    rw [List.length_cons, loadCellsFrom, SW_bind]
    have h0 := hx 0 x rfl
    refine SW_load (v := x) (by rw [add_place hs]; exact h0) (by rw [add_place hs]; exact hm) ?_
    refine SW_loadCells hs hm xs (i + 1) (acc.push x) (fun j y hy => ?_) (by simpa using hq)
    have := hx (j + 1) y (by simpa using hy)
    rw [show a.off + (i + 1) + j = a.off + i + (j + 1) by omega]; exact this
end

section
variable {N0 : Nat} {mla : Addr} {ml : Gl} {vt : Vt} {σ : Sg} {h : Heap} {nx : P} {own : Own} {n0 : Nat} {w : World}
theorem vrl_of {F : Nat → Option Value} : ∀ (cs : List V), (∀ (i : Nat) v, cs[i]? = some v → ∃ x, F i = some x ∧ VR ml σ v x ∧ OneCell x) → ∃ xs : List Value, VRL ml σ cs xs ∧ (∀ x ∈ xs, OneCell x) ∧ ∀ (i : Nat) x, xs[i]? = some x → F i = some x
  | [], _ => ⟨[], trivial, by simp, fun i x hx => by simp at hx⟩
  | v :: cs, hF => by
    obtain ⟨x, hx, hv, hone⟩ := hF 0 v rfl
    obtain ⟨xs, h1, h0, h2⟩ := vrl_of (F := fun i => F (i + 1)) cs fun i u hu => hF (i + 1) u (by simpa using hu)
    refine ⟨x :: xs, ⟨hv, h1⟩, by simpa using ⟨hone, h0⟩, fun i y hy => ?_⟩
    cases i with
    | zero => simp at hy; subst hy; exact hx
    | succ i => exact h2 i y (by simpa using hy)
/-- A read of the evaluator's, of the model's. -/
theorem AR.cells (H : AR N0 mla ml vt σ h nx own n0 w) {id : P} {p : Pl} {cs : List V} {el room fz : Nat} {opn : Bool} (hp : σ id = some p) (ho : T.get id h = some (.row cs el room opn fz)) (off n : Nat) :
    ∃ xs : List Value, VRL ml σ ((cs.drop off).take n) xs ∧ (∀ x ∈ xs, OneCell x) ∧ ∀ (i : Nat) x, xs[i]? = some x → w.cell? ⟨p.bl, p.sh + off + i, none⟩ = some x := by
  refine vrl_of (F := fun i => w.cell? ⟨p.bl, p.sh + off + i, none⟩) _ fun i v hi => ?_
  have hi' : cs[off + i]? = some v := by
    rw [List.getElem?_take] at hi
    split at hi
    · simpa using hi
    · cases hi
  obtain ⟨x, hx, hv⟩ := H.cell hp ho hi'
  exact ⟨x, by rw [show p.sh + off + i = p.sh + (off + i) by omega]; exact hx, hv⟩
theorem ObR.mono {σ' : Sg} (hs : Sub σ σ') {p : Pl} {ob : Ob} {o : Obj} (hr : ObR ml σ p ob o) : ObR ml σ' p ob o := by
  cases ob with
  | row cs el room opn fz =>
    cases o <;> simp only [ObR] at hr
    rename_i c el' fr
    obtain ⟨lo, hi⟩ := fr
    simp only [ObR] at hr ⊢
    exact ⟨hr.1, fun i v hv => by obtain ⟨x, h1, h2, h3⟩ := hr.2.1 i v hv; exact ⟨x, h1, VR.mono hs _ _ h2, h3⟩, hr.2.2⟩
  | map es clk =>
    cases o <;> simp only [ObR] at hr ⊢
    refine ⟨hr.1, hr.2.1, fun i e he => ?_⟩
    obtain ⟨x, h1, h2, h3, h4⟩ := hr.2.2 i e he
    exact ⟨x, h1, VR.mono hs _ _ h2, VR.mono hs _ _ h3, h4⟩
  | chan cap buf cl s r =>
    cases o <;> simp only [ObR] at hr ⊢
    exact ⟨hr.1, hr.2.1, hr.2.2.1, hr.2.2.2.1, hr.2.2.2.2.1, VRL.mono hs _ _ hr.2.2.2.2.2⟩
  | sit n N pos => cases o <;> simp only [ObR] at hr ⊢; exact hr
  | mit m since seen stepped =>
    cases m with
    | none => cases o <;> simp only [ObR] at hr ⊢; exact hr
    | some m =>
      cases o <;> simp only [ObR] at hr ⊢
      obtain ⟨h0, ⟨q, h1, h2⟩, h3⟩ := hr
      exact ⟨h0, ⟨q, hs _ _ h1, h2⟩, h3⟩
  | lp st pend fn nt regs params asg body dfr =>
    cases o <;> simp only [ObR] at hr ⊢
    obtain ⟨h1, h2, h3, h4, h5, h6, h7, ⟨q, h8, h9⟩, h10⟩ := hr
    exact ⟨h1, h2, h3, h4, h5, h6, h7, ⟨q, hs _ _ h8, h9⟩, fun p v hv => VR.mono hs _ _ (h10 p v hv)⟩
  | dfr full => cases o <;> simp only [ObR] at hr ⊢; exact hr
theorem P.toNat_inj : ∀ {p q : P}, p.toNat = q.toNat → p = q := by
  intro p
  induction p with
  | z => intro q h; cases q <;> simp [P.toNat] at h ⊢
  | o p ih => intro q h; cases q <;> simp [P.toNat] at h ⊢ <;> first | omega | exact ih (by omega)
  | e p ih => intro q h; cases q <;> simp [P.toNat] at h ⊢ <;> first | omega | exact ih (by omega)
/-- A new object. -/
theorem AR.new (H : AR N0 mla ml vt σ h nx own n0 w) {ob : Ob} {o : Obj} {ex : Nat} (hr : ObR ml σ ⟨w.heap.size, 0, ex⟩ ob o) :
    ∃ σ', Sub σ σ' ∧ σ' nx = some ⟨w.heap.size, 0, ex⟩ ∧ AR N0 mla ml vt σ' (T.put (some ob) nx h) nx.succ own n0 { w with heap := w.heap.push o } ∧ (∀ id, id ≠ nx → σ' id = σ id) := by
  have hnx : σ nx = none := by
    cases e : σ nx with
    | none => rfl
    | some p => have := H.low _ _ e; omega
  have sub : Sub σ (fun id => if id = nx then some ⟨w.heap.size, 0, ex⟩ else σ id) := by
    intro id p hp
    have : id ≠ nx := fun e => by rw [e, hnx] at hp; cases hp
    simp [this, hp]
  have cases' : ∀ id p, (if id = nx then some (⟨w.heap.size, 0, ex⟩ : Pl) else σ id) = some p → (id = nx ∧ p = ⟨w.heap.size, 0, ex⟩) ∨ (id ≠ nx ∧ σ id = some p) := by
    intro id p hp
    by_cases e : id = nx
    · simp [e] at hp; exact .inl ⟨e, hp.symm⟩
    · simp [e] at hp; exact .inr ⟨e, hp⟩
  have hget : ∀ id, id ≠ nx → T.get id (T.put (some ob) nx h) = T.get id h := fun id e => T.get_put_ne _ _ _ _ (Ne.symm e)
  have old : ∀ b, b < w.heap.size → (w.heap.push o)[b]? = w.heap[b]? := fun b hb => by rw [Array.getElem?_push, if_neg (by omega)]
  refine ⟨_, sub, by simp, ⟨?_, ?_, ?_, ?_, ?_, ?_, ?_, ?_, ?_, ?_, ?_, ?_, ?_, H.apart⟩, fun id e => by simp [e]⟩
  · intro id p hp
    rcases cases' id p hp with ⟨_, rfl⟩ | ⟨_, hp⟩
    · simp
    · have := H.dom id p hp
      simp; omega
  · intro id p ob' hp hob
    rcases cases' id p hp with ⟨_, rfl⟩ | ⟨e, hp⟩
    · exact .inr ⟨H.n0le.2, by simp⟩
    · rw [hget id e] at hob
      exact mine_mono (by simp) (H.has id p _ hp hob)
  · intro id p hp
    rw [P.toNat_succ]
    rcases cases' id p hp with ⟨rfl, _⟩ | ⟨_, hp⟩
    · omega
    · have := H.low id p hp; omega
  · intro id ob' hob
    rw [P.toNat_succ]
    by_cases e : id = nx
    · subst e; omega
    · rw [hget id e] at hob; have := H.hlow id _ hob; omega
  · intro id id' p p' ob1 ob2 hp hp' h1 h2 hb
    rcases cases' id p hp with ⟨e, ep⟩ | ⟨e, hp⟩ <;> rcases cases' id' p' hp' with ⟨e', ep'⟩ | ⟨e', hp'⟩
    · rw [e, e']
    · have := H.dom _ _ hp'; rw [ep] at hb; simp at hb; omega
    · have := H.dom _ _ hp; rw [ep'] at hb; simp at hb; omega
    · rw [hget id e] at h1; rw [hget id' e'] at h2
      exact H.inj id id' p p' _ _ hp hp' h1 h2 hb
  · intro id p ob' hp hob
    rcases cases' id p hp with ⟨e, ep⟩ | ⟨e, hp⟩
    · subst e; subst ep
      rw [T.get_put_same] at hob
      cases hob
      exact ⟨o, by simp, hr.mono sub⟩
    · rw [hget id e] at hob
      obtain ⟨o', ho', hr'⟩ := H.obs id p ob' hp hob
      exact ⟨o', by rw [← ho']; exact old _ (H.dom _ _ hp), hr'.mono sub⟩
  · intro id hid
    obtain ⟨h1, h2⟩ := H.vts id hid
    have : id ≠ nx := by rintro rfl; omega
    exact ⟨by simp [this, h1], by rw [P.toNat_succ]; omega⟩
  · intro id p ob' hp hob
    rcases cases' id p hp with ⟨e, _⟩ | ⟨_, hp⟩
    · have := H.frl id ob' hob; rw [e] at this; omega
    · obtain ⟨o', ho', hr'⟩ := H.fr id p ob' hp hob
      exact ⟨o', by rw [← ho']; exact old _ (H.dom _ _ hp), hr'.mono sub⟩
  · intro id id' p p' ob1 ob2 hp hp' h1 h2
    rcases cases' id p hp with ⟨e, _⟩ | ⟨_, hp⟩
    · have := H.frl id ob1 h1; rw [e] at this; omega
    · rcases cases' id' p' hp' with ⟨e', ep'⟩ | ⟨e', hp'⟩
      · have := H.dom _ _ hp
        rw [ep']; simp; omega
      · rw [hget id' e'] at h2
        exact H.frx id id' p p' _ _ hp hp' h1 h2
  · intro id p ob' hp hob
    rcases cases' id p hp with ⟨e, _⟩ | ⟨_, hp⟩
    · have := H.frl id ob' hob; rw [e] at this; omega
    · exact mine_mono (by simp) (H.fro id p _ hp hob)
  · intro id ob' hob
    have := H.frl id ob' hob
    rw [P.toNat_succ]; omega
  · refine ⟨H.glob.1, ?_⟩
    have h1 := H.glob.2
    have := H.n0le; have := H.glob.1
    unfold World.cell? at h1 ⊢
    rw [show ({ w with heap := w.heap.push o } : World).heap[mla.block]? = w.heap[mla.block]? from old _ (by omega)]
    exact h1
  · exact ⟨H.n0le.1, by simp; have := H.n0le.2; omega⟩
end
end Go.Gb
end
