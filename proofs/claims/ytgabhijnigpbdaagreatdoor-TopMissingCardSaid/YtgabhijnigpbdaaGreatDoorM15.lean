/- A part of the proof of the statement Rows.TopMissingCardSaid (at every argument the law returns true on every schedule, and its argument reads as before; the listed variables as laid). This text: a stepper over symbolic states of the translated program and its soundness, part 15 of 41. -/
import Derived.Test.YtgabhijnigpbdaaGreatDoorM14
section
/-! The model's operations turned into the evaluator's: each is told truly. -/
set_option linter.unusedSimpArgs false
set_option linter.unusedVariables false
set_option linter.unusedSectionVars false
namespace Go.Gb
open Go.Conc
variable {C : Type}
variable (E : Env)
noncomputable def flat1K (d : TypeDesc) (k : EqC → O C) : O C := match d with
  | .int _ => k .int | .string => k .str | .bool => k .bool
  | _ => none
noncomputable def flatK (fs : List Field) : Nat → (List EqC → O C) → O C :=
  List.rec (motive := fun _ => Nat → (List EqC → O C) → O C) (fun _ k => k []) (fun f _ ih i k => if f.name = "_" then none else boolK (Nat.beq f.offset i) (undK E f.type fun d => flat1K d fun c => ih (Nat.succ i) fun cs => k (c :: cs)) none) fs
noncomputable def eqcK (t : Nat) (k : EqC → O C) : O C := undK E t fun d => match d with
  | .int _ => k .int | .string => k .str | .bool => k .bool
  | .pointer e => sizeK E e fun n => Nat.rec (motive := fun _ => O C) none (fun _ _ => k .ptr) n
  | .slice _ => k .slc
  | .interface _ => k .ifc
  | .func _ _ _ => k .fnc
  | .struct fs => pK t fun p => optK (T.get p E.flats) none fun b => boolK b (flatK E fs.toList 0 fun l => k (.flat l)) none
  | _ => none
noncomputable def placesK (fs : List Field) (k : List (Nat × Nat) → O C) : O C :=
  List.rec (motive := fun _ => (List (Nat × Nat) → O C) → O C) (fun k => k []) (fun f _ ih k => natK f.offset fun o => sizeK E f.type fun s => ih fun ps => k ((o, s) :: ps)) fs k
def lnth {α : Type} (l : List α) (n : Nat) : Option α := l[n]?
noncomputable def partsK (place : Nat → Option (Nat × Nat)) (qs : List (Nat × Operand)) (k : List (Nat × Nat × Opd) → O C) : O C :=
  List.rec (motive := fun _ => (List (Nat × Nat × Opd) → O C) → O C) (fun k => k []) (fun q _ ih k => optK (place q.1) none fun p => natK p.1 fun o => natK p.2 fun s => oK q.2 fun u => ih fun ps => k ((o, s, u) :: ps)) qs k
def isConstO : Operand → Bool
  | .const _ => true
  | _ => false
noncomputable def ifcK (c : EqC) (x y : Operand) (k : O C) : O C := match c with
  | .ifc => boolK (isConstO x) k (boolK (isConstO y) k none)
  | _ => k
noncomputable def eqIns (neg : Bool) (t : Nat) (x y : Operand) (k : Ins → O C) : O C := eqcK E t fun c => ifcK c x y (oK x fun x => oK y fun y => k (.eqv c neg x y))
noncomputable def convIns (s d : Nat) (x : Operand) (k : Ins → O C) : O C := undK E s fun sd => undK E d fun dd => match dd with
  | .int kd => oK x fun x => k (.convInt kd x)
  | .slice e => (match sd with
    | .string => undK E e fun ed => (match ed with
      | .int .u8 => sizeK E e fun n => boolK (Nat.beq n 1) (natK e fun e => oK x fun x => k (.convS2B e x)) none
      | _ => none)
    | _ => none)
  | .unsafePointer => (match sd with
    | .pointer e => sizeK E e fun n => Nat.rec (motive := fun _ => O C) none (fun _ _ => oK x fun x => k (.toUns x)) n
    | _ => none)
  | .pointer e => (match sd with
    | .unsafePointer => natK e fun e => sizeK E e fun n => Nat.rec (motive := fun _ => O C) none (fun m _ => oK x fun x => k (.ofUns e (Nat.succ m) x)) n
    | _ => none)
  | _ => none
noncomputable def sliceIns (t : Nat) (x : Operand) (lo hi : Option Operand) (k : Ins → O C) : O C := undK E t fun d => oK x fun x => oOptK lo fun lo => oOptK hi fun hi => match d with
  | .string => k (.sliceS x lo hi)
  | .slice e => sizeK E e fun n => k (.sliceW n x lo hi)
  | .array m e => natK m fun m => sizeK E e fun n => k (.sliceA m n x lo hi)
  | _ => none
noncomputable def aggK (d : TypeDesc) (yes no : O C) : O C := match d with | .struct _ => yes | .array _ _ => yes | _ => no
noncomputable def loadIns (t : Nat) (x : Operand) (k : Ins → O C) : O C := match x with
  | .global g => boolK (Nat.beq g E.mlg) (undK E t fun d => match d with | .int .i64 => k (.gload E.big) | _ => none) none
  | x => undK E t fun d => oK x fun x => aggK d (sizeK E t fun n => k (.loadN n x)) (k (.load1 x))
noncomputable def buildIns (t : Nat) (qs : Array (Nat × Operand)) (k : Ins → O C) : O C := undK E t fun d => zeroK E t fun zs => match d with
  | .struct fs => placesK E fs.toList fun pl => partsK (fun i => pl[i]?) qs.toList fun ps => k (.build zs ps)
  | .array _ e => sizeK E e fun s => partsK (fun i => some (i * s, s)) qs.toList fun ps => k (.build zs ps)
  | _ => none
noncomputable def bsliceIns (t n : Nat) (qs : Array (Nat × Operand)) (k : Ins → O C) : O C := undK E t fun d => match d with
  | .slice e => natK e fun e => natK n fun n => zeroK E e fun zs => sizeK E e fun s => boolK (Nat.beq (llen zs 0) s && (Nat.blt 0 s && Nat.ble (n * s) 16777216)) (partsK (fun i => some (i * s, s)) qs.toList fun ps => k (.bslice e n zs ps)) none
  | _ => none
noncomputable def mksliceIns (t : Nat) (l c : Operand) (k : Ins → O C) : O C := undK E t fun d => match d with
  | .slice e => natK e fun e => zeroK E e fun zs => infoK E e fun i => boolK (Nat.beq (llen zs 0) i.size && (Nat.blt 0 i.size && Nat.ble i.bytes 1048576)) (oK l fun l => oK c fun c => k (.mkslice e zs l c)) none
  | _ => none
noncomputable def mkchanIns (t : Nat) (c : Operand) (k : Ins → O C) : O C := undK E t fun d => match d with
  | .chan _ e => infoK E e fun i => boolK (Nat.ble i.bytes 1048576) (oK c fun c => k (.mkchan c)) none
  | _ => none
noncomputable def fieldIns (addr : Bool) (t : Nat) (x : Operand) (i : Nat) (k : Ins → O C) : O C := undK E t fun d => match d with
  | .struct fs => optK (lnth fs.toList i) none fun f => natK f.offset fun o => sizeK E f.type fun s => boolK addr
      (boolK (Nat.blt 0 s) (oK x fun x => k (.fadd o x)) none)
      (undK E f.type fun d => oK x fun x => aggK d (k (.fld o s true x)) (k (.fld o s false x)))
  | _ => none
noncomputable def ixIns (addr : Bool) (t : Nat) (x i : Operand) (k : Ins → O C) : O C := undK E t fun d => oK x fun x => oK i fun i => match d with
  | .slice e => sizeK E e fun s => boolK addr (k (.ixaV s x i)) none
  | .array n e => natK n fun n => sizeK E e fun s => boolK addr (k (.ixaA n s x i)) (undK E e fun d => aggK d (k (.idxA n s true x i)) (k (.idxA n s false x i)))
  | .string => boolK addr none (k (.idxS x i))
  | _ => none
noncomputable def keyCK (c : EqC) (k : O C) : O C := match c with | .int => k | .str => k | .bool => k | .flat _ => k | _ => none
noncomputable def mapIns (t : Nat) (k : EqC → Nat → O C) : O C := undK E t fun d => match d with
  | .map kt el => eqcK E kt fun c => k c el
  | _ => none
noncomputable def rangeIns (t : Nat) (x : Operand) (k : Ins → O C) : O C := undK E t fun d => oK x fun x => match d with
  | .string => k (.rangeS x)
  | .map _ _ => k (.rangeM x)
  | _ => none
noncomputable def assertIns (x : Operand) (t : Nat) (ok : Bool) (k : Ins → O C) : O C := undK E t fun d => match d with
  | .interface _ => none
  | _ => zeroVK E t fun z => natK t fun t => oK x fun x => k (.tassert x t z ok)
noncomputable def lenIns (t : Nat) (x : Operand) (k : Ins → O C) : O C := undK E t fun d => oK x fun x => match d with
  | .string => k (.lenS x)
  | .slice _ => k (.lenV x)
  | .map _ _ => k (.lenM x)
  | _ => none
noncomputable def appIns (t xt : Nat) (x y : Operand) (k : Ins → O C) : O C := undK E t fun d => match d with
  | .slice e => undK E xt fun xd => (match xd with
    | .int _ => none
    | _ => natK e fun e => zeroK E e fun zs => infoK E e fun i => natK i.size fun s => boolK (Nat.beq (llen zs 0) s && (Nat.blt 0 s && Nat.ble i.bytes 1048576)) (oK x fun x => oK y fun y => k (.append e s x y)) none)
  | _ => none
noncomputable def clearIns (t : Nat) (x : Operand) (k : Ins → O C) : O C := undK E t fun d => match d with
  | .slice e => zeroK E e fun zs => oK x fun x => k (.clearB zs x)
  | _ => none
noncomputable def usStrIns (t : Nat) (x y : Operand) (k : Ins → O C) : O C := undK E t fun d => match d with
  | .pointer e => natK e fun e => sizeK E e fun s => boolK (Nat.beq s 1) (oK x fun x => oK y fun y => k (.usStr e x y)) none
  | _ => none
noncomputable def builtIns (b : Builtin) (ts : List TypeId) (xs : List Operand) (k : Ins → O C) : O C :=
  match b, ts, xs with
  | .len, [t], [x] => lenIns E t x k
  | .min, _, [x, y] => oK x fun x => oK y fun y => k (.minB x y)
  | .max, _, [x, y] => oK x fun x => oK y fun y => k (.maxB x y)
  | .append, t :: xt :: _, [x, y] => appIns E t xt x y k
  | .clear, t :: _, [x] => clearIns E t x k
  | .unsafeString, t :: _, [x, y] => usStrIns E t x y k
  | .unsafeSliceData, _, [x] => oK x fun x => k (.usData x)
  | _, _, _ => none
/-- An operation that ends at once. -/
noncomputable def compI (op : Op) (k : Ins → O C) : O C :=
  match op with
  | .move x => oK x fun x => k (.mv x)
  | .assign x => oK x fun x => k (.mv x)
  | .pick c x y => oK c fun c => oK x fun x => oK y fun y => k (.pick c x y)
  | .alloc t => natK t fun t => zeroK E t fun zs => k (.alloc t zs)
  | .box t x => natK t fun t => sizeK E t fun n => oK x fun x => k (.box t n x)
  | .build t qs => buildIns E t qs k
  | .buildSlice t n qs => bsliceIns E t n qs k
  | .load t x => loadIns E t x k
  | .store t x y => sizeK E t fun n => oK x fun x => oK y fun y => k (.store n x y)
  | .nilCheck x => oK x fun x => k (.nilchk x)
  | .binOp op t x y _ => (match op with
    | .eql => eqIns E false t x y k
    | .neq => eqIns E true t x y k
    | op => oK x fun x => oK y fun y => k (.bin op x y))
  | .unOp op _ x => (match op with
    | .not => oK x fun x => k (.un .not x)
    | _ => none)
  | .convert s d x => convIns E s d x k
  | .makeInterface t x => undK E t fun d => (match d with
    | .interface _ => none
    | _ => natK t fun t => oK x fun x => k (.mkifc t x))
  | .makeFunc f xs ys => (match f with
    | .func g => natK g fun g => osK xs.toList fun xs => osK ys.toList fun ys => k (.mkfn (.func g) xs ys)
    | _ => none)
  | .makeMap _ none => k .mkmap
  | .makeChan t c => mkchanIns E t c k
  | .makeSlice t l c => mksliceIns E t l c k
  | .slice t x lo hi none => sliceIns E t x lo hi k
  | .fieldAddr t x i => fieldIns E true t x i k
  | .field t x i => fieldIns E false t x i k
  | .indexAddr t x i => ixIns E true t x i k
  | .index t x i => ixIns E false t x i k
  | .lookup t m x ok => mapIns E t fun c el => zeroVK E el fun z => oK m fun m => oK x fun x => boolK ok (k (.lookup c z m x true)) (k (.lookup c z m x false))
  | .mapUpdate t m x y => mapIns E t fun c _ => oK m fun m => oK x fun x => oK y fun y => k (.mapupd c m x y)
  | .insert t m x y => mapIns E t fun c _ => oK m fun m => oK x fun x => oK y fun y => k (.mapupd c m x y)
  | .mapEntry t m x => mapIns E t fun c el => zeroVK E el fun z => oK m fun m => oK x fun x => k (.mentry c z m x)
  | .entryStore _ m s y => oK m fun m => oK s fun s => oK y fun y => k (.estore m s y)
  | .range t x => rangeIns E t x k
  | .next it b => oK it fun it => boolK b (k (.nextS it)) (k (.nextM it))
  | .entry it => oK it fun it => k (.entry it)
  | .typeAssert x _ t ok => assertIns E x t ok k
  | .extract x i => natK i fun i => oK x fun x => k (.extract i x)
  | .call c => (match c.callee with
    | .builtin b => builtIns E b c.argTypes.toList c.args.toList k
    | _ => none)
  | _ => none
end Go.Gb
end
section
/-! Each operation that ends at once is told truly. -/
set_option linter.unusedSimpArgs false
set_option linter.unusedVariables false
set_option linter.unusedSectionVars false
namespace Go.Gb
open Go.Conc
/-- What the evaluator's operation tells is what the model's does. -/
def SndOp (P : Program) (N0 : Nat) (mla : Addr) (ml : Gl) (op : Op) (i : Ins) : Prop :=
  ∀ {C : Type} {vt : Vt} {own : Own} {n0 : Nat} {σ : Sg} {h : Heap} {nx : Gb.P} {w : World} {regs : Regs} {a : Act} {k : K C} {r : C} {o : Oper}, AR N0 mla ml vt σ h nx own n0 w → RegR ml σ regs a → o.op = op →
    exec i regs h nx k = some r → SW P N0 own n0 (execOp a.eval o) w (Out N0 mla ml vt own n0 σ k r)
structure EnvOk (P : Program) (E : Env) (mla : Addr) (ml : Gl) : Prop where
  tys : E.Tys P
  cz : ∀ t i, P.info? t = some i → ml.cz t = i.size
  glob : mla = ⟨E.mlg, 0, none⟩
  big : (E.big % 3 = 0 → ml.val < (E.big / 3 : Nat)) ∧ (E.big % 3 = 1 → (E.big / 3 : Nat) ≤ ml.val)
  flats : ∀ p, T.get p E.flats = some true → P.stoodInHeld p.toNat = false ∧ P.eqGuardType P.depth p.toNat = false
section
variable {C : Type} {E : Env} {P : Program} {N0 : Nat} {mla : Addr} {ml : Gl} {k : Ins → O C} {r : C}
theorem optK_inv {α : Type} {o : Option α} {k : α → O C} {r : C} (e : optK o none k = some r) : ∃ a, o = some a ∧ k a = some r := by
  cases o with
  | none => cases e
  | some a => exact ⟨a, rfl, e⟩
theorem natrec_inv {n : Nat} {k : Nat → O C} {r : C} (e : Nat.rec (motive := fun _ => O C) none (fun m _ => k m) n = some r) : ∃ m, n = m + 1 ∧ k m = some r := by
  cases n with
  | zero => cases e
  | succ m => exact ⟨m, rfl, e⟩
theorem flat1K_inv {d : TypeDesc} {k : EqC → O C} {r : C} {t : TypeId} (hd : P.underlying t = some d) (e : flat1K d k = some r) : ∃ c, EqT1 P c t ∧ (c = .int ∨ c = .str ∨ c = .bool) ∧ aggD d = false ∧ k c = some r := by
  cases d <;> simp only [flat1K, reduceCtorEq] at e
  · exact ⟨.bool, hd, .inr (.inr rfl), rfl, e⟩
  · exact ⟨.int, ⟨_, hd⟩, .inl rfl, rfl, e⟩
  · exact ⟨.str, hd, .inr (.inl rfl), rfl, e⟩
theorem boolK_false {x y : O C} : boolK false x y = y := rfl
theorem boolK_true {x y : O C} : boolK true x y = x := rfl
theorem flatK_inv (hE : E.Tys P) : ∀ (fs : List Field) (i : Nat) {k : List EqC → O C} {r : C}, flatK E fs i k = some r → ∃ l, FlatF P l fs i ∧ k l = some r
  | [], i, k, r, e => ⟨[], trivial, e⟩
  | f :: fs, i, k, r, e => by
    replace e : (if f.name = "_" then none else boolK (Nat.beq f.offset i) (undK E f.type fun d => flat1K d fun c => flatK E fs (Nat.succ i) fun cs => k (c :: cs)) none) = some r := e
    split at e
    · cases e
    · rename_i hn
      obtain ⟨h1, e2⟩ := boolK_inv e
      obtain ⟨d, h2, e3⟩ := undK_inv hE e2
      obtain ⟨c, h3, h4, h5, e4⟩ := flat1K_inv h2 e3
      obtain ⟨l, h6, e5⟩ := flatK_inv hE fs (i + 1) e4
      exact ⟨c :: l, ⟨hn, Nat.eq_of_beq_eq_true h1, ⟨d, h2, h5⟩, h3, h4, h6⟩, e5⟩
theorem eqcK_inv (hE : EnvOk P E mla ml) {t : Nat} {k : EqC → O C} {r : C} (e : eqcK E t k = some r) : ∃ c, EqT P c t ∧ k c = some r := by
  obtain ⟨d, hd, e⟩ := undK_inv hE.tys e
  cases d <;> simp only [reduceCtorEq] at e
  · exact ⟨.bool, hd, e⟩
  · exact ⟨.int, ⟨_, hd⟩, e⟩
  · exact ⟨.str, hd, e⟩
  · obtain ⟨i, h1, e2⟩ := sizeK_inv hE.tys e
    obtain ⟨m, h2, e3⟩ := natrec_inv (k := fun _ => k .ptr) e2
    exact ⟨.ptr, ⟨_, i, hd, h1, by omega⟩, e3⟩
  · exact ⟨.slc, ⟨_, hd⟩, e⟩
  · obtain ⟨p, h1, e2⟩ := pK_inv e
    obtain ⟨b, h2, e3⟩ := optK_inv e2
    obtain ⟨h3, e4⟩ := boolK_inv e3
    subst h3
    obtain ⟨l, h4, e5⟩ := flatK_inv hE.tys _ _ e4
    have := hE.flats p h2
    rw [h1] at this
    exact ⟨.flat l, ⟨_, hd, this.1, this.2, h4⟩, e5⟩
  · exact ⟨.fnc, ⟨_, _, _, hd⟩, e⟩
  · exact ⟨.ifc, ⟨_, hd⟩, e⟩
theorem isConstO_eq {x : Operand} (h : isConstO x = true) : IsConst x := by cases x <;> first | trivial | cases h
theorem ifcK_inv {c : EqC} {x y : Operand} {k : O C} {r : C} (e : ifcK c x y k = some r) : (c = .ifc → IsConst x ∨ IsConst y) ∧ k = some r := by
  by_cases hc : c = .ifc
  · subst hc
    rcases boolK_cases e with ⟨h1, e2⟩ | ⟨_, e2⟩
    · exact ⟨fun _ => .inl (isConstO_eq h1), e2⟩
    · obtain ⟨h1, e3⟩ := boolK_inv e2
      exact ⟨fun _ => .inr (isConstO_eq h1), e3⟩
  · refine ⟨fun h => absurd h hc, ?_⟩
    cases c <;> first | exact e | exact absurd rfl hc
theorem eqIns_snd (hE : EnvOk P E mla ml) {neg : Bool} {t yt : Nat} {x y : Operand} (e : eqIns E neg t x y k = some r) : ∃ i, SndOp P N0 mla ml (.binOp (if neg then .neq else .eql) t x y yt) i ∧ k i = some r := by
  obtain ⟨c, h1, e2⟩ := eqcK_inv hE e
  obtain ⟨h2, e3⟩ := ifcK_inv e2
  obtain ⟨x', h3, e4⟩ := oK_inv e3
  obtain ⟨y', h4, e5⟩ := oK_inv e4
  exact ⟨_, fun H hr ho e => snd_eqv H hr h3 h4 h1 h2 ho e, e5⟩
theorem convIns_snd (hE : EnvOk P E mla ml) {s d : Nat} {x : Operand} (e : convIns E s d x k = some r) : ∃ i, SndOp P N0 mla ml (.convert s d x) i ∧ k i = some r := by
  obtain ⟨sd, hs, e⟩ := undK_inv hE.tys e
  obtain ⟨dd, hd, e⟩ := undK_inv hE.tys e
  cases dd <;> simp only [reduceCtorEq] at e
  · obtain ⟨x', hx, e⟩ := oK_inv e
    exact ⟨_, fun H hr ho e => snd_convInt H hr hx hs hd ho e, e⟩
  · cases sd <;> simp only [reduceCtorEq] at e
    obtain ⟨i, hi, e⟩ := sizeK_inv hE.tys e
    obtain ⟨m, h2, e⟩ := natrec_inv (k := fun _ => oK x fun x => k (.toUns x)) e
    obtain ⟨x', hx, e⟩ := oK_inv e
    exact ⟨_, fun H hr ho e => snd_toUns H hr hx hs hd hi (by omega) ho e, e⟩
  · cases sd <;> simp only [reduceCtorEq] at e
    rw [natK_eq] at e
    obtain ⟨i, hi, e⟩ := sizeK_inv hE.tys e
    obtain ⟨m, h2, e⟩ := natrec_inv (k := fun m => oK x fun x => k (.ofUns _ (Nat.succ m) x)) e
    obtain ⟨x', hx, e⟩ := oK_inv e
    refine ⟨_, fun H hr ho e => snd_ofUns H hr hx hs hd hi (by omega) ho ?_, e⟩
    rw [h2]; exact e
  · cases sd <;> simp only [reduceCtorEq] at e
    obtain ⟨ed, hed, e⟩ := undK_inv hE.tys e
    cases ed <;> (try simp only [reduceCtorEq] at e)
    rename_i kd
    cases kd <;> (try simp only [reduceCtorEq] at e)
    obtain ⟨i, hi, e⟩ := sizeK_inv hE.tys e
    obtain ⟨h1, e⟩ := boolK_inv e
    have h1 := Nat.eq_of_beq_eq_true h1
    rw [natK_eq] at e
    obtain ⟨x', hx, e⟩ := oK_inv e
    exact ⟨_, fun H hr ho e => snd_S2B H hr hx hs hd hed (by rw [hE.cz _ _ hi, h1]) ho e, e⟩
theorem sliceIns_snd (hE : EnvOk P E mla ml) {t : Nat} {x : Operand} {lo hi : Option Operand} (e : sliceIns E t x lo hi k = some r) : ∃ i, SndOp P N0 mla ml (.slice t x lo hi none) i ∧ k i = some r := by
  obtain ⟨d, hd, e⟩ := undK_inv hE.tys e
  obtain ⟨x', hx, e⟩ := oK_inv e
  obtain ⟨lo', hlo, e⟩ := oOptK_inv e
  obtain ⟨hi', hhi, e⟩ := oOptK_inv e
  cases d <;> simp only [reduceCtorEq] at e
  · exact ⟨_, fun H hr ho e => snd_sliceS H hr hx hlo hhi hd ho e, e⟩
  · obtain ⟨i, hi2, e⟩ := sizeK_inv hE.tys e
    exact ⟨_, fun H hr ho e => snd_sliceW H hr hx hlo hhi hd hi2 ho e, e⟩
  · rw [natK_eq] at e
    obtain ⟨i, hi2, e⟩ := sizeK_inv hE.tys e
    exact ⟨_, fun H hr ho e => snd_sliceA H hr hx hlo hhi hd hi2 ho e, e⟩
theorem aggK_cases {d : TypeDesc} {yes no : O C} {r : C} (e : aggK d yes no = some r) : (aggD d = true ∧ yes = some r) ∨ (aggD d = false ∧ no = some r) := by
  cases d <;> first | exact .inl ⟨rfl, e⟩ | exact .inr ⟨rfl, e⟩
theorem loadIns_snd (hE : EnvOk P E mla ml) {t : Nat} {x : Operand} (e : loadIns E t x k = some r) : ∃ i, SndOp P N0 mla ml (.load t x) i ∧ k i = some r := by
  by_cases hg : ∃ g, x = .global g
  · obtain ⟨g, rfl⟩ := hg
    obtain ⟨h1, e⟩ := boolK_inv e
    have h1 := Nat.eq_of_beq_eq_true h1
    obtain ⟨d, hd, e⟩ := undK_inv hE.tys e
    cases d <;> (try simp only [reduceCtorEq] at e)
    rename_i kd
    cases kd <;> (try simp only [reduceCtorEq] at e)
    exact ⟨_, fun H hr ho e => snd_gload H hr (by rw [hE.glob, h1]) hd hE.big ho e, e⟩
  · have e : (undK E t fun d => oK x fun x => aggK d (sizeK E t fun n => k (.loadN n x)) (k (.load1 x))) = some r := by
      cases x <;> first | exact e | exact absurd ⟨_, rfl⟩ hg
    obtain ⟨d, hd, e⟩ := undK_inv hE.tys e
    obtain ⟨x', hx, e⟩ := oK_inv e
    rcases aggK_cases e with ⟨ha, e⟩ | ⟨ha, e⟩
    · obtain ⟨i, hi, e⟩ := sizeK_inv hE.tys e
      exact ⟨_, fun H hr ho e => snd_loadN H hr hx hd ha hi ho e, e⟩
    · exact ⟨_, fun H hr ho e => snd_load1 H hr hx hd ha ho e, e⟩
theorem placesK_inv (hE : EnvOk P E mla ml) : ∀ (fs : List Field) {k : List (Nat × Nat) → O C} {r : C}, placesK E fs k = some r → ∃ pl, Places P fs pl ∧ k pl = some r
  | [], k, r, e => ⟨[], trivial, e⟩
  | f :: fs, k, r, e => by
    replace e : natK f.offset (fun o => sizeK E f.type fun s => placesK E fs fun ps => k ((o, s) :: ps)) = some r := e
    rw [natK_eq] at e
    obtain ⟨i, hi, e⟩ := sizeK_inv hE.tys e
    obtain ⟨pl, h1, e⟩ := placesK_inv hE fs e
    exact ⟨(f.offset, i.size) :: pl, ⟨rfl, ⟨i, hi, rfl⟩, h1⟩, e⟩
theorem partsK_inv {place : Nat → Option (Nat × Nat)} : ∀ (qs : List (Nat × Operand)) {k : List (Nat × Nat × Opd) → O C} {r : C}, partsK place qs k = some r → ∃ ps, PartsR place ps qs ∧ k ps = some r
  | [], k, r, e => ⟨[], trivial, e⟩
  | q :: qs, k, r, e => by
    replace e : optK (place q.1) none (fun p => natK p.1 fun o => natK p.2 fun s => oK q.2 fun u => partsK place qs fun ps => k ((o, s, u) :: ps)) = some r := e
    obtain ⟨p, h1, e⟩ := optK_inv e
    rw [natK_eq, natK_eq] at e
    obtain ⟨u, h2, e⟩ := oK_inv e
    obtain ⟨ps, h3, e⟩ := partsK_inv qs e
    exact ⟨(p.1, p.2, u) :: ps, ⟨h1, h2, h3⟩, e⟩
theorem buildIns_snd (hE : EnvOk P E mla ml) {t : Nat} {qs : Array (Nat × Operand)} (e : buildIns E t qs k = some r) : ∃ i, SndOp P N0 mla ml (.build t qs) i ∧ k i = some r := by
  obtain ⟨d, hd, e⟩ := undK_inv hE.tys e
  obtain ⟨i, z, zs, hi, hz, hzs, h1, e⟩ := zeroK_inv hE.tys e
  cases d <;> simp only [reduceCtorEq] at e
  · obtain ⟨ei, he, e⟩ := sizeK_inv hE.tys e
    obtain ⟨ps, h3, e⟩ := partsK_inv _ e
    exact ⟨_, fun H hr ho e => snd_buildA H hr hd hi hz (hzs ml) h1 he h3 ho e, e⟩
  · obtain ⟨pl, h2, e⟩ := placesK_inv hE _ e
    obtain ⟨ps, h3, e⟩ := partsK_inv _ e
    exact ⟨_, fun H hr ho e => snd_buildS H hr hd hi hz (hzs ml) h1 h2 h3 ho e, e⟩
theorem bsliceIns_snd (hE : EnvOk P E mla ml) {t n : Nat} {qs : Array (Nat × Operand)} (e : bsliceIns E t n qs k = some r) : ∃ i, SndOp P N0 mla ml (.buildSlice t n qs) i ∧ k i = some r := by
  obtain ⟨d, hd, e⟩ := undK_inv hE.tys e
  cases d <;> simp only [reduceCtorEq] at e
  rw [natK_eq, natK_eq] at e
  obtain ⟨i, z, zs, hi, hz, hzs, h1, e⟩ := zeroK_inv hE.tys e
  obtain ⟨ei, he, e⟩ := sizeK_inv hE.tys e
  rw [hi] at he; cases he
  obtain ⟨hc, e⟩ := boolK_inv e
  simp only [Bool.and_eq_true] at hc
  have c1 := Nat.eq_of_beq_eq_true hc.1
  have c2 : 0 < i.size := Nat.le_of_ble_eq_true hc.2.1
  have c3 : n * i.size ≤ 16777216 := Nat.le_of_ble_eq_true hc.2.2
  rw [llen_eq, Nat.zero_add, (hzs ml (fun _ => none)).length] at c1
  obtain ⟨ps, h3, e⟩ := partsK_inv _ e
  exact ⟨_, fun H hr ho e => snd_bslice H hr hd hi hz (hzs ml) h1 (by simpa using c1) (by omega) (by omega) h3 ho e, e⟩
theorem mksliceIns_snd (hE : EnvOk P E mla ml) {t : Nat} {l c : Operand} (e : mksliceIns E t l c k = some r) : ∃ i, SndOp P N0 mla ml (.makeSlice t l c) i ∧ k i = some r := by
  obtain ⟨d, hd, e⟩ := undK_inv hE.tys e
  cases d <;> simp only [reduceCtorEq] at e
  rw [natK_eq] at e
  obtain ⟨i, z, zs, hi, hz, hzs, h1, e⟩ := zeroK_inv hE.tys e
  obtain ⟨ei, he, e⟩ := infoK_inv hE.tys e
  rw [hi] at he; cases he
  obtain ⟨hc, e⟩ := boolK_inv e
  simp only [Bool.and_eq_true] at hc
  have c1 := Nat.eq_of_beq_eq_true hc.1
  have c2 : 0 < i.size := Nat.le_of_ble_eq_true hc.2.1
  have c3 : i.bytes ≤ 1048576 := Nat.le_of_ble_eq_true hc.2.2
  rw [llen_eq, Nat.zero_add, (hzs ml (fun _ => none)).length] at c1
  obtain ⟨l', hl, e⟩ := oK_inv e
  obtain ⟨c', hc', e⟩ := oK_inv e
  exact ⟨_, fun H hr ho e => snd_mkslice H hr hl hc' hd hi hz (hzs ml) h1 (by simpa using c1) (by omega) c3 ho e, e⟩
theorem mkchanIns_snd (hE : EnvOk P E mla ml) {t : Nat} {c : Operand} (e : mkchanIns E t c k = some r) : ∃ i, SndOp P N0 mla ml (.makeChan t c) i ∧ k i = some r := by
  obtain ⟨d, hd, e⟩ := undK_inv hE.tys e
  cases d <;> simp only [reduceCtorEq] at e
  obtain ⟨i, hi, e⟩ := infoK_inv hE.tys e
  obtain ⟨hb, e⟩ := boolK_inv e
  have hb := Nat.le_of_ble_eq_true hb
  obtain ⟨c', hc', e⟩ := oK_inv e
  refine ⟨_, fun H hr ho e => snd_mkchan H hr hc' hd hi (fun n hn => ?_) ho e, e⟩
  have : i.bytes * n ≤ 1048576 * 1048576 := Nat.mul_le_mul hb hn
  have : ((i.bytes * n : Nat) : Int) ≤ ((1048576 * 1048576 : Nat) : Int) := Int.ofNat_le.2 this
  rw [Int.natCast_mul] at this
  omega
theorem fieldIns_snd (hE : EnvOk P E mla ml) {t i : Nat} {x : Operand} : (fieldIns E true t x i k = some r → ∃ j, SndOp P N0 mla ml (.fieldAddr t x i) j ∧ k j = some r) ∧ (fieldIns E false t x i k = some r → ∃ j, SndOp P N0 mla ml (.field t x i) j ∧ k j = some r) := by
  constructor
  · intro e
    obtain ⟨d, hd, e⟩ := undK_inv hE.tys e
    cases d <;> simp only [reduceCtorEq] at e
    obtain ⟨f, hf, e⟩ := optK_inv e
    rw [natK_eq] at e
    obtain ⟨fi, hfi, e⟩ := sizeK_inv hE.tys e
    obtain ⟨h1, e⟩ := boolK_inv e
    have h1 : 0 < fi.size := Nat.le_of_ble_eq_true h1
    obtain ⟨x', hx, e⟩ := oK_inv e
    exact ⟨_, fun H hr ho e => snd_fadd H hr hx hd (by simpa [lnth] using hf) hfi (by omega) ho e, e⟩
  · intro e
    obtain ⟨d, hd, e⟩ := undK_inv hE.tys e
    cases d <;> simp only [reduceCtorEq] at e
    obtain ⟨f, hf, e⟩ := optK_inv e
    rw [natK_eq] at e
    obtain ⟨fi, hfi, e⟩ := sizeK_inv hE.tys e
    rw [boolK_false] at e
    obtain ⟨fd, hfd, e⟩ := undK_inv hE.tys e
    obtain ⟨x', hx, e⟩ := oK_inv e
    rcases aggK_cases e with ⟨ha, e⟩ | ⟨ha, e⟩
    · exact ⟨_, fun H hr ho e => snd_fld H hr hx hd (by simpa [lnth] using hf) hfd hfi ho (by rw [ha]; exact e), e⟩
    · exact ⟨_, fun H hr ho e => snd_fld H hr hx hd (by simpa [lnth] using hf) hfd hfi ho (by rw [ha]; exact e), e⟩
theorem ixIns_snd (hE : EnvOk P E mla ml) {t : Nat} {x i : Operand} : (ixIns E true t x i k = some r → ∃ j, SndOp P N0 mla ml (.indexAddr t x i) j ∧ k j = some r) ∧ (ixIns E false t x i k = some r → ∃ j, SndOp P N0 mla ml (.index t x i) j ∧ k j = some r) := by
  constructor
  · intro e
    obtain ⟨d, hd, e⟩ := undK_inv hE.tys e
    obtain ⟨x', hx, e⟩ := oK_inv e
    obtain ⟨i', hi, e⟩ := oK_inv e
    cases d <;> simp only [reduceCtorEq] at e
    · cases e
    · obtain ⟨ei, he, e⟩ := sizeK_inv hE.tys e
      exact ⟨_, fun H hr ho e => snd_ixaV H hr hx hi hd he ho e, e⟩
    · rw [natK_eq] at e
      obtain ⟨ei, he, e⟩ := sizeK_inv hE.tys e
      exact ⟨_, fun H hr ho e => snd_ixaA H hr hx hi hd he ho e, e⟩
  · intro e
    obtain ⟨d, hd, e⟩ := undK_inv hE.tys e
    obtain ⟨x', hx, e⟩ := oK_inv e
    obtain ⟨i', hi, e⟩ := oK_inv e
    cases d <;> simp only [reduceCtorEq] at e
    · exact ⟨_, fun H hr ho e => snd_idxS H hr hx hi hd ho e, e⟩
    · obtain ⟨ei, he, e⟩ := sizeK_inv hE.tys e
      cases e
    · rw [natK_eq] at e
      obtain ⟨ei, he, e⟩ := sizeK_inv hE.tys e
      rw [boolK_false] at e
      obtain ⟨ed, hed, e⟩ := undK_inv hE.tys e
      rcases aggK_cases e with ⟨ha, e⟩ | ⟨ha, e⟩
      · exact ⟨_, fun H hr ho e => snd_idxA H hr hx hi hd hed he ho (by rw [ha]; exact e), e⟩
      · exact ⟨_, fun H hr ho e => snd_idxA H hr hx hi hd hed he ho (by rw [ha]; exact e), e⟩
theorem mapIns_inv (hE : EnvOk P E mla ml) {t : Nat} {k : EqC → Nat → O C} {r : C} (e : mapIns E t k = some r) : ∃ c kt el, P.underlying t = some (.map kt el) ∧ EqT P c kt ∧ k c el = some r := by
  obtain ⟨d, hd, e⟩ := undK_inv hE.tys e
  cases d <;> simp only [reduceCtorEq] at e
  obtain ⟨c, hc, e⟩ := eqcK_inv hE e
  exact ⟨c, _, _, hd, hc, e⟩
theorem rangeIns_snd (hE : EnvOk P E mla ml) {t : Nat} {x : Operand} (e : rangeIns E t x k = some r) : ∃ i, SndOp P N0 mla ml (.range t x) i ∧ k i = some r := by
  obtain ⟨d, hd, e⟩ := undK_inv hE.tys e
  obtain ⟨x', hx, e⟩ := oK_inv e
  cases d <;> simp only [reduceCtorEq] at e
  · exact ⟨_, fun H hr ho e => snd_rangeS H hr hx hd ho e, e⟩
  · exact ⟨_, fun H hr ho e => snd_rangeM H hr hx hd ho e, e⟩
theorem assertIns_snd (hE : EnvOk P E mla ml) {t xt : Nat} {x : Operand} {ok : Bool} (e : assertIns E x t ok k = some r) : ∃ i, SndOp P N0 mla ml (.typeAssert x xt t ok) i ∧ k i = some r := by
  obtain ⟨d, hd, e⟩ := undK_inv hE.tys e
  by_cases hi : ∃ m, d = .interface m
  · obtain ⟨m, rfl⟩ := hi; cases e
  · have e : (zeroVK E t fun z => natK t fun t => oK x fun x => k (.tassert x t z ok)) = some r := by
      cases d <;> first | exact e | exact absurd ⟨_, rfl⟩ hi
    obtain ⟨i, z, zv, h1, h2, h3, e⟩ := zeroVK_inv hE.tys e
    rw [natK_eq] at e
    obtain ⟨x', hx, e⟩ := oK_inv e
    exact ⟨_, fun H hr ho e => snd_tassert H hr hx hd (fun m h => hi ⟨m, h⟩) h1 h2 (h3 ml) ho e, e⟩
end
end Go.Gb
end
