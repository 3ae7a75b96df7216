/- A part of the proof of the statement Rows.TopMissingCardSaid (at every argument the law returns true on every schedule, and its argument reads as before; the listed variables as laid). This text: a stepper over symbolic states of the translated program and its soundness, part 4 of 41. -/
import Derived.Test.YtgabhijnigpbdaaGreatDoorM03
import Derived.Test.YtgabhijnigpbdaaGreatDoorM01
section
/-! Memory written. -/
set_option linter.unusedSimpArgs false
set_option linter.unusedVariables false
namespace Go.Gb
open Go.Conc
section
variable {N0 : Nat} {mla : Addr} {ml : Gl} {vt : Vt} {σ : Sg} {h : Heap} {nx : P} {own : Own} {n0 : Nat} {w : World}
/-- An object of mine is laid anew, in both. -/
theorem AR.put (H : AR N0 mla ml vt σ h nx own n0 w) {id : P} {p : Pl} {ob ob' : Ob} {o' : Obj} (hp : σ id = some p) (ho : T.get id h = some ob) (hr : ObR ml σ p ob' o') {w' : World}
    (hw : w'.heap[p.bl]? = some o') (hoth : ∀ b, b ≠ p.bl → w'.heap[b]? = w.heap[b]?) (hsz : w'.heap.size = w.heap.size) : AR N0 mla ml vt σ (T.put (some ob') id h) nx own n0 w' := by
  have hget : ∀ id', id' ≠ id → T.get id' (T.put (some ob') id h) = T.get id' h := fun id' e => T.get_put_ne _ _ _ _ (Ne.symm e)
  have live : ∀ id' ob2, T.get id' (T.put (some ob') id h) = some ob2 → ∃ ob3, T.get id' h = some ob3 := by
    intro id' ob2 h2
    by_cases e : id' = id
    · subst e; exact ⟨_, ho⟩
    · rw [hget id' e] at h2; exact ⟨_, h2⟩
  refine ⟨fun id' p' hp' => by have := H.dom id' p' hp'; omega, fun id' p' ob2 hp' h2 => ?_, H.low, fun id' ob2 h2 => ?_, fun i j p1 p2 o1 o2 h1 h2 h3 h4 e => ?_, fun id' p' ob2 hp' h2 => ?_, H.vts, fun id' p' ob2 hp' h2 => ?_, fun i j p1 p2 o1 o2 h1 h2 h3 h4 => ?_, fun i p1 o1 h1 h2 => mine_mono (by omega) (H.fro i p1 o1 h1 h2), H.frl, ⟨H.glob.1, ?_⟩, ?_, H.apart⟩
  · obtain ⟨ob3, h3⟩ := live id' ob2 h2
    exact mine_mono (by omega) (H.has id' p' ob3 hp' h3)
  · obtain ⟨ob3, h3⟩ := live id' ob2 h2
    exact H.hlow id' ob3 h3
  · obtain ⟨_, h3'⟩ := live _ _ h3
    obtain ⟨_, h4'⟩ := live _ _ h4
    exact H.inj i j p1 p2 _ _ h1 h2 h3' h4' e
  · by_cases e : id' = id
    · subst e
      rw [T.get_put_same] at h2; cases h2
      rw [hp] at hp'; cases hp'
      exact ⟨o', hw, hr⟩
    · rw [hget id' e] at h2
      obtain ⟨o, h3, h4⟩ := H.obs id' p' ob2 hp' h2
      have : p'.bl ≠ p.bl := fun e' => e (H.inj id' id p' p _ _ hp' hp h2 ho e')
      exact ⟨o, by rw [hoth _ this]; exact h3, h4⟩
  · obtain ⟨o, h3, h4⟩ := H.fr id' p' ob2 hp' h2
    have : p'.bl ≠ p.bl := H.frx id' id p' p _ _ hp' hp h2 ho
    exact ⟨o, by rw [hoth _ this]; exact h3, h4⟩
  · obtain ⟨_, h4'⟩ := live _ _ h4
    exact H.frx i j p1 p2 _ _ h1 h2 h3 h4'
  · have : mla.block ≠ p.bl := by
      intro e
      have h1 := (H.has id p _ hp ho)
      obtain ⟨cs, t, f, hb, _, _⟩ := block_of_cell H.glob.2
      have := H.glob.1
      have := H.n0le.1
      rcases h1 with h1 | h1
      · have := H.apart _ h1; omega
      · omega
    have h1 := H.glob.2
    unfold World.cell? at h1 ⊢
    rw [hoth _ this]; exact h1
  · rw [hsz]; exact H.n0le
theorem setCell_get {w : World} {b off : Nat} {v : Value} {c : Array Value} {t : TypeId} {f : Nat × Nat} (h : w.heap[b]? = some (.cells c t f)) : (w.setCell ⟨b, off, none⟩ v).heap[b]? = some (.cells (c.setIfInBounds off v) t f) := by
  simp [World.setCell, Array.getElem?_modify, h]
theorem setCell_ne {w : World} {b b' off : Nat} {v : Value} (h : b' ≠ b) : (w.setCell ⟨b, off, none⟩ v).heap[b']? = w.heap[b']? := by
  simp [World.setCell, Array.getElem?_modify, Ne.symm h]
theorem setCell_size {w : World} {a : Addr} {v : Value} : (w.setCell a v).heap.size = w.heap.size := by simp [World.setCell]
/-- One cell is written. -/
theorem AR.set (H : AR N0 mla ml vt σ h nx own n0 w) {id : P} {p : Pl} {cs : List V} {el room fz : Nat} {opn : Bool} (hp : σ id = some p) (ho : T.get id h = some (.row cs el room opn fz)) {i : Nat} (hi : i < cs.length) (hf : fz ≤ i) {v : V} {x : Value} (hv : VR ml σ v x) (h1c : OneCell x) :
    (∃ u, w.cell? ⟨p.bl, p.sh + i, none⟩ = some u) ∧ w.frozen? ⟨p.bl, p.sh + i, none⟩ = false ∧ mine own n0 w p.bl ∧ AR N0 mla ml vt σ (T.put (some (.row (cs.set i v) el room opn fz)) id h) nx own n0 (w.setCell ⟨p.bl, p.sh + i, none⟩ x) := by
  obtain ⟨u, hu, _⟩ := H.cell hp ho (List.getElem?_eq_getElem hi)
  obtain ⟨o, hob, hr⟩ := H.obs id p _ hp ho
  cases o <;> simp only [ObR] at hr
  rename_i c el' fr
  obtain ⟨lo, hi'⟩ := fr
  simp only [ObR] at hr
  obtain ⟨h1, h2, h3, h4, h5, h6⟩ := hr
  have hcs : p.sh + i < c.size := by
    obtain ⟨x', hx', _⟩ := h2 i _ (List.getElem?_eq_getElem hi)
    exact (Array.getElem?_eq_some_iff.1 hx').1
  refine ⟨⟨u, hu⟩, ?_, (H.has id p _ hp ho), H.put hp ho (o' := .cells (c.setIfInBounds (p.sh + i) x) el' (lo, hi')) ?_ (setCell_get hob) (fun b hb => setCell_ne hb) setCell_size⟩
  · simp only [World.frozen?, hob]
    simp only [Bool.and_eq_false_iff, decide_eq_false_iff_not]
    rcases h5 with h5 | h5 <;> omega
  · simp only [ObR]
    refine ⟨h1, fun j u' hj => ?_, fun j hj => by simpa using h3 j hj, h4, h5, fun z => by simpa using h6 z⟩
    by_cases e : j = i
    · subst e
      rw [List.getElem?_set_self hi] at hj
      cases hj
      exact ⟨x, by simp [hcs], hv, h1c⟩
    · rw [List.getElem?_set_ne (Ne.symm e)] at hj
      obtain ⟨y, hy, hy'⟩ := h2 j u' hj
      exact ⟨y, by rw [Array.getElem?_setIfInBounds_ne (by omega)]; exact hy, hy'⟩
/-- The cell behind the last is written. -/
theorem AR.push (H : AR N0 mla ml vt σ h nx own n0 w) {id : P} {p : Pl} {cs : List V} {el room fz : Nat} {opn : Bool} (hp : σ id = some p) (ho : T.get id h = some (.row cs el (room + 1) opn fz)) (hf : fz ≤ cs.length) {v : V} {x : Value} (hv : VR ml σ v x) (h1c : OneCell x) :
    (∃ u, w.cell? ⟨p.bl, p.sh + cs.length, none⟩ = some u) ∧ w.frozen? ⟨p.bl, p.sh + cs.length, none⟩ = false ∧ mine own n0 w p.bl ∧ AR N0 mla ml vt σ (T.put (some (.row (cs ++ [v]) el room opn fz)) id h) nx own n0 (w.setCell ⟨p.bl, p.sh + cs.length, none⟩ x) := by
  obtain ⟨o, hob, hr⟩ := H.obs id p _ hp ho
  cases o <;> simp only [ObR] at hr
  rename_i c el' fr
  obtain ⟨lo, hi'⟩ := fr
  simp only [ObR] at hr
  obtain ⟨h1, h2, h3, h4, h5, h6⟩ := hr
  have hcs : p.sh + cs.length < c.size := by simpa using h3 0 (by omega)
  refine ⟨⟨c[p.sh + cs.length], by simp [World.cell?, hob, hcs]⟩, ?_, (H.has id p _ hp ho), H.put hp ho (o' := .cells (c.setIfInBounds (p.sh + cs.length) x) el' (lo, hi')) ?_ (setCell_get hob) (fun b hb => setCell_ne hb) setCell_size⟩
  · simp only [World.frozen?, hob]
    simp only [Bool.and_eq_false_iff, decide_eq_false_iff_not]
    rcases h5 with h5 | h5 <;> omega
  · simp only [ObR]
    refine ⟨h1, fun j u' hj => ?_, fun j hj => ?_, fun z => ?_, h5, fun z => by have := h6 z; simp; omega⟩
    · by_cases e : j = cs.length
      · subst e
        simp at hj
        subst hj
        exact ⟨x, by simp [hcs], hv, h1c⟩
      · have hjl : j < cs.length := by
          have := (List.getElem?_eq_some_iff.1 hj).1
          simp at this; omega
        rw [List.getElem?_append_left hjl] at hj
        obtain ⟨y, hy, hy'⟩ := h2 j u' hj
        exact ⟨y, by rw [Array.getElem?_setIfInBounds_ne (by omega)]; exact hy, hy'⟩
    · have := h3 (j + 1) (by omega)
      simp; omega
    · have := (h4 z).2.1; omega
end
end Go.Gb
end
section
/-! The evaluator: operations that yield a value. -/
namespace Go.Gb
variable {C : Type}
abbrev H (C : Type) := Regs → Heap → P → K C → O C

noncomputable def strK (v : V) : (Nat → Nat → O C) → O C := V.rec (motive_1 := fun _ => (Nat → Nat → O C) → O C) (motive_2 := fun _ => Unit) (fun _ _ => fun _ => none) (fun _ => fun _ => none) (fun n N => fun k => k n N) (fun _ _ => fun _ => none) (fun _ => none) (fun _ _ _ _ => fun _ => none) (fun _ => none) (fun _ => fun _ => none) (fun _ => none) (fun _ => fun _ => none) (fun _ => none) (fun _ _ _ _ _ => fun _ => none) (fun _ => fun _ => none) (fun _ => none) (fun _ _ _ => fun _ => none) (fun _ => none) (fun _ _ => fun _ => none) (fun _ _ => fun _ => none) (fun _ => fun _ => none) (fun _ _ _ => fun _ => none) () (fun _ _ _ _ => ()) v
noncomputable def ptrK (v : V) : (P → Nat → O C) → O C := V.rec (motive_1 := fun _ => (P → Nat → O C) → O C) (motive_2 := fun _ => Unit) (fun _ _ => fun _ => none) (fun _ => fun _ => none) (fun _ _ => fun _ => none) (fun id off => fun k => k id off) (fun _ => none) (fun _ _ _ _ => fun _ => none) (fun _ => none) (fun _ => fun _ => none) (fun _ => none) (fun _ => fun _ => none) (fun _ => none) (fun _ _ _ _ _ => fun _ => none) (fun _ => fun _ => none) (fun _ => none) (fun _ _ _ => fun _ => none) (fun _ => none) (fun _ _ => fun _ => none) (fun _ _ => fun _ => none) (fun _ => fun _ => none) (fun _ _ _ => fun _ => none) () (fun _ _ _ _ => ()) v
noncomputable def numK (v : V) : (IntKind → Int → O C) → O C := V.rec (motive_1 := fun _ => (IntKind → Int → O C) → O C) (motive_2 := fun _ => Unit) (fun kd n => fun k => k kd n) (fun _ => fun _ => none) (fun _ _ => fun _ => none) (fun _ _ => fun _ => none) (fun _ => none) (fun _ _ _ _ => fun _ => none) (fun _ => none) (fun _ => fun _ => none) (fun _ => none) (fun _ => fun _ => none) (fun _ => none) (fun _ _ _ _ _ => fun _ => none) (fun _ => fun _ => none) (fun _ => none) (fun _ _ _ => fun _ => none) (fun _ => none) (fun _ _ => fun _ => none) (fun _ _ => fun _ => none) (fun _ => fun _ => none) (fun _ _ _ => fun _ => none) () (fun _ _ _ _ => ()) v
noncomputable def nat0K (v : V) : (Nat → O C) → O C := V.rec (motive_1 := fun _ => (Nat → O C) → O C) (motive_2 := fun _ => Unit) (fun _ n => fun k => Int.rec (motive := fun _ => O C) k (fun _ => none) n) (fun _ => fun _ => none) (fun _ _ => fun _ => none) (fun _ _ => fun _ => none) (fun _ => none) (fun _ _ _ _ => fun _ => none) (fun _ => none) (fun _ => fun _ => none) (fun _ => none) (fun _ => fun _ => none) (fun _ => none) (fun _ _ _ _ _ => fun _ => none) (fun _ => fun _ => none) (fun _ => none) (fun _ _ _ => fun _ => none) (fun _ => none) (fun _ _ => fun _ => none) (fun _ _ => fun _ => none) (fun _ => fun _ => none) (fun _ _ _ => fun _ => none) () (fun _ _ _ _ => ()) v
noncomputable def tfK (v : V) : O C → O C → O C := V.rec (motive_1 := fun _ => O C → O C → O C) (motive_2 := fun _ => Unit) (fun _ _ => fun _ _ => none) (fun b => fun t e => boolK b t e) (fun _ _ => fun _ _ => none) (fun _ _ => fun _ _ => none) (fun _ _ => none) (fun _ _ _ _ => fun _ _ => none) (fun _ _ => none) (fun _ => fun _ _ => none) (fun _ _ => none) (fun _ => fun _ _ => none) (fun _ _ => none) (fun _ _ _ _ _ => fun _ _ => none) (fun _ => fun _ _ => none) (fun _ _ => none) (fun _ _ _ => fun _ _ => none) (fun _ _ => none) (fun _ _ => fun _ _ => none) (fun _ _ => fun _ _ => none) (fun _ => fun _ _ => none) (fun _ _ _ => fun _ _ => none) () (fun _ _ _ _ => ()) v

def kidx : IntKind → Nat
  | .i8 => 0 | .i16 => 1 | .i32 => 2 | .i64 => 3 | .u8 => 4 | .u16 => 5 | .u32 => 6 | .u64 => 7
def kdeq (a b : IntKind) : Bool := Nat.beq (kidx a) (kidx b)
/-- '==' of two values that are one cell each. -/
noncomputable def eq1K (c : EqC) (x y : V) (k : Bool → O C) : O C :=
  match c with
  | .int => (match x, y with
    | .int kd a, .int kd' b => boolK (kdeq kd kd') (k (ieq a b)) none
    | _, _ => none)
  | .str => (match x, y with
    | .str n N, .str m M => k (seq n N m M)
    | _, _ => none)
  | .bool => (match x, y with
    | .bool a, .bool b => boolK a (k b) (k (boolK b false true))
    | _, _ => none)
  | .ptr => (match x, y with
    | .nilp, .nilp => k true | .nilp, .ptr _ _ => k false | .ptr _ _, .nilp => k false
    | .ptr a i, .ptr b j => if a = b then k (Nat.beq i j) else none
    | _, _ => none)
  | .slc => (match x, y with | .nils, .nils => k true | .nils, .sl _ _ _ _ => k false | .sl _ _ _ _, .nils => k false | _, _ => none)
  | .ifc => (match x, y with | .nili, .nili => k true | .nili, .ifc _ _ => k false | .ifc _ _, .nili => k false | _, _ => none)
  | .fnc => (match x, y with | .nilf, .nilf => k true | .nilf, .fn _ _ _ => k false | .fn _ _ _, .nilf => k false | _, _ => none)
  | .flat _ => none
noncomputable def eqLK (l : List EqC) : List V → List V → (Bool → O C) → O C :=
  List.rec (motive := fun _ => List V → List V → (Bool → O C) → O C)
    (fun xs ys k => match xs, ys with | [], [] => k true | _, _ => none)
    (fun c _ ih xs ys k => match xs, ys with
      | x :: xs, y :: ys => eq1K c x y fun b => boolK b (ih xs ys k) (k false)
      | _, _ => none) l
noncomputable def eqK (c : EqC) (x y : V) (k : Bool → O C) : O C :=
  match c with
  | .flat l => (match x, y with | .agg xs, .agg ys => eqLK l xs ys k | _, _ => none)
  | c => eq1K c x y k

/-- arithmetic on whole numbers that are not negative, and on others -/
noncomputable def arith (op : BinOp) (kd : IntKind) (a b : Int) (k : V → O C) : O C :=
  match op with
  | .add => wrapI kd (a + b) k
  | .sub => wrapI kd (a - b) k
  | .mul => wrapI kd (a * b) k
  | .quo => boolK (ieq b 0) none (wrapI kd (a.tdiv b) k)
  | .rem => boolK (ieq b 0) none (vInt kd (a.tmod b) k)
  | .lss => vBool (!ile b a) k
  | .leq => vBool (ile a b) k
  | .gtr => vBool (!ile a b) k
  | .geq => vBool (ile b a) k
  | .shl => match b with | .ofNat n => wrapI kd (a * 2 ^ (Nat.min n kd.bits)) k | _ => none
  | .shr => match a, b with | .ofNat m, .ofNat n => vNat kd (Nat.div m (Nat.pow 2 (Nat.min n kd.bits))) k | _, _ => none
  | .or => match a, b with | .ofNat m, .ofNat n => boolK (Nat.ble m (lim kd) && Nat.ble n (lim kd)) (wrapN kd (Nat.lor m n) k) none | _, _ => none
  | .and => match a, b with | .ofNat m, .ofNat n => boolK (Nat.ble m (lim kd) && Nat.ble n (lim kd)) (wrapN kd (Nat.land m n) k) none | _, _ => none
  | _ => none
noncomputable def sarith (op : BinOp) (n N m M : Nat) (k : V → O C) : O C :=
  match op with
  | .add => boolK (Nat.ble (Nat.add n m) 9223372036854775807) (vStr (Nat.add n m) (Nat.add (low n N) (Nat.mul (Nat.pow 256 n) M)) k) none
  | .lss => vBool (sless n N m M) k
  | .gtr => vBool (sless m M n N) k
  | .leq => vBool (!sless m M n N) k
  | .geq => vBool (!sless n N m M) k
  | _ => none
noncomputable def bin2K (op : BinOp) (x y : V) (k : V → O C) : O C :=
  match x, y with
  | .int kd a, .int kd' b => (match op with
    | .shl => arith .shl kd a b k | .shr => arith .shr kd a b k
    | op => boolK (kdeq kd kd') (arith op kd a b k) none)
  | .str n N, .str m M => sarith op n N m M k
  | .int .i64 (.ofNat n), .unk i => (match op with | .leq => boolK (Nat.beq (Nat.mod i 3) 0) (boolK (Nat.ble (Nat.div i 3) n) (k (.bool false)) none) (boolK (Nat.beq (Nat.mod i 3) 1) (boolK (Nat.ble n (Nat.div i 3)) (k (.bool true)) none) none) | _ => none)
  | .par kd m r, .int kd' (.ofNat b) => (match op with | .rem => boolK (kdeq kd kd' && (Nat.beq m b && Nat.blt 0 b)) (k (.int kd (.ofNat r))) none | _ => none)
  | _, _ => none
noncomputable def binK (op : BinOp) (x y : V) (k : V → O C) : O C :=
  match op with
  | .eql => none
  | .neq => none
  | op => bin2K op x y k

noncomputable def fillK (z : List V) (ps : List (Nat × Nat × Opd)) (regs : Regs) (k : List V → O C) : O C :=
  List.rec (motive := fun _ => List V → O C) k
    (fun p _ ih z => match p with | (off, s, o) => opdK o regs fun v => match v with | .tup _ => none | v => boolK (Nat.beq (llen (cellsV v) 0) s) (lwriteK off z (cellsV v) ih) none) ps z
noncomputable def boundK (o : Option Opd) (dflt hi : Nat) (regs : Regs) (k : Nat → O C) : O C :=
  match o with
  | none => k dflt
  | some x => opdK x regs fun v => nat0K v fun n => boolK (Nat.ble n hi) (k n) none
noncomputable def zidxK (i : Opd) (len : Nat) (regs : Regs) (k : Nat → O C) : O C :=
  opdK i regs fun v => nat0K v fun n => boolK (Nat.blt n len) (k n) none
def keyOf (e : V × V × Nat) : V := e.1
/-- the entry of a key: its place -/
noncomputable def findK (c : EqC) (kv : V) (es : List (V × V × Nat)) (i : Nat) (no : O C) (yes : Nat → V × V × Nat → O C) : O C :=
  List.rec (motive := fun _ => Nat → O C) (fun _ => no) (fun e _ ih i => eqK c kv (keyOf e) fun b => boolK b (yes i e) (natK (Nat.add i 1) ih)) es i
noncomputable def bytesL (n N : Nat) (k : List V → O C) : O C :=
  Nat.rec (motive := fun _ => Nat → (List V → O C) → O C) (fun _ k => k [])
    (fun _ ih N k => natK (Nat.mod N 256) fun b => natK (Nat.div N 256) fun N => ih N fun r => k (.int .u8 (.ofNat b) :: r)) n N k
/-- the number of which cells of bytes are the digits -/
noncomputable def unbytes (cs : List V) (k : Nat → O C) : O C :=
  List.rec (motive := fun _ => (Nat → O C) → O C) (fun k => k 0)
    (fun c _ ih k => match c with
      | .int .u8 (.ofNat b) => ih fun N => natK (Nat.add (Nat.mod b 256) (Nat.mul 256 N)) k
      | _ => none) cs k
noncomputable def elemsK (es : Nat) (v : V) (h : Heap) (k : Nat → List V → O C) : O C :=
  match v with
  | .nils => k 0 []
  | .sl id off len _ => readK id off (Nat.mul len es) h fun cs => k len cs
  | .str n N => boolK (Nat.beq es 1) (bytesL n N fun cs => k n cs) none
  | _ => none
noncomputable def growK (elem fz : Nat) (old new : List V) (len : Nat) (h : Heap) (nx : P) (k : K C) : O C :=
  lappK old new fun cs => natK len fun len => newOb (.row cs elem 0 true fz) h nx fun id h nx => k (.sl id 0 len len) h nx
noncomputable def appK (elem es : Nat) (s : V) (n : Nat) (new : List V) (h : Heap) (nx : P) (k : K C) : O C :=
  match s with
  | .nils => Nat.rec (motive := fun _ => O C) (k .nils h nx) (fun _ _ => boolK (Nat.ble n 1048576) (growK elem 0 [] new n h nx k) none) n
  | .sl id off len cap =>
    boolK (Nat.ble (Nat.add len n) cap)
      (writeK id (Nat.add off (Nat.mul len es)) new h fun h => natK (Nat.add len n) fun l => k (.sl id off l cap) h nx)
      (boolK (Nat.ble (Nat.add len n) 1048576) (readK id off (Nat.mul len es) h fun old => getOb id h fun o => match o with
        | .row cs el room opn fz =>
          boolK opn (boolK (Nat.beq len cap && (Nat.beq (Nat.add off (Nat.mul cap es)) (llen cs 0) && (Nat.beq el elem && (Nat.beq room 0 && Nat.ble fz (Nat.add off (Nat.mul len es))))))
              (T.putK none id h fun h => natK (Nat.sub fz off) fun fz => growK elem fz old new (Nat.add len n) h nx k) none)
            (growK elem 0 old new (Nat.add len n) h nx k)
        | _ => none) none)
  | _ => none

noncomputable def hMv (x : Opd) : H C := fun regs h nx k => opdK x regs fun v => k v h nx
noncomputable def hPick (c a b : Opd) : H C := fun regs h nx k => opdK c regs fun c => tfK c (opdK a regs fun v => k v h nx) (opdK b regs fun v => k v h nx)
noncomputable def hAlloc (elem : Nat) (z : List V) : H C := fun _ h nx k => newOb (.row z elem 0 false 0) h nx fun id h nx => k (.ptr id 0) h nx
noncomputable def hBox (elem n : Nat) (x : Opd) : H C := fun regs h nx k => opdK x regs fun v => match v with | .tup _ => none | v => boolK (Nat.beq (llen (cellsV v) 0) n) (newOb (.row (cellsV v) elem 0 false 0) h nx fun id h nx => k (.ptr id 0) h nx) none
noncomputable def hBuild (z : List V) (ps : List (Nat × Nat × Opd)) : H C := fun regs h nx k => fillK z ps regs fun cs => k (.agg cs) h nx
noncomputable def hBslice (elem n : Nat) (z : List V) (ps : List (Nat × Nat × Opd)) : H C := fun regs h nx k =>
  lrepK n z fun z => fillK z ps regs fun cs => newOb (.row cs elem 0 false 0) h nx fun id h nx => k (.sl id 0 n n) h nx
noncomputable def hLoad1 (a : Opd) : H C := fun regs h nx k => opdK a regs fun v => ptrK v fun id off => readK id off 1 h fun cs => lhead cs none fun v => k v h nx
noncomputable def hLoadN (n : Nat) (a : Opd) : H C := fun regs h nx k => opdK a regs fun v => ptrK v fun id off => readK id off n h fun cs => k (.agg cs) h nx
noncomputable def hNil (x : Opd) : H C := fun regs h nx k => opdK x regs fun v => match v with | .nilp => none | .nili => none | .nilf => none | .fn (.method _) _ _ => none | v => k v h nx
noncomputable def hBin (op : BinOp) (x y : Opd) : H C := fun regs h nx k => opdK x regs fun x => opdK y regs fun y => binK op x y fun v => k v h nx
noncomputable def hEqv (c : EqC) (neg : Bool) (x y : Opd) : H C := fun regs h nx k => opdK x regs fun x => opdK y regs fun y => eqK c x y fun b => boolK neg (vBool (boolK b false true) fun v => k v h nx) (vBool b fun v => k v h nx)
noncomputable def hUn (op : UnOp) (x : Opd) : H C := fun regs h nx k => opdK x regs fun x => match op, x with
  | .not, .bool b => boolK b (k (.bool false) h nx) (k (.bool true) h nx)
  | .neg, .int kd n => wrapI kd (0 - n) fun v => k v h nx
  | _, _ => none
noncomputable def hConvInt (kd : IntKind) (x : Opd) : H C := fun regs h nx k => opdK x regs fun x => (match x with
  | .par _ m r => boolK (kdeq kd .i64) (k (.par .i64 m r) h nx) none
  | x => numK x fun _ n => wrapI kd n fun v => k v h nx)
noncomputable def hS2B (elem : Nat) (x : Opd) : H C := fun regs h nx k => opdK x regs fun x => strK x fun n N => boolK (Nat.ble n 1048576) (bytesL n N fun cs => newOb (.row cs elem 0 true 18446744073709551616) h nx fun id h nx => k (.sl id 0 n n) h nx) none
noncomputable def hB2S (x : Opd) : H C := fun regs h nx k => opdK x regs fun x => elemsK 1 x h fun n cs => unbytes cs fun N => vStr n N fun v => k v h nx
noncomputable def hI2S (x : Opd) : H C := fun regs h nx k => opdK x regs fun x => nat0K x fun n => boolK (Nat.blt n 128) (k (.str 1 n) h nx) none
noncomputable def hIfc (t : Nat) (x : Opd) : H C := fun regs h nx k => opdK x regs fun v => k (.ifc t v) h nx
noncomputable def hFn (f : Fn) (a b : List Opd) : H C := fun regs h nx k => opdsK a regs fun a => opdsK b regs fun b => k (.fn f a b) h nx
noncomputable def hMkmap : H C := fun _ h nx k => newOb (.map [] 0) h nx fun id h nx => k (.map id) h nx
noncomputable def hMkchan (c : Opd) : H C := fun regs h nx k => opdK c regs fun v => nat0K v fun n => boolK (Nat.ble n 1048576) (newOb (.chan n [] false 0 0) h nx fun id h nx => k (.chan id) h nx) none
noncomputable def hMkslice (elem : Nat) (z : List V) (l c : Opd) : H C := fun regs h nx k => opdK l regs fun v => nat0K v fun l => opdK c regs fun v => nat0K v fun c =>
  boolK (Nat.ble c 1048576) (boolK (Nat.ble l c) (lrepK c z fun cs => newOb (.row cs elem 0 false 0) h nx fun id h nx => k (.sl id 0 l c) h nx) none) none
noncomputable def hSliceS (x : Opd) (lo hi : Option Opd) : H C := fun regs h nx k => opdK x regs fun v => strK v fun n N =>
  boundK hi n n regs fun hi => boundK lo 0 hi regs fun lo => vStr (Nat.sub hi lo) (low (Nat.sub hi lo) (cut N lo)) fun v => k v h nx
noncomputable def hSliceV (es : Nat) (x : Opd) (lo hi : Option Opd) : H C := fun regs h nx k => opdK x regs fun v => match v with
  | .nils => boundK hi 0 0 regs fun hi => boundK lo 0 hi regs fun _ => k .nils h nx
  | .sl id off len cap => boundK hi len cap regs fun hi => boundK lo 0 hi regs fun lo => boolK (Nat.ble lo cap)
      (natK (Nat.sub hi lo) fun l => natK (Nat.sub cap lo) fun c => boolK (Nat.beq cap lo)
        (getOb id h fun o => match o with | .row _ _ _ false _ => k (.sl id off l c) h nx | _ => none)
        (natK (Nat.add off (Nat.mul lo es)) fun off => k (.sl id off l c) h nx)) none
  | _ => none
/-- The same; what begins at the end of an open row lies somewhere, and holds nothing. -/
noncomputable def hSliceW (es : Nat) (x : Opd) (lo hi : Option Opd) : H C := fun regs h nx k => opdK x regs fun v => match v with
  | .nils => boundK hi 0 0 regs fun hi => boundK lo 0 hi regs fun _ => k .nils h nx
  | .sl id off len cap => boundK hi len cap regs fun hi => boundK lo 0 hi regs fun lo => boolK (Nat.ble lo cap)
      (natK (Nat.sub hi lo) fun l => natK (Nat.sub cap lo) fun c => boolK (Nat.beq cap lo)
        (getOb id h fun o => match o with | .row _ _ _ false _ => k (.sl id off l c) h nx | .row _ _ _ true _ => boolK (Nat.beq l 0) (succK nx fun nx' => k (.sl nx 0 0 0) h nx') none | _ => none)
        (natK (Nat.add off (Nat.mul lo es)) fun off => k (.sl id off l c) h nx)) none
  | _ => none
noncomputable def hSliceA (n es : Nat) (x : Opd) (lo hi : Option Opd) : H C := fun regs h nx k => opdK x regs fun v => ptrK v fun id off => getOb id h fun o => match o with
  | .row _ _ _ false _ => boundK hi n n regs fun hi => boundK lo 0 hi regs fun lo =>
      natK (Nat.sub hi lo) fun l => natK (Nat.sub n lo) fun c => boolK (Nat.beq n lo) (k (.sl id off l c) h nx) (natK (Nat.add off (Nat.mul lo es)) fun off => k (.sl id off l c) h nx)
  | _ => none
noncomputable def hFadd (o : Nat) (x : Opd) : H C := fun regs h nx k => opdK x regs fun v => ptrK v fun id off => natK (Nat.add off o) fun off => k (.ptr id off) h nx
noncomputable def partK (cs : List V) (o n : Nat) (ag : Bool) (k : V → O C) : O C :=
  boolK ag (ltakeK n (ldrop o cs) fun r => boolK (Nat.beq (llen r 0) n) (k (.agg r)) none) (lhead (ldrop o cs) none k)
noncomputable def hFld (o n : Nat) (ag : Bool) (x : Opd) : H C := fun regs h nx k => opdK x regs fun v => match v with | .agg cs => partK cs o n ag fun v => k v h nx | _ => none
noncomputable def hIxaV (es : Nat) (x i : Opd) : H C := fun regs h nx k => opdK x regs fun v => match v with
  | .sl id off len _ => zidxK i len regs fun n => natK (Nat.add off (Nat.mul n es)) fun off => k (.ptr id off) h nx
  | _ => none
noncomputable def hIxaA (len es : Nat) (x i : Opd) : H C := fun regs h nx k => opdK x regs fun v => ptrK v fun id off => zidxK i len regs fun n => natK (Nat.add off (Nat.mul n es)) fun off => k (.ptr id off) h nx
noncomputable def hIdxS (x i : Opd) : H C := fun regs h nx k => opdK x regs fun v => strK v fun n N => zidxK i n regs fun i => natK (byteAt N i) fun b => k (.int .u8 (.ofNat b)) h nx
noncomputable def hIdxA (len es : Nat) (ag : Bool) (x i : Opd) : H C := fun regs h nx k => opdK x regs fun v => match v with | .agg cs => zidxK i len regs fun n => partK cs (Nat.mul n es) es ag fun v => k v h nx | _ => none
noncomputable def mapK (v : V) (h : Heap) (k : P → List (V × V × Nat) → Nat → O C) : O C := match v with
  | .map id => getOb id h fun o => match o with | .map es clk => k id es clk | _ => none
  | _ => none
noncomputable def okV (ok : Bool) (v : V) (b : Bool) : V := match ok with | true => .tup [v, .bool b] | false => v
/-- A key of the right make. -/
noncomputable def keyK (c : EqC) (v : V) (k : O C) : O C :=
  match c with
  | .int => (match v with | .int _ _ => k | _ => none)
  | .str => (match v with | .str _ _ => k | _ => none)
  | .bool => (match v with | .bool _ => k | _ => none)
  | .flat l => (match v with | .agg cs => boolK (Nat.beq (llen cs 0) (llen l 0)) k none | _ => none)
  | _ => none
noncomputable def hLookup (c : EqC) (z : V) (m kx : Opd) (ok : Bool) : H C := fun regs h nx k => opdK m regs fun m => opdK kx regs fun kv => keyK c kv (match m with
  | .nilm => k (okV ok z false) h nx
  | m => mapK m h fun _ es _ => findK c kv es 0 (k (okV ok z false) h nx) fun _ e => k (okV ok e.2.1 true) h nx)
noncomputable def setEntry (i : Nat) (es : List (V × V × Nat)) (e : V × V × Nat) (k : List (V × V × Nat) → O C) : O C := lwriteK i es [e] k
noncomputable def hMapupd (c : EqC) (m kx x : Opd) : H C := fun regs h nx k => opdK m regs fun m => opdK kx regs fun kv => opdK x regs fun xv => keyK c kv (mapK m h fun id es clk =>
  findK c kv es 0 (lappK es [(kv, xv, clk)] fun es => natK (Nat.add clk 1) fun clk => T.putK (some (.map es clk)) id h fun h => k (.tup []) h nx)
    fun i e => setEntry i es (kv, xv, e.2.2) fun es => T.putK (some (.map es clk)) id h fun h => k (.tup []) h nx)
noncomputable def hMentry (c : EqC) (z : V) (m kx : Opd) : H C := fun regs h nx k => opdK m regs fun m => opdK kx regs fun kv => keyK c kv (mapK m h fun id es clk =>
  findK c kv es 0 (lappK es [(kv, z, clk)] fun es => natK (Nat.add clk 1) fun clk' => T.putK (some (.map es clk')) id h fun h => k (.tup [z, .int .i64 (.ofNat clk)]) h nx)
    fun i e => setEntry i es (kv, e.2.1, e.2.2) fun es => T.putK (some (.map es clk)) id h fun h => k (.tup [e.2.1, .int .i64 (.ofNat e.2.2)]) h nx)
noncomputable def stampK (b : Nat) (es : List (V × V × Nat)) (i : Nat) (k : Nat → V × V × Nat → O C) : O C :=
  List.rec (motive := fun _ => Nat → O C) (fun _ => none) (fun e _ ih i => boolK (Nat.beq e.2.2 b) (k i e) (natK (Nat.add i 1) ih)) es i
noncomputable def hEstore (m s x : Opd) : H C := fun regs h nx k => opdK m regs fun m => opdK s regs fun s => nat0K s fun b => opdK x regs fun xv => mapK m h fun id es clk =>
  stampK b es 0 fun i e => setEntry i es (e.1, xv, e.2.2) fun es => T.putK (some (.map es clk)) id h fun h => k (.tup []) h nx
noncomputable def hRangeS (x : Opd) : H C := fun regs h nx k => opdK x regs fun v => strK v fun n N => newOb (.sit n N 0) h nx fun id h nx => k (.ptr id 0) h nx
noncomputable def hRangeM (x : Opd) : H C := fun regs h nx k => opdK x regs fun v => match v with
  | .nilm => newOb (.mit none 0 [] 0) h nx fun id h nx => k (.ptr id 0) h nx
  | v => mapK v h fun m _ clk => newOb (.mit (some m) clk [] clk) h nx fun id h nx => k (.ptr id 0) h nx
noncomputable def itK (v : V) (h : Heap) (k : P → Ob → O C) : O C := match v with | .ptr id 0 => getOb id h fun o => k id o | _ => none
noncomputable def hNextS (it : Opd) : H C := fun regs h nx k => opdK it regs fun v => itK v h fun id o => match o with
  | .sit n N pos => boolK (Nat.blt pos n) (natK (byteAt N pos) fun b => boolK (Nat.blt b 128)
      (natK (Nat.add pos 1) fun pos' => T.putK (some (.sit n N pos')) id h fun h => k (.tup [.bool true, .int .i64 (.ofNat pos), .int .i32 (.ofNat b)]) h nx) none) (k (.tup [.bool false]) h nx)
  | _ => none
noncomputable def lmem (a : Nat) (l : List Nat) : Bool := List.rec (motive := fun _ => Bool) false (fun x _ ih => boolK (Nat.beq x a) true ih) l
/-- the entries that are still to come; all older than the step -/
noncomputable def leftK (since : Nat) (es : List (V × V × Nat)) (seen : List Nat) (k : List (V × V × Nat) → O C) : O C :=
  List.rec (motive := fun _ => (List (V × V × Nat) → O C) → O C) (fun k => k []) (fun e _ ih k => boolK (Nat.blt e.2.2 since) (ih fun r => boolK (lmem e.2.2 seen) (k r) (k (e :: r))) none) es k
/-- what a map's iterator has before it -/
noncomputable def iterK (it : V) (h : Heap) (no : O C) (k : P → P → Nat → List Nat → Nat → List (V × V × Nat) → O C) : O C := itK it h fun id o => match o with
  | .mit none _ _ _ => no
  | .mit (some m) since seen stepped => getOb m h fun o => match o with
    | .map es clk => boolK (Nat.ble since stepped) (leftK since es seen fun l => k id m since seen clk l) none
    | _ => none
  | _ => none
noncomputable def stepMK (id m : P) (since clk : Nat) (seen : List Nat) (e : V × V × Nat) (h : Heap) (k : V → Heap → O C) : O C :=
  lappK seen [e.2.2] fun seen => T.putK (some (.mit (some m) since seen clk)) id h fun h => k (.tup [.bool true, e.1, e.2.1]) h
noncomputable def hNextM (it : Opd) : H C := fun regs h nx k => opdK it regs fun v => iterK v h (k (.tup [.bool false]) h nx) fun id m since seen clk l =>
  boolK (Nat.ble since clk) (match l with
  | [] => k (.tup [.bool false]) h nx
  | [e] => stepMK id m since clk seen e h fun v h => k v h nx
  | _ => none) none
noncomputable def llast (l : List Nat) (k : Nat → O C) : O C := List.rec (motive := fun _ => O C) none (fun x t ih => List.rec (motive := fun _ => O C) (k x) (fun _ _ _ => ih) t) l
noncomputable def hEntry (it : Opd) : H C := fun regs h nx k => opdK it regs fun v => itK v h fun _ o => match o with
  | .mit (some m) _ seen stepped => llast seen fun b => getOb m h fun o => match o with
    | .map es clk => boolK (Nat.beq clk stepped) (stampK b es 0 fun _ e => k (.tup [e.1, e.2.1]) h nx) none
    | _ => none
  | _ => none
noncomputable def hTassert (x : Opd) (t : Nat) (z : V) (ok : Bool) : H C := fun regs h nx k => opdK x regs fun v => match v with
  | .nili => boolK ok (k (.tup [z, .bool false]) h nx) none
  | .ifc t' v => boolK (Nat.beq t' t) (k (okV ok v true) h nx) (boolK ok (k (.tup [z, .bool false]) h nx) none)
  | _ => none
noncomputable def hExtract (i : Nat) (x : Opd) : H C := fun regs h nx k => opdK x regs fun v => match v with | .tup vs => lhead (ldrop i vs) none fun v => k v h nx | _ => none
noncomputable def hLenS (x : Opd) : H C := fun regs h nx k => opdK x regs fun v => strK v fun n _ => k (.int .i64 (.ofNat n)) h nx
noncomputable def hLenV (x : Opd) : H C := fun regs h nx k => opdK x regs fun v => match v with | .nils => k (.int .i64 (.ofNat 0)) h nx | .sl _ _ n _ => k (.int .i64 (.ofNat n)) h nx | _ => none
noncomputable def hLenM (x : Opd) : H C := fun regs h nx k => opdK x regs fun v => match v with
  | .nilm => k (.int .i64 (.ofNat 0)) h nx
  | v => mapK v h fun _ es _ => natK (llen es 0) fun n => k (.int .i64 (.ofNat n)) h nx
noncomputable def hCap (x : Opd) : H C := fun regs h nx k => opdK x regs fun v => match v with
  | .nils => k (.int .i64 (.ofNat 0)) h nx
  | .sl id _ _ c => getOb id h fun o => match o with | .row _ _ _ opn _ => boolK opn none (k (.int .i64 (.ofNat c)) h nx) | _ => none
  | _ => none
noncomputable def hMin (x y : Opd) : H C := fun regs h nx k => opdK x regs fun x => opdK y regs fun y => match x, y with | .int kd a, .int _ b => boolK (ile a b) (k (.int kd a) h nx) (k (.int kd b) h nx) | _, _ => none
noncomputable def hMax (x y : Opd) : H C := fun regs h nx k => opdK x regs fun x => opdK y regs fun y => match x, y with | .int kd a, .int _ b => boolK (ile b a) (k (.int kd a) h nx) (k (.int kd b) h nx) | _, _ => none
noncomputable def hAppend (elem es : Nat) (s x : Opd) : H C := fun regs h nx k => opdK s regs fun s => opdK x regs fun x => elemsK es x h fun n new => appK elem es s n new h nx k
noncomputable def hCopy (es : Nat) (d s : Opd) : H C := fun regs h nx k => opdK d regs fun d => opdK s regs fun s => elemsK es s h fun n cs => match d with
  | .nils => k (.int .i64 (.ofNat 0)) h nx
  | .sl id off len _ => natK (Nat.min n len) fun m => ltakeK (Nat.mul m es) cs fun cs => writeK id off cs h fun h => k (.int .i64 (.ofNat m)) h nx
  | _ => none
noncomputable def hClear (z : List V) (m : Opd) : H C := fun regs h nx k => opdK m regs fun m => match m with
  | .nils => k (.tup []) h nx
  | .sl id off n _ => lrepK n z fun cs => writeK id off cs h fun h => k (.tup []) h nx
  | _ => none
noncomputable def hUsData (x : Opd) : H C := fun regs h nx k => opdK x regs fun v => match v with | .nils => k .nilp h nx | .sl id off _ c => Nat.rec (motive := fun _ => O C) none (fun _ _ => k (.ptr id off) h nx) c | _ => none
noncomputable def hUsStr (elem : Nat) (p n : Opd) : H C := fun regs h nx k => opdK p regs fun p => opdK n regs fun n => nat0K n fun n => boolK (Nat.ble n 1048576) (Nat.rec (motive := fun _ => O C)
  (match p with | .ptr _ _ => k (.str 0 0) h nx | .nilp => k (.str 0 0) h nx | _ => none) (fun _ _ => ptrK p fun id off => readK id off n h fun cs => unbytes cs fun N => getOb id h fun o => match o with
    | .row cs el room opn fz => boolK (Nat.beq el elem) (natK (boolK (Nat.ble fz (Nat.add off n)) (Nat.add off n) fz) fun fz => T.putK (some (.row cs el room opn fz)) id h fun h => vStr n N fun v => k v h nx) none
    | _ => none) n) none
noncomputable def hGload (i : Nat) : H C := fun _ h nx k => k (.unk i) h nx
noncomputable def hNo : H C := fun _ _ _ _ => none
noncomputable def hToUns (x : Opd) : H C := fun regs h nx k => opdK x regs fun v => ptrK v fun id off => getOb id h fun o => match o with
  | .row cs _ _ _ _ => boolK (Nat.blt off (llen cs 0)) (k (.ptr id off) h nx) none
  | _ => none
noncomputable def hOfUns (el sz : Nat) (x : Opd) : H C := fun regs h nx k => opdK x regs fun v => ptrK v fun id off => getOb id h fun o => match o with
  | .row cs el' _ false _ => boolK (Nat.beq off 0 && (Nat.beq el' el && Nat.ble sz (llen cs 0))) (k (.ptr id off) h nx) none
  | _ => none
noncomputable def hStore (n : Nat) (a x : Opd) : H C := fun regs h nx k => opdK a regs fun a => opdK x regs fun x => ptrK a fun id off =>
  match x with | .tup _ => none | x => boolK (Nat.beq (llen (cellsV x) 0) n) (writeK id off (cellsV x) h fun h => k (.tup []) h nx) none

/-- The operations that yield a value (or nothing: '.tup []') at once. -/
noncomputable def exec (i : Ins) : H C := Ins.rec (motive := fun _ => H C)
  (fun x => hMv x)
  (fun c a b => hPick c a b)
  (fun e z => hAlloc e z)
  (fun e n x => hBox e n x)
  (fun z ps => hBuild z ps)
  (fun e n z ps => hBslice e n z ps)
  (fun a => hLoad1 a)
  (fun n a => hLoadN n a)
  (fun i => hGload i)
  (fun n a x => hStore n a x)
  (fun x => hNil x)
  (fun c n x y => hEqv c n x y)
  (fun op x y => hBin op x y)
  (fun op x => hUn op x)
  (fun k x => hConvInt k x)
  (fun x => hMv x)
  (fun e x => hS2B e x)
  (fun x => hB2S x)
  (fun x => hI2S x)
  (fun t x => hIfc t x)
  (fun f a b => hFn f a b)
  (hMkmap)
  (fun c => hMkchan c)
  (fun e z l c => hMkslice e z l c)
  (fun x lo hi => hSliceS x lo hi)
  (fun es x lo hi => hSliceV es x lo hi)
  (fun n es x lo hi => hSliceA n es x lo hi)
  (fun es x lo hi => hSliceW es x lo hi)
  (fun o x => hFadd o x)
  (fun o n a x => hFld o n a x)
  (fun es x i => hIxaV es x i)
  (fun n es x i => hIxaA n es x i)
  (fun x i => hIdxS x i)
  (fun n es a x i => hIdxA n es a x i)
  (fun c z m k ok => hLookup c z m k ok)
  (fun c m k x => hMapupd c m k x)
  (fun c z m k => hMentry c z m k)
  (fun m s x => hEstore m s x)
  (fun x => hRangeS x)
  (fun x => hRangeM x)
  (fun it => hNextS it)
  (fun it => hNextM it)
  (fun it => hEntry it)
  (fun x t z ok => hTassert x t z ok)
  (fun i x => hExtract i x)
  (fun x => hLenS x)
  (fun x => hLenV x)
  (fun x => hLenM x)
  (fun x => hCap x)
  (fun x y => hMin x y)
  (fun x y => hMax x y)
  (fun e es s x => hAppend e es s x)
  (fun es d s => hCopy es d s)
  (fun z m => hClear z m)
  (fun e p n => hUsStr e p n)
  (fun x => hUsData x)
  (fun x => hToUns x)
  (fun el sz x => hOfUns el sz x)
  i
end Go.Gb
end
