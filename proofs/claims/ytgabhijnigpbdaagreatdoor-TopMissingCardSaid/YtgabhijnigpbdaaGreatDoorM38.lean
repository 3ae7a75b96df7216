/- A part of the proof of the statement Rows.TopMissingCardSaid (at every argument the law returns true on every schedule, and its argument reads as before; the listed variables as laid). This text: a stepper over symbolic states of the translated program and its soundness, part 38 of 41. -/
import Derived.Test.YtgabhijnigpbdaaGreatDoorM37
section
/-! The same evaluator, quicker: each choice among constructors is one closed term. -/
set_option linter.unusedVariables false
set_option linter.unusedSimpArgs false
namespace Go.Gb
open Go.Conc
/-! tries -/
noncomputable def getV (p : P) : Regs → (V → OR) → OR := P.rec (motive := fun _ => Regs → (V → OR) → OR)
  (fun t k => T.rec (motive := fun _ => OR) none (fun _ v _ _ _ => Option.rec (motive := fun _ => OR) none k v) t)
  (fun _ ih t k => T.rec (motive := fun _ => OR) none (fun l _ _ _ _ => ih l k) t)
  (fun _ ih t k => T.rec (motive := fun _ => OR) none (fun _ _ r _ _ => ih r k) t) p
theorem getV_eq : ∀ (p : P) (t : Regs) (k : V → OR), getV p t k = optK (T.get p t) none k := by
  intro p
  induction p with
  | z => intro t k; cases t <;> rfl
  | o p ih =>
    intro t k
    cases t with
    | nil => rfl
    | node l v r => exact ih l k
  | e p ih =>
    intro t k
    cases t with
    | nil => rfl
    | node l v r => exact ih r k
noncomputable def getO (p : P) : Heap → (Ob → OR) → OR := P.rec (motive := fun _ => Heap → (Ob → OR) → OR)
  (fun t k => T.rec (motive := fun _ => OR) none (fun _ v _ _ _ => Option.rec (motive := fun _ => OR) none k v) t)
  (fun _ ih t k => T.rec (motive := fun _ => OR) none (fun l _ _ _ _ => ih l k) t)
  (fun _ ih t k => T.rec (motive := fun _ => OR) none (fun _ _ r _ _ => ih r k) t) p
theorem getO_eq : ∀ (p : P) (t : Heap) (k : Ob → OR), getO p t k = optK (T.get p t) none k := by
  intro p
  induction p with
  | z => intro t k; cases t <;> rfl
  | o p ih =>
    intro t k
    cases t with
    | nil => rfl
    | node l v r => exact ih l k
  | e p ih =>
    intro t k
    cases t with
    | nil => rfl
    | node l v r => exact ih r k
noncomputable def putV (p : P) : Regs → V → (Regs → OR) → OR := P.rec (motive := fun _ => Regs → V → (Regs → OR) → OR)
  (fun t x k => T.rec (motive := fun _ => OR) (k (.node .nil (some x) .nil)) (fun l _ r _ _ => k (.node l (some x) r)) t)
  (fun _ ih t x k => T.rec (motive := fun _ => OR) (ih .nil x fun l => k (.node l none .nil)) (fun l v r _ _ => ih l x fun l => k (.node l v r)) t)
  (fun _ ih t x k => T.rec (motive := fun _ => OR) (ih .nil x fun r => k (.node .nil none r)) (fun l v r _ _ => ih r x fun r => k (.node l v r)) t) p
theorem putV_eq : ∀ (p : P) (t : Regs) (x : V) (k : Regs → OR), putV p t x k = T.putK (some x) p t k := by
  intro p
  induction p with
  | z => intro t x k; cases t <;> rfl
  | o p ih => intro t x k; cases t <;> exact ih _ _ _
  | e p ih => intro t x k; cases t <;> exact ih _ _ _
noncomputable def opdV (o : Opd) : Regs → (V → OR) → OR := Opd.rec (motive := fun _ => Regs → (V → OR) → OR) (fun p => getV p) (fun v _ k => k v) o
theorem opdV_eq (o : Opd) (regs : Regs) (k : V → OR) : opdV o regs k = opdK o regs k := by
  cases o with
  | r p => exact getV_eq p regs k
  | c v => rfl
noncomputable def putdV (d : Option P) : V → Regs → (Regs → OR) → OR := Option.rec (motive := fun _ => V → Regs → (Regs → OR) → OR) (fun _ regs k => k regs) (fun d v regs k => putV d regs v k) d
theorem putdV_eq (d : Option P) (v : V) (regs : Regs) (k : Regs → OR) : putdV d v regs k = putD d v regs k := by
  cases d with
  | none => rfl
  | some d => exact putV_eq d regs v k
noncomputable def guardV (g : Option (P × Bool)) : Regs → OR → OR → OR := Option.rec (motive := fun _ => Regs → OR → OR → OR) (fun _ yes _ => yes) (fun pb regs yes no => guardK (some pb) regs yes no) g
theorem guardV_eq (g : Option (P × Bool)) (regs : Regs) (yes no : OR) : guardV g regs yes no = guardK g regs yes no := by cases g <;> rfl
/-! values -/
noncomputable def selInt (v : V) : (IntKind → Int → OR) → OR → OR := V.rec (motive_1 := fun _ => (IntKind → Int → OR) → OR → OR) (motive_2 := fun _ => Unit) (fun kd n => fun k _ => k kd n) (fun _ => fun _ d => d) (fun _ _ => fun _ d => d) (fun _ _ => fun _ d => d) (fun _ d => d) (fun _ _ _ _ => fun _ d => d) (fun _ d => d) (fun _ => fun _ d => d) (fun _ d => d) (fun _ => fun _ d => d) (fun _ d => d) (fun _ _ _ _ _ => fun _ d => d) (fun _ => fun _ d => d) (fun _ d => d) (fun _ _ _ => fun _ d => d) (fun _ d => d) (fun _ _ => fun _ d => d) (fun _ _ => fun _ d => d) (fun _ => fun _ d => d) (fun _ _ _ => fun _ d => d) () (fun _ _ _ _ => ()) v
noncomputable def selStr (v : V) : (Nat → Nat → OR) → OR → OR := V.rec (motive_1 := fun _ => (Nat → Nat → OR) → OR → OR) (motive_2 := fun _ => Unit) (fun _ _ => fun _ d => d) (fun _ => fun _ d => d) (fun n N => fun k _ => k n N) (fun _ _ => fun _ d => d) (fun _ d => d) (fun _ _ _ _ => fun _ d => d) (fun _ d => d) (fun _ => fun _ d => d) (fun _ d => d) (fun _ => fun _ d => d) (fun _ d => d) (fun _ _ _ _ _ => fun _ d => d) (fun _ => fun _ d => d) (fun _ d => d) (fun _ _ _ => fun _ d => d) (fun _ d => d) (fun _ _ => fun _ d => d) (fun _ _ => fun _ d => d) (fun _ => fun _ d => d) (fun _ _ _ => fun _ d => d) () (fun _ _ _ _ => ()) v
noncomputable def selBool (v : V) : (Bool → OR) → OR → OR := V.rec (motive_1 := fun _ => (Bool → OR) → OR → OR) (motive_2 := fun _ => Unit) (fun _ _ => fun _ d => d) (fun b => fun k _ => k b) (fun _ _ => fun _ d => d) (fun _ _ => fun _ d => d) (fun _ d => d) (fun _ _ _ _ => fun _ d => d) (fun _ d => d) (fun _ => fun _ d => d) (fun _ d => d) (fun _ => fun _ d => d) (fun _ d => d) (fun _ _ _ _ _ => fun _ d => d) (fun _ => fun _ d => d) (fun _ d => d) (fun _ _ _ => fun _ d => d) (fun _ d => d) (fun _ _ => fun _ d => d) (fun _ _ => fun _ d => d) (fun _ => fun _ d => d) (fun _ _ _ => fun _ d => d) () (fun _ _ _ _ => ()) v
noncomputable def selPtr (v : V) : (P → Nat → OR) → OR → OR := V.rec (motive_1 := fun _ => (P → Nat → OR) → OR → OR) (motive_2 := fun _ => Unit) (fun _ _ => fun _ d => d) (fun _ => fun _ d => d) (fun _ _ => fun _ d => d) (fun id off => fun k _ => k id off) (fun _ d => d) (fun _ _ _ _ => fun _ d => d) (fun _ d => d) (fun _ => fun _ d => d) (fun _ d => d) (fun _ => fun _ d => d) (fun _ d => d) (fun _ _ _ _ _ => fun _ d => d) (fun _ => fun _ d => d) (fun _ d => d) (fun _ _ _ => fun _ d => d) (fun _ d => d) (fun _ _ => fun _ d => d) (fun _ _ => fun _ d => d) (fun _ => fun _ d => d) (fun _ _ _ => fun _ d => d) () (fun _ _ _ _ => ()) v
noncomputable def selTup (v : V) : (List V → OR) → OR → OR := V.rec (motive_1 := fun _ => (List V → OR) → OR → OR) (motive_2 := fun _ => Unit) (fun _ _ => fun _ d => d) (fun _ => fun _ d => d) (fun _ _ => fun _ d => d) (fun _ _ => fun _ d => d) (fun _ d => d) (fun _ _ _ _ => fun _ d => d) (fun _ d => d) (fun _ => fun _ d => d) (fun _ d => d) (fun _ => fun _ d => d) (fun _ d => d) (fun _ _ _ _ _ => fun _ d => d) (fun _ => fun _ d => d) (fun _ d => d) (fun _ _ _ => fun _ d => d) (fun _ d => d) (fun _ _ => fun _ d => d) (fun vs _ => fun k _ => k vs) (fun _ => fun _ d => d) (fun _ _ _ => fun _ d => d) () (fun _ _ _ _ => ()) v
noncomputable def kidxF (a : IntKind) : Nat := IntKind.rec (motive := fun _ => Nat) 0 1 2 3 4 5 6 7 a
theorem kidxF_eq (a : IntKind) : kidxF a = kidx a := by cases a <;> rfl
noncomputable def ieqF (a b : Int) : Bool := Int.rec (motive := fun _ => Int → Bool) (fun a b => Int.rec (motive := fun _ => Bool) (fun b => Nat.beq a b) (fun _ => false) b) (fun a b => Int.rec (motive := fun _ => Bool) (fun _ => false) (fun b => Nat.beq a b) b) a b
theorem ieqF_eq (a b : Int) : ieqF a b = ieq a b := by cases a <;> cases b <;> rfl
noncomputable def ileF (a b : Int) : Bool := Int.rec (motive := fun _ => Int → Bool) (fun a b => Int.rec (motive := fun _ => Bool) (fun b => Nat.ble a b) (fun _ => false) b) (fun a b => Int.rec (motive := fun _ => Bool) (fun _ => true) (fun b => Nat.ble b a) b) a b
theorem ileF_eq (a b : Int) : ileF a b = ile a b := by cases a <;> cases b <;> rfl
noncomputable def kdF (a b : IntKind) : Bool := Nat.beq (kidxF a) (kidxF b)
theorem kdF_eq (a b : IntKind) : kdF a b = kdeq a b := by unfold kdF kdeq; rw [kidxF_eq, kidxF_eq]
noncomputable def bV (b : Bool) (k : V → OR) : OR := Bool.rec (motive := fun _ => OR) (k (.bool false)) (k (.bool true)) b
theorem bV_eq (b : Bool) (k : V → OR) : bV b k = vBool b k := by cases b <;> rfl
/-! operations -/
noncomputable def eqR (c : EqC) : V → V → (Bool → OR) → OR :=
  EqC.rec (motive_1 := fun _ => V → V → (Bool → OR) → OR) (motive_2 := fun _ => Unit)
    (fun x y k => selInt x (fun kd a => selInt y (fun kd' b => boolK (kdF kd kd') (k (ieqF a b)) none) none) none)
    (fun x y k => selStr x (fun n N => selStr y (fun m M => k (seq n N m M)) none) none)
    (eqK .bool) (eqK .ptr) (eqK .slc) (eqK .ifc) (eqK .fnc) (fun l _ => eqK (.flat l)) () (fun _ _ _ _ => ()) c
theorem eqR_eq (c : EqC) (x y : V) (k : Bool → OR) : eqR c x y k = eqK c x y k := by
  cases c <;> (try rfl)
  · cases x <;> (try rfl)
    cases y <;> (try rfl)
    show boolK (kdF _ _) (k (ieqF _ _)) none = boolK (kdeq _ _) (k (ieq _ _)) none
    rw [kdF_eq, ieqF_eq]
  · cases x <;> (try rfl)
    cases y <;> rfl
noncomputable def arithR (op : BinOp) : IntKind → Int → Int → (V → OR) → OR := BinOp.rec (motive := fun _ => IntKind → Int → Int → (V → OR) → OR) (arith .add) (arith .sub) (arith .mul) (arith .quo) (arith .rem) (arith .and) (arith .or) (arith .xor) (arith .shl) (arith .shr) (arith .andNot) (arith .eql) (arith .neq) (fun _ a b k => bV (!ileF b a) k) (fun _ a b k => bV (ileF a b) k) (fun _ a b k => bV (!ileF a b) k) (fun _ a b k => bV (ileF b a) k) op
theorem arithR_eq (op : BinOp) (kd : IntKind) (a b : Int) (k : V → OR) : arithR op kd a b k = arith op kd a b k := by
  cases op <;> (try rfl) <;> (unfold arithR; simp only [bV_eq, ileF_eq]; rfl)
noncomputable def intR (op : BinOp) : V → V → (V → OR) → OR := fun x y k => selInt x (fun kd a => selInt y (fun kd' b => boolK (kdF kd kd') (arithR op kd a b k) none) (binK op (.int kd a) y k)) (binK op x y k)
theorem intR_eq (op : BinOp) (h : op = .add ∨ op = .sub ∨ op = .lss ∨ op = .leq ∨ op = .gtr ∨ op = .geq) (x y : V) (k : V → OR) : intR op x y k = binK op x y k := by
  cases x <;> (try rfl)
  cases y <;> (try rfl)
  show boolK (kdF _ _) (arithR op _ _ _ k) none = _
  rw [kdF_eq, arithR_eq]
  rcases h with rfl | rfl | rfl | rfl | rfl | rfl <;> rfl
noncomputable def binR (op : BinOp) : V → V → (V → OR) → OR := BinOp.rec (motive := fun _ => V → V → (V → OR) → OR) (intR .add) (intR .sub) (binK .mul) (binK .quo) (binK .rem) (binK .and) (binK .or) (binK .xor) (binK .shl) (binK .shr) (binK .andNot) (binK .eql) (binK .neq) (intR .lss) (intR .leq) (intR .gtr) (intR .geq) op
theorem binR_eq (op : BinOp) (x y : V) (k : V → OR) : binR op x y k = binK op x y k := by
  cases op <;> first | rfl | exact intR_eq _ (by simp) x y k
noncomputable def rMv (x : Opd) : H Rs := fun regs h nx k => opdV x regs fun v => k v h nx
noncomputable def rPick (c a b : Opd) : H Rs := fun regs h nx k => opdV c regs fun c => selBool c (fun x => boolK x (opdV a regs fun v => k v h nx) (opdV b regs fun v => k v h nx)) none
noncomputable def rEqv (c : EqC) (neg : Bool) (x y : Opd) : H Rs := fun regs h nx k => opdV x regs fun x => opdV y regs fun y => eqR c x y fun b => boolK neg (bV (boolK b false true) fun v => k v h nx) (bV b fun v => k v h nx)
noncomputable def rBin (op : BinOp) (x y : Opd) : H Rs := fun regs h nx k => opdV x regs fun x => opdV y regs fun y => binR op x y fun v => k v h nx
noncomputable def rExtract (i : Nat) (x : Opd) : H Rs := fun regs h nx k => opdV x regs fun v => selTup v (fun vs => lhead (ldrop i vs) none fun v => k v h nx) none
noncomputable def rLenS (x : Opd) : H Rs := fun regs h nx k => opdV x regs fun v => selStr v (fun n _ => k (.int .i64 (.ofNat n)) h nx) none
noncomputable def rowR (o : Ob) : (List V → OR) → OR := Ob.rec (motive := fun _ => (List V → OR) → OR) (fun cs _ _ _ _ k => k cs) (fun _ _ _ => none) (fun _ _ _ _ _ _ => none) (fun _ _ _ _ => none) (fun _ _ _ _ _ => none) (fun _ _ _ _ _ _ _ _ _ _ => none) (fun _ _ => none) o
noncomputable def readR (id : P) (off n : Nat) (h : Heap) (k : List V → OR) : OR := getO id h fun o => rowR o fun cs => ltakeK n (ldrop off cs) fun r => boolK (Nat.beq (llen r 0) n) (k r) none
theorem readR_eq (id : P) (off n : Nat) (h : Heap) (k : List V → OR) : readR id off n h k = readK id off n h k := by
  unfold readR readK getOb
  rw [getO_eq]
  congr 1
  funext o
  cases o <;> rfl
noncomputable def rLoad1 (a : Opd) : H Rs := fun regs h nx k => opdV a regs fun v => selPtr v (fun id off => readR id off 1 h fun cs => lhead cs none fun v => k v h nx) none
noncomputable def rLoadN (n : Nat) (a : Opd) : H Rs := fun regs h nx k => opdV a regs fun v => selPtr v (fun id off => readR id off n h fun cs => k (.agg cs) h nx) none
noncomputable def rFadd (off : Nat) (x : Opd) : H Rs := fun regs h nx k => opdV x regs fun v => selPtr v (fun id o => hFadd off (.c (.ptr id o)) regs h nx k) none
noncomputable def rIdxS (x i : Opd) : H Rs := fun regs h nx k => opdV x regs fun v => selStr v (fun n N => opdV i regs fun v => selInt v (fun _ j => Int.rec (motive := fun _ => OR) (fun j => boolK (Nat.blt j n) (natK (byteAt N j) fun b => k (.int .u8 (.ofNat b)) h nx) none) (fun _ => none) j) none) none
noncomputable def execR (i : Ins) : H Rs := Ins.rec (motive := fun _ => H Rs)
  (fun x => rMv x)
  (fun c a b => rPick c a b)
  (fun e z => hAlloc e z)
  (fun e n x => hBox e n x)
  (fun z ps => hBuild z ps)
  (fun e n z ps => hBslice e n z ps)
  (fun a => rLoad1 a)
  (fun n a => rLoadN n a)
  (fun i => hGload i)
  (fun n a x => hStore n a x)
  (fun x => hNil x)
  (fun c n x y => rEqv c n x y)
  (fun op x y => rBin op x y)
  (fun op x => hUn op x)
  (fun k x => hConvInt k x)
  (fun x => rMv x)
  (fun e x => hS2B e x)
  (fun x => hB2S x)
  (fun x => hI2S x)
  (fun t x => hIfc t x)
  (fun f a b => hFn f a b)
  (hMkmap)
  (fun c => hMkchan c)
  (fun e z l c => hMkslice e z l c)
  (fun x lo hi => hSliceS x lo hi)
  (fun es x lo hi => hSliceV es x lo hi)
  (fun n es x lo hi => hSliceA n es x lo hi)
  (fun es x lo hi => hSliceW es x lo hi)
  (fun o x => hFadd o x)
  (fun o n a x => hFld o n a x)
  (fun es x i => hIxaV es x i)
  (fun n es x i => hIxaA n es x i)
  (fun x i => rIdxS x i)
  (fun n es a x i => hIdxA n es a x i)
  (fun c z m k ok => hLookup c z m k ok)
  (fun c m k x => hMapupd c m k x)
  (fun c z m k => hMentry c z m k)
  (fun m s x => hEstore m s x)
  (fun x => hRangeS x)
  (fun x => hRangeM x)
  (fun it => hNextS it)
  (fun it => hNextM it)
  (fun it => hEntry it)
  (fun x t z ok => hTassert x t z ok)
  (fun i x => rExtract i x)
  (fun x => rLenS x)
  (fun x => hLenV x)
  (fun x => hLenM x)
  (fun x => hCap x)
  (fun x y => hMin x y)
  (fun x y => hMax x y)
  (fun e es s x => hAppend e es s x)
  (fun es d s => hCopy es d s)
  (fun z m => hClear z m)
  (fun e p n => hUsStr e p n)
  (fun x => hUsData x)
  (fun x => hToUns x)
  (fun el sz x => hOfUns el sz x)
  i
theorem selInt_eq (v : V) (k : IntKind → Int → OR) (d : OR) : selInt v k d = match v with | .int kd n => k kd n | _ => d := by cases v <;> rfl
theorem rMv_eq (x : Opd) : rMv x = hMv x := by funext regs h nx k; exact opdV_eq ..
theorem rPick_eq (c a b : Opd) : rPick c a b = hPick c a b := by
  funext regs h nx k
  unfold rPick hPick
  simp only [opdV_eq]
  congr 1
  funext c
  cases c <;> rfl
theorem rEqv_eq (c : EqC) (neg : Bool) (x y : Opd) : rEqv c neg x y = hEqv c neg x y := by
  funext regs h nx k; unfold rEqv hEqv; simp only [opdV_eq, eqR_eq, bV_eq]
theorem rBin_eq (op : BinOp) (x y : Opd) : rBin op x y = hBin op x y := by
  funext regs h nx k; unfold rBin hBin; simp only [opdV_eq, binR_eq]
theorem rExtract_eq (i : Nat) (x : Opd) : rExtract i x = hExtract i x := by
  funext regs h nx k
  unfold rExtract hExtract
  rw [opdV_eq]
  congr 1
  funext v
  cases v <;> rfl
theorem rLenS_eq (x : Opd) : rLenS x = hLenS x := by
  funext regs h nx k
  unfold rLenS hLenS
  rw [opdV_eq]
  congr 1
  funext v
  cases v <;> rfl
theorem rLoad1_eq (x : Opd) : rLoad1 x = hLoad1 x := by
  funext regs h nx k
  unfold rLoad1 hLoad1
  rw [opdV_eq]
  congr 1
  funext v
  cases v <;> first | rfl | exact readR_eq ..
theorem rLoadN_eq (n : Nat) (x : Opd) : rLoadN n x = hLoadN n x := by
  funext regs h nx k
  unfold rLoadN hLoadN
  rw [opdV_eq]
  congr 1
  funext v
  cases v <;> first | rfl | exact readR_eq ..
theorem rIdxS_eq (x i : Opd) : rIdxS x i = hIdxS x i := by
  funext regs h nx k
  unfold rIdxS hIdxS zidxK
  simp only [opdV_eq]
  congr 1
  funext v
  cases v <;> (try rfl)
  show opdK i regs _ = opdK i regs _
  congr 1
  funext w
  cases w with
  | int kd j => cases j <;> rfl
  | _ => rfl
theorem execR_eq (i : Ins) : execR i = exec i := by
  cases i <;> first | rfl | exact rMv_eq _ | exact rPick_eq .. | exact rEqv_eq .. | exact rBin_eq .. | exact rExtract_eq .. | exact rLenS_eq _ | exact rLoad1_eq _ | exact rLoadN_eq .. | exact rIdxS_eq ..
/-- One operation, then the rest. -/
noncomputable def whR (w : Wh) : Option (P × Bool) → Option P → (TOp → List TOp → Fx → Regs → Heap → P → OR) → TOp → List TOp → (Regs → Heap → P → OR) → Regs → Heap → P → OR :=
  Wh.rec (motive := fun _ => Option (P × Bool) → Option P → (TOp → List TOp → Fx → Regs → Heap → P → OR) → TOp → List TOp → (Regs → Heap → P → OR) → Regs → Heap → P → OR)
    (fun i g d _ _ _ ih regs h nx => guardV g regs (execR i regs h nx fun v h nx => putdV d v regs fun regs => ih regs h nx) (putdV d (.tup []) regs fun regs => ih regs h nx))
    (fun x g d kfx o rest ih regs h nx => guardV g regs (kfx o rest x regs h nx) (putdV d (.tup []) regs fun regs => ih regs h nx)) w
noncomputable def opR (o : TOp) : (TOp → List TOp → Fx → Regs → Heap → P → OR) → List TOp → (Regs → Heap → P → OR) → Regs → Heap → P → OR :=
  TOp.rec (motive := fun _ => (TOp → List TOp → Fx → Regs → Heap → P → OR) → List TOp → (Regs → Heap → P → OR) → Regs → Heap → P → OR) (fun d g w kfx rest ih => whR w g d kfx ⟨d, g, w⟩ rest ih) o
/-- A region in the text's order. -/
noncomputable def opsF (l : List TOp) : (Regs → Heap → P → OR) → (TOp → List TOp → Fx → Regs → Heap → P → OR) → Regs → Heap → P → OR :=
  List.rec (motive := fun _ => (Regs → Heap → P → OR) → (TOp → List TOp → Fx → Regs → Heap → P → OR) → Regs → Heap → P → OR) (fun kend _ => kend)
    (fun o rest ih kend kfx => opR o kfx rest (ih kend kfx)) l
theorem opsF_eq (kend : Regs → Heap → P → OR) (kfx : Fx → List TOp → Regs → Heap → P → OR) : ∀ (l : List TOp) (regs : Regs) (h : Heap) (nx : P), opsF l kend (fun o rest x => kfx x (o :: rest)) regs h nx = opsK l regs h nx kend kfx := by
  intro l
  induction l with
  | nil => intro regs h nx; rfl
  | cons o rest ih =>
    intro regs h nx
    obtain ⟨d, g, w⟩ := o
    have h1 : ∀ v regs h nx, putdV d v regs (fun regs => opsF rest kend (fun o rest x => kfx x (o :: rest)) regs h nx) = putD d v regs (fun regs => opsK rest regs h nx kend kfx) := by
      intro v regs h nx
      rw [putdV_eq]
      congr 1
      funext regs
      exact ih regs h nx
    cases w with
    | i i =>
      show guardV g regs (execR i regs h nx fun v h nx => putdV d v regs fun regs => opsF rest kend (fun o rest x => kfx x (o :: rest)) regs h nx) (putdV d (.tup []) regs fun regs => opsF rest kend (fun o rest x => kfx x (o :: rest)) regs h nx) = guardK g regs (exec i regs h nx fun v h nx => putD d v regs fun regs => opsK rest regs h nx kend kfx) (putD d (.tup []) regs fun regs => opsK rest regs h nx kend kfx)
      rw [guardV_eq, execR_eq]
      simp only [h1]
    | f x =>
      show guardV g regs (kfx x (_ :: rest) regs h nx) (putdV d (.tup []) regs fun regs => opsF rest kend (fun o rest x => kfx x (o :: rest)) regs h nx) = guardK g regs (kfx x (_ :: rest) regs h nx) (putD d (.tup []) regs fun regs => opsK rest regs h nx kend kfx)
      rw [guardV_eq, h1]
/-! runs of control -/
def exitTo' (id : Nat) : List AIt → Option (List AIt)
  | [] => none
  | .inBlock j :: k => if Nat.beq j id then some k else exitTo' id k
  | _ :: k => exitTo' id k
abbrev StT := List AIt → P → Nat → Regs → List ATgt → Bool → Option P → List Fr → Heap → P → AIo → OR
abbrev PlT := Nat → Array Oper → OR → (List DOp → OR) → OR
noncomputable def oC (x : Operand) : O Opd := oK x some
noncomputable def rgF (E : Env) (gk : GK) (ih : StT) (ops : Array Oper) (l : List TOp) : StT := fun k fn nt regs ds dfd rd cs h nx io =>
  opsF l (fun regs h nx => ih k fn nt regs ds dfd rd cs h nx io) (fun o l x regs h nx => fxK E gk x ⟨fn, nt, regs, .rg ops (o :: l) :: k, ds, .run, dfd, rd⟩ cs h nx io) regs h nx
noncomputable def dgF (E : Env) (gk : GK) (ih : StT) (ops : Array Oper) (l : List DOp) : StT := fun k fn nt regs ds dfd rd cs h nx io =>
  dopsK l regs h nx (fun regs h nx => ih k fn nt regs ds dfd rd cs h nx io) (fun x l regs h nx => fxK E gk x ⟨fn, nt, regs, .dg ops l :: k, ds, .run, dfd, rd⟩ cs h nx io)
noncomputable def slowF (E : Env) (gk : GK) (plan : PlT) (it : AIt) : StT := fun k fn nt regs ds dfd rd cs h nx io => itemK E it k fn nt regs ds dfd rd cs h nx io gk plan
noncomputable def reg1 (E : Env) (gk : GK) (plan : PlT) (ih : StT) (ops : Array Oper) : StT := fun k fn nt regs ds dfd rd cs h nx io => plan nt ops none fun l => dgF E gk ih ops l k fn nt regs ds dfd rd cs h nx io
noncomputable def reg0 (E : Env) (gk : GK) (plan : PlT) (ih : StT) (ops : Array Oper) : StT := fun k fn nt regs ds dfd rd cs h nx io => optK (compR E nt ops) none fun l => rgF E gk ih ops l k fn nt regs ds dfd rd cs h nx io
noncomputable def codeF (a : Code) : Env → GK → PlT → StT → StT := Code.rec (motive := fun _ => Env → GK → PlT → StT → StT)
  (fun _ _ _ ih => ih)
  (fun id ops draw E gk plan ih => Bool.rec (motive := fun _ => StT) (reg0 E gk plan ih ops) (reg1 E gk plan ih ops) draw)
  (fun _ b iha _ E gk plan ih k => iha E gk plan ih (.code b :: k))
  (fun c _ _ iha ihb E gk plan ih k fn nt regs ds dfd rd cs h nx io => optK (oC c) none fun c => opdV c regs fun v => selBool v (fun b => boolK b (iha E gk plan ih k fn nt regs ds dfd rd cs h nx io) (ihb E gk plan ih k fn nt regs ds dfd rd cs h nx io)) none)
  (fun id _ iha E gk plan ih k => iha E gk plan ih (.inBlock id :: k))
  (fun a iha E gk plan ih k => iha E gk plan ih (.inLoop a :: k))
  (fun f ps a b _ _ E gk plan ih => slowF E gk plan (.code (.rangeFunc f ps a b)))
  (fun id E gk plan ih k fn nt regs ds dfd rd cs h nx io => exitK id k (itemK E (.code (.exit id)) k fn nt regs ds dfd rd cs h nx io gk plan) fun k => ih k fn nt regs ds dfd rd cs h nx io)
  (fun a iha E gk plan ih k => iha E gk plan ih (.inScope a :: k))
  (fun _ _ _ _ ih => ih)
  (fun l E gk plan _ => slowF E gk plan (.code (.goto l)))
  (fun E gk plan _ => slowF E gk plan (.code .ret))
  (fun w E gk plan _ => slowF E gk plan (.code (.refuse w)))
  a
noncomputable def itF (it : AIt) : Env → GK → PlT → StT → StT := AIt.rec (motive := fun _ => Env → GK → PlT → StT → StT)
  (fun a E gk plan ih => codeF a E gk plan ih)
  (fun _ _ _ _ ih => ih)
  (fun a E gk plan ih k => codeF a E gk plan ih (.inLoop a :: k))
  (fun _ _ _ _ ih => ih)
  (fun ops l E gk plan ih => rgF E gk ih ops l)
  (fun ops l E gk plan ih => dgF E gk ih ops l)
  (fun l E gk plan _ => slowF E gk plan (.inRF l))
  (fun l E gk plan _ => slowF E gk plan (.endRF l))
  (fun E gk plan _ => slowF E gk plan .begR) it
noncomputable def loopF (E : Env) (gk : GK) (plan : PlT) (n : Nat) : StT := Nat.rec (motive := fun _ => StT)
  (fun k fn nt regs ds dfd rd cs h nx io => some (.go ⟨⟨fn, nt, regs, k, ds, .run, dfd, rd⟩, cs, h, nx, io⟩))
  (fun _ ih k => List.rec (motive := fun _ => P → Nat → Regs → List ATgt → Bool → Option P → List Fr → Heap → P → AIo → OR)
    (fun fn nt regs ds dfd rd cs h nx io => leaveK none ⟨fn, nt, regs, [], ds, .run, dfd, rd⟩ cs h nx io)
    (fun it k _ => itF it E gk plan ih k) k) n
/-- Many steps at once. -/
noncomputable def stepF (E : Env) (gk : GK) (plan : PlT) (n : Nat) (c : Cfg) : OR :=
  Cfg.rec (motive := fun _ => OR) (fun top cs h nx io => Fr.rec (motive := fun _ => OR) (fun fn nt regs todo ds md dfd rd => Md.rec (motive := fun _ => OR)
    (loopF E gk plan n todo fn nt regs ds dfd rd cs h nx io)
    (unwindK E ⟨fn, nt, regs, todo, ds, .returning, dfd, rd⟩ cs h nx io)
    (fun ch => unwindK E ⟨fn, nt, regs, todo, ds, .panicking ch, dfd, rd⟩ cs h nx io) md) top) c
theorem exitK_split (id : Nat) : ∀ k : List AIt, (∃ k2, exitTo' id k = some k2 ∧ ∀ (no : OR) (f : List AIt → OR), exitK id k no f = f k2) ∨ (exitTo' id k = none ∧ ∀ (no : OR) (f : List AIt → OR), exitK id k no f = no)
  | [] => .inr ⟨rfl, fun _ _ => rfl⟩
  | i :: k => by
    rcases exitK_split id k with ⟨k2, h1, h2⟩ | ⟨h1, h2⟩
    all_goals
      cases i with
      | inBlock j =>
        by_cases hj : Nat.beq j id = true
        · exact .inl ⟨k, by simp [exitTo', hj], fun no f => by show boolK (Nat.beq j id) (f k) (exitK id k no f) = _; rw [hj]; rfl⟩
        · have hj : Nat.beq j id = false := by cases h : Nat.beq j id with | true => exact absurd h hj | false => rfl
          first
          | exact .inl ⟨k2, by simp [exitTo', hj, h1], fun no f => by show boolK (Nat.beq j id) (f k) (exitK id k no f) = _; rw [hj]; exact h2 no f⟩
          | exact .inr ⟨by simp [exitTo', hj, h1], fun no f => by show boolK (Nat.beq j id) (f k) (exitK id k no f) = _; rw [hj]; exact h2 no f⟩
      | _ => first | exact .inl ⟨k2, by simp [exitTo', h1], fun no f => h2 no f⟩ | exact .inr ⟨by simp [exitTo', h1], fun no f => h2 no f⟩
/-- A run of steps. -/
noncomputable def blockF (st : Cfg → OR) (m : Nat) : Cfg → OR := iterS st m
noncomputable def envB (E : Env) (b : Nat) : Env := match E with | ⟨tys, funs, exts, flats, mlg, _⟩ => ⟨tys, funs, exts, flats, mlg, b⟩
/-- What is followed apart, layer by layer: a table of steps. -/
noncomputable def stbF (E : Env) (f : Nat) : Nat → Cfg → OR := fun b => stepF (envB E b) noGk (plan1 (envB E b)) f
noncomputable def layF (E : Env) (f n : Nat) (tbl : List (Cfg → OR)) : Cfg → OR := stepF E (subGk E tbl (stbF E f) n) (plan1 E) f
noncomputable def buildF {R : Type} (E : Env) (f n : Nat) (d : Nat) : List (Cfg → OR) → (List (Cfg → OR) → R) → R :=
  Nat.rec (motive := fun _ => List (Cfg → OR) → (List (Cfg → OR) → R) → R) (fun tbl k => k tbl) (fun _ ih tbl k => lappK tbl [layF E f n tbl] fun tbl => ih tbl k) d
noncomputable def allGk (E : Env) (f n : Nat) (tbl : List (Cfg → OR)) : GK := ⟨work E (layF E f n tbl) n, subs E tbl (stbF E f) n⟩
section
variable {P : Program} {N0 : Nat} {mla : Addr} {ml : Gl} {θ : Th} {Post : Value → World → Prop} {E : Env} {gk : GK}
theorem okay_cond2 {fn : Gb.P} {nt : Nat} {regs : Regs} {k : List AIt} {ds : List ATgt} {dfd : Bool} {rd : Option Gb.P} {cs : List Fr} {h : Heap} {nx : Gb.P} {io : AIo} {x : Operand} {x' : Opd} {y z : Code} {b : Bool} (hx : OpdR x' x) (hv : opdK x' regs some = some (V.bool b))
    (hc : Okay P N0 mla ml θ Post ⟨⟨fn, nt, regs, .code (if b then y else z) :: k, ds, .run, dfd, rd⟩, cs, h, nx, io⟩) : Okay P N0 mla ml θ Post ⟨⟨fn, nt, regs, .code (.cond x y z) :: k, ds, .run, dfd, rd⟩, cs, h, nx, io⟩ := by
  refine okay_code (k2 := [.code (if b then y else z)]) (by simp [NotDg]) (fun σ f k' hm ht hr => ⟨[.code (if b then y else z)], fun main cs w => (exec_items ht).2.2.2.2.2.2.1 x y z b rfl ?_, fun k'' hk => ⟨rfl, hk⟩⟩) hc
  rw [feval]
  obtain ⟨v', h1, h2⟩ := opd_rel (k := some) hr hx hv
  cases h2
  exact vr_bool h1
/-- A run of control is sound. -/
def GoodF (P : Program) (N0 : Nat) (mla : Addr) (ml : Gl) (θ : Th) (Post : Value → World → Prop) (E : Env) (pre : List AIt) (f : StT) : Prop :=
  ∀ k fn nt regs ds dfd rd cs h nx io r, f k fn nt regs ds dfd rd cs h nx io = some r → Suc P N0 mla ml θ Post E r → Okay P N0 mla ml θ Post ⟨⟨fn, nt, regs, pre ++ k, ds, .run, dfd, rd⟩, cs, h, nx, io⟩
theorem slowF_ok (hE : EnvOk P E mla ml) (hF : FunOk P E) (hX : ExtsOk P E mla ml) (hgk : GkOk P N0 mla ml Post E gk) (hz : θ.hf = .nil) (it : AIt) : GoodF P N0 mla ml θ Post E [it] (slowF E gk (plan1 E) it) :=
  fun k fn nt regs ds dfd rd cs h nx io r e hr => step_suc hE hF hX hgk hz (c := ⟨⟨fn, nt, regs, it :: k, ds, .run, dfd, rd⟩, cs, h, nx, io⟩) e hr
theorem rgF_ok (hE : EnvOk P E mla ml) (hF : FunOk P E) (hX : ExtsOk P E mla ml) (hgk : GkOk P N0 mla ml Post E gk) (hz : θ.hf = .nil) {ih : StT} (hi : GoodF P N0 mla ml θ Post E [] ih) (ops : Array Oper) (l : List TOp) : GoodF P N0 mla ml θ Post E [.rg ops l] (rgF E gk ih ops l) := by
  intro k fn nt regs ds dfd rd cs h nx io r e hr
  unfold rgF at e
  rw [opsF_eq (fun regs h nx => ih k fn nt regs ds dfd rd cs h nx io) (fun x l regs h nx => fxK E gk x ⟨fn, nt, regs, .rg ops l :: k, ds, .run, dfd, rd⟩ cs h nx io)] at e
  exact okay_rg (fun regs h nx e => hi k fn nt regs ds dfd rd cs h nx io r e hr) (fun x o l regs h nx hx hw e => okay_fxK hF hX hgk hz (ats_rg hw hx) rfl e hr) l regs h nx e
theorem dgF_ok (hE : EnvOk P E mla ml) (hF : FunOk P E) (hX : ExtsOk P E mla ml) (hgk : GkOk P N0 mla ml Post E gk) (hz : θ.hf = .nil) {ih : StT} (hi : GoodF P N0 mla ml θ Post E [] ih) (ops : Array Oper) (l : List DOp) : GoodF P N0 mla ml θ Post E [.dg ops l] (dgF E gk ih ops l) := by
  intro k fn nt regs ds dfd rd cs h nx io r e hr
  exact okay_dg hz (fun regs h nx e => hi k fn nt regs ds dfd rd cs h nx io r e hr) (fun x n l regs h nx hx hw e => okay_fxK hF hX hgk hz (ats_ef hw hx) rfl e hr) l regs h nx e
theorem codeF_ok (hE : EnvOk P E mla ml) (hF : FunOk P E) (hX : ExtsOk P E mla ml) (hgk : GkOk P N0 mla ml Post E gk) (hz : θ.hf = .nil) {ih : StT} (hi : GoodF P N0 mla ml θ Post E [] ih) : ∀ a : Code, GoodF P N0 mla ml θ Post E [.code a] (codeF a E gk (plan1 E) ih) := by
  intro a
  induction a with
  | skip => exact fun k fn nt regs ds dfd rd cs h nx io r e hr => okay_skip (hi k fn nt regs ds dfd rd cs h nx io r e hr)
  | region id ops draw =>
    intro k fn nt regs ds dfd rd cs h nx io r e hr
    cases draw with
    | false =>
      replace e : optK (compR E nt ops) none (fun l => rgF E gk ih ops l k fn nt regs ds dfd rd cs h nx io) = some r := e
      obtain ⟨l, hl, e⟩ := optK_inv e
      exact okay_region hE hl (rgF_ok hE hF hX hgk hz hi ops l k fn nt regs ds dfd rd cs h nx io r e hr)
    | true =>
      replace e : optK (planK E nt ops) none (fun l => dgF E gk ih ops l k fn nt regs ds dfd rd cs h nx io) = some r := e
      obtain ⟨l, hl, e⟩ := optK_inv e
      exact okay_draw (planK_ok hE hl) (dgF_ok hE hF hX hgk hz hi ops l k fn nt regs ds dfd rd cs h nx io r e hr)
  | seq a b iha ihb => exact fun k fn nt regs ds dfd rd cs h nx io r e hr => okay_seq (iha (.code b :: k) fn nt regs ds dfd rd cs h nx io r e hr)
  | cond c a b iha ihb =>
    intro k fn nt regs ds dfd rd cs h nx io r e hr
    replace e : optK (oC c) none (fun c => opdV c regs fun v => selBool v (fun b' => boolK b' (codeF a E gk (plan1 E) ih k fn nt regs ds dfd rd cs h nx io) (codeF b E gk (plan1 E) ih k fn nt regs ds dfd rd cs h nx io)) none) = some r := e
    obtain ⟨c', hc, e⟩ := optK_inv e
    rw [opdV_eq] at e
    obtain ⟨v, hv, e⟩ := opdK_some e
    obtain ⟨b', rfl, e⟩ : ∃ b', v = .bool b' ∧ boolK b' (codeF a E gk (plan1 E) ih k fn nt regs ds dfd rd cs h nx io) (codeF b E gk (plan1 E) ih k fn nt regs ds dfd rd cs h nx io) = some r := by
      cases v <;> first | exact ⟨_, rfl, e⟩ | cases e
    obtain ⟨c2, hc2, hc3⟩ := oK_inv hc
    cases hc3
    refine okay_cond2 (b := b') hc2 hv ?_
    cases b' with
    | true => exact iha k fn nt regs ds dfd rd cs h nx io r e hr
    | false => exact ihb k fn nt regs ds dfd rd cs h nx io r e hr
  | block id a iha => exact fun k fn nt regs ds dfd rd cs h nx io r e hr => okay_block (iha (.inBlock id :: k) fn nt regs ds dfd rd cs h nx io r e hr)
  | loop a iha => exact fun k fn nt regs ds dfd rd cs h nx io r e hr => okay_loop (iha (.inLoop a :: k) fn nt regs ds dfd rd cs h nx io r e hr)
  | rangeFunc f ps a b _ _ => exact slowF_ok hE hF hX hgk hz _
  | exit id =>
    intro k fn nt regs ds dfd rd cs h nx io r e hr
    replace e : exitK id k (itemK E (.code (.exit id)) k fn nt regs ds dfd rd cs h nx io gk (plan1 E)) (fun k => ih k fn nt regs ds dfd rd cs h nx io) = some r := e
    rcases exitK_split id k with ⟨k2, h1, h2⟩ | ⟨h1, h2⟩
    · rw [h2] at e
      refine step_suc (r := .go ⟨⟨fn, nt, regs, k2, ds, .run, dfd, rd⟩, cs, h, nx, io⟩) hE hF hX hgk hz ?_ (hi k2 fn nt regs ds dfd rd cs h nx io r e hr)
      show exitK id k _ (fun k => some (.go ⟨⟨fn, nt, regs, k, ds, .run, dfd, rd⟩, cs, h, nx, io⟩)) = _
      rw [h2]
    · rw [h2] at e
      exact step_suc hE hF hX hgk hz (c := ⟨⟨fn, nt, regs, .code (.exit id) :: k, ds, .run, dfd, rd⟩, cs, h, nx, io⟩) e hr
  | scope a iha => exact fun k fn nt regs ds dfd rd cs h nx io r e hr => okay_scope (iha (.inScope a :: k) fn nt regs ds dfd rd cs h nx io r e hr)
  | label l => exact fun k fn nt regs ds dfd rd cs h nx io r e hr => okay_label (hi k fn nt regs ds dfd rd cs h nx io r e hr)
  | goto l => exact slowF_ok hE hF hX hgk hz _
  | ret => exact slowF_ok hE hF hX hgk hz _
  | refuse w => exact slowF_ok hE hF hX hgk hz _
theorem itF_ok (hE : EnvOk P E mla ml) (hF : FunOk P E) (hX : ExtsOk P E mla ml) (hgk : GkOk P N0 mla ml Post E gk) (hz : θ.hf = .nil) {ih : StT} (hi : GoodF P N0 mla ml θ Post E [] ih) (it : AIt) : GoodF P N0 mla ml θ Post E [it] (itF it E gk (plan1 E) ih) := by
  cases it with
  | code a => exact codeF_ok hE hF hX hgk hz hi a
  | inBlock id => exact fun k fn nt regs ds dfd rd cs h nx io r e hr => step_suc (r := .go ⟨⟨fn, nt, regs, k, ds, .run, dfd, rd⟩, cs, h, nx, io⟩) hE hF hX hgk hz rfl (hi k fn nt regs ds dfd rd cs h nx io r e hr)
  | inLoop a => exact fun k fn nt regs ds dfd rd cs h nx io r e hr => step_suc (r := .go ⟨⟨fn, nt, regs, .code a :: .inLoop a :: k, ds, .run, dfd, rd⟩, cs, h, nx, io⟩) hE hF hX hgk hz rfl (codeF_ok hE hF hX hgk hz hi a (.inLoop a :: k) fn nt regs ds dfd rd cs h nx io r e hr)
  | inScope a => exact fun k fn nt regs ds dfd rd cs h nx io r e hr => step_suc (r := .go ⟨⟨fn, nt, regs, k, ds, .run, dfd, rd⟩, cs, h, nx, io⟩) hE hF hX hgk hz rfl (hi k fn nt regs ds dfd rd cs h nx io r e hr)
  | rg ops l => exact rgF_ok hE hF hX hgk hz hi ops l
  | dg ops l => exact dgF_ok hE hF hX hgk hz hi ops l
  | inRF l => exact slowF_ok hE hF hX hgk hz _
  | endRF l => exact slowF_ok hE hF hX hgk hz _
  | begR => exact slowF_ok hE hF hX hgk hz _
theorem loopF_ok (hE : EnvOk P E mla ml) (hF : FunOk P E) (hX : ExtsOk P E mla ml) (hgk : GkOk P N0 mla ml Post E gk) (hz : θ.hf = .nil) : ∀ n : Nat, GoodF P N0 mla ml θ Post E [] (loopF E gk (plan1 E) n) := by
  intro n
  induction n with
  | zero => intro k fn nt regs ds dfd rd cs h nx io r e hr; cases e; exact hr
  | succ n ih =>
    intro k fn nt regs ds dfd rd cs h nx io r e hr
    cases k with
    | nil => exact step_suc hE hF hX hgk hz (c := ⟨⟨fn, nt, regs, [], ds, .run, dfd, rd⟩, cs, h, nx, io⟩) e hr
    | cons it k => exact itF_ok hE hF hX hgk hz ih it k fn nt regs ds dfd rd cs h nx io r e hr
theorem stepF_suc (hE : EnvOk P E mla ml) (hF : FunOk P E) (hX : ExtsOk P E mla ml) (hgk : GkOk P N0 mla ml Post E gk) (hz : θ.hf = .nil) {n : Nat} {c : Cfg} {r : Rs} (e : stepF E gk (plan1 E) n c = some r) (hr : Suc P N0 mla ml θ Post E r) : Okay P N0 mla ml θ Post c := by
  obtain ⟨⟨fn, nt, regs, todo, ds, md, dfd, rd⟩, cs, h, nx, io⟩ := c
  cases md with
  | run => exact loopF_ok hE hF hX hgk hz n todo fn nt regs ds dfd rd cs h nx io r e hr
  | returning => exact step_suc hE hF hX hgk hz (c := ⟨⟨fn, nt, regs, todo, ds, .returning, dfd, rd⟩, cs, h, nx, io⟩) e hr
  | panicking ch => exact step_suc hE hF hX hgk hz (c := ⟨⟨fn, nt, regs, todo, ds, .panicking ch, dfd, rd⟩, cs, h, nx, io⟩) e hr
theorem stepF_ok (hE : EnvOk P E mla ml) (hF : FunOk P E) (hX : ExtsOk P E mla ml) (hgk : GkOk P N0 mla ml Post E gk) (n : Nat) : StOk P N0 mla ml Post E (stepF E gk (plan1 E) n) :=
  fun θ c r hz e hr => stepF_suc hE hF hX hgk hz e hr
theorem StOk.fn {E' : Env} (hf : E'.funs = E.funs) {st : Cfg → OR} (h : StOk P N0 mla ml Post E' st) : StOk P N0 mla ml Post E st := by
  intro θ c r hz e hr
  refine h θ c r hz e ?_
  cases r with
  | go c => exact hr
  | fork l => exact hr
  | done v c =>
    intro hd
    refine hr ?_
    obtain ⟨a1, a2, a3, a4, a5, f, a6, a7⟩ := hd
    exact ⟨a1, a2, a3, a4, a5, f, by rw [← hf]; exact a6, a7⟩
  | fin c =>
    intro hd
    refine hr ?_
    obtain ⟨fn, nt, regs, todo, ch, dfd, rd, h, nx, e, f, b1, b2, b3, b4⟩ := hd
    exact ⟨fn, nt, regs, todo, ch, dfd, rd, h, nx, e, f, b1, b2, by rw [← hf]; exact b3, b4⟩
  | sent m c => exact hr
theorem GkOk.fn {E' : Env} (hf : E'.funs = E.funs) (h : GkOk P N0 mla ml Post E gk) : GkOk P N0 mla ml Post E' gk :=
  ⟨⟨fun g args h' nx no k r e => by
    rcases h.sub.ok g args h' nx no k r e with e | ⟨v, h1', nx', e, fd, b, regs, h1, h2⟩
    · exact .inl e
    · exact .inr ⟨v, h1', nx', e, fd, b, regs, by rw [hf]; exact h1, h2⟩⟩, h.ok⟩
/-- The entries, whatever the variable holds. -/
def ExtsAll (P : Program) (E : Env) (mla : Addr) (ml : Gl) : Prop := ∀ b, ((b % 3 = 0 → ml.val < (b / 3 : Nat)) ∧ (b % 3 = 1 → (b / 3 : Nat) ≤ ml.val)) → ExtsOk P (envB E b) mla ml
theorem ExtsAll.self (hE : EnvOk P E mla ml) (h : ExtsAll P E mla ml) : ExtsOk P E mla ml := by
  have := h E.big hE.big
  obtain ⟨tys, funs, exts, flats, mlg, big⟩ := E
  exact this
theorem stepF_big (hE : EnvOk P E mla ml) (hF : FunOk P E) (hX : ExtsAll P E mla ml) (hgk : GkOk P N0 mla ml Post E gk) (n : Nat) {b : Nat} (hb : (b % 3 = 0 → ml.val < (b / 3 : Nat)) ∧ (b % 3 = 1 → (b / 3 : Nat) ≤ ml.val)) : StOk P N0 mla ml Post E (stepF (envB E b) gk (plan1 (envB E b)) n) := by
  have e3 := hX b hb
  obtain ⟨tys, funs, exts, flats, mlg, big⟩ := E
  have e1 : EnvOk P (envB ⟨tys, funs, exts, flats, mlg, big⟩ b) mla ml := ⟨hE.tys, hE.cz, hE.glob, hb, hE.flats⟩
  have e2 : FunOk P (envB ⟨tys, funs, exts, flats, mlg, big⟩ b) := ⟨hF.funs⟩
  refine StOk.fn (E := ⟨tys, funs, exts, flats, mlg, big⟩) (E' := envB ⟨tys, funs, exts, flats, mlg, big⟩ b) rfl (stepF_ok e1 e2 e3 (GkOk.fn (E := ⟨tys, funs, exts, flats, mlg, big⟩) (E' := envB ⟨tys, funs, exts, flats, mlg, big⟩ b) rfl hgk) n)
theorem stbF_ok (hE : EnvOk P E mla ml) (hF : FunOk P E) (hX : ExtsAll P E mla ml) (f : Nat) : ∀ b, ((b % 3 = 0 → ml.val < (b / 3 : Nat)) ∧ (b % 3 = 1 → (b / 3 : Nat) ≤ ml.val)) → StOk P N0 mla ml Post E (stbF E f b) :=
  fun b hb => stepF_big hE hF hX noGk_ok f hb
theorem layF_ok (hE : EnvOk P E mla ml) (hF : FunOk P E) (hX : ExtsAll P E mla ml) (hEach : ∀ g l, T.get g E.exts = some (.each l) → EachIs P N0 mla ml Post E g) (f n : Nat) {tbl : List (Cfg → OR)} (ht : ∀ st ∈ tbl, StOk P N0 mla ml Post E st) : StOk P N0 mla ml Post E (layF E f n tbl) :=
  stepF_ok hE hF (hX.self hE) (subGk_ok hF ht (stbF_ok hE hF hX f) hEach n) f
theorem buildF_ok {R : Type} (hE : EnvOk P E mla ml) (hF : FunOk P E) (hX : ExtsAll P E mla ml) (hEach : ∀ g l, T.get g E.exts = some (.each l) → EachIs P N0 mla ml Post E g) (f n : Nat) : ∀ (d : Nat) {tbl : List (Cfg → OR)}, (∀ st ∈ tbl, StOk P N0 mla ml Post E st) →
    ∃ tbl', (∀ st ∈ tbl', StOk P N0 mla ml Post E st) ∧ ∀ k : List (Cfg → OR) → R, buildF E f n d tbl k = k tbl' := by
  intro d
  induction d with
  | zero => exact fun {tbl} ht => ⟨tbl, ht, fun k => rfl⟩
  | succ d ih =>
    intro tbl ht
    obtain ⟨tbl', h1, h2⟩ := ih (tbl := tbl ++ [layF E f n tbl]) (fun st hs => by
      rcases List.mem_append.1 hs with hs | hs
      · exact ht st hs
      · have : st = layF E f n tbl := by simpa using hs
        subst this
        exact layF_ok hE hF hX hEach f n ht)
    refine ⟨tbl', h1, fun k => ?_⟩
    show lappK tbl [layF E f n tbl] (fun tbl => buildF E f n d tbl k) = _
    rw [lappK_eq, h2]
theorem allGk_ok (hE : EnvOk P E mla ml) (hF : FunOk P E) (hX : ExtsAll P E mla ml) (hEach : ∀ g l, T.get g E.exts = some (.each l) → EachIs P N0 mla ml Post E g) (f n : Nat) {tbl : List (Cfg → OR)} (ht : ∀ st ∈ tbl, StOk P N0 mla ml Post E st) : GkOk P N0 mla ml Post E (allGk E f n tbl) :=
  work_ok hF (layF_ok hE hF hX hEach f n ht) n (subs_ok hF ht (stbF_ok hE hF hX f) hEach n)
theorem iterS_ok {st : Cfg → OR} (h : StOk P N0 mla ml Post E st) (n : Nat) : StOk P N0 mla ml Post E (iterS st n) :=
  fun θ c r hz e hr => iterS_suc (fun c r e hr => h θ c r hz e hr) n e hr
end
end Go.Gb
end
