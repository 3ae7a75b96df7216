/- A part of the proof of the statement Rows.TopMissingCardSaid (at every argument the law returns true on every schedule, and its argument reads as before; the listed variables as laid). This text: a stepper over symbolic states of the translated program and its soundness, part 17 of 41. -/
import Derived.Test.YtgabhijnigpbdaaGreatDoorM16
section
/-! The evaluator: operations that turn frames; regions; the step. -/
set_option linter.unusedVariables false
namespace Go.Gb
/-- Two values that are surely one. -/
def vsame : V → V → Bool
  | .int k a, .int k' b => kdeq k k' && ieq a b
  | .bool true, .bool true => true | .bool false, .bool false => true
  | .str n N, .str m M => Nat.beq n m && Nat.beq N M
  | .ptr a i, .ptr b j => decide (a = b) && Nat.beq i j
  | .sl a o l c, .sl b o' l' c' => decide (a = b) && (Nat.beq o o' && (Nat.beq l l' && Nat.beq c c'))
  | .map a, .map b => decide (a = b) | .chan a, .chan b => decide (a = b) | .yld a, .yld b => decide (a = b)
  | .nilp, .nilp => true | .nils, .nils => true | .nilm, .nilm => true | .nilf, .nilf => true | .nili, .nili => true | .nilc, .nilc => true
  | .unk i, .unk j => Nat.beq i j
  | .tup [], .tup [] => true
  | _, _ => false
def vsame1 : V → V → Bool
  | .ifc t x, .ifc t' y => Nat.beq t t' && vsame x y
  | x, y => vsame x y
noncomputable def vsameLf (f : V → V → Bool) (xs : List V) : List V → Bool :=
  List.rec (motive := fun _ => List V → Bool) (fun ys => List.rec (motive := fun _ => Bool) true (fun _ _ _ => false) ys)
    (fun x _ ih ys => List.rec (motive := fun _ => Bool) false (fun y yt _ => boolK (f x y) (ih yt) false) ys) xs
noncomputable def vsame2 (x y : V) : Bool := match x, y with
  | .agg xs, .agg ys => vsameLf vsame1 xs ys
  | .tup xs, .tup ys => vsameLf vsame1 xs ys
  | .fn (.func f) [] xs, .fn (.func g) [] ys => boolK (Nat.beq f g) (vsameLf vsame1 xs ys) false
  | x, y => vsame1 x y
noncomputable def vsameL (xs ys : List V) : Bool := vsameLf vsame1 xs ys
noncomputable def vsameV (x y : V) : Bool := match x, y with
  | .agg xs, .agg ys => vsameLf vsame2 xs ys
  | .tup xs, .tup ys => vsameLf vsame2 xs ys
  | x, y => vsame2 x y
variable {C : Type}
/-- Is the operation carried out? -/
noncomputable def guardK (g : Option (P × Bool)) (regs : Regs) (yes no : O C) : O C :=
  match g with
  | none => yes
  | some (p, b) => optK (T.get p regs) none fun v => match v with
    | .bool v => boolK v (boolK b yes no) (boolK b no yes)
    | .tup [] => no
    | _ => none
noncomputable def putD (d : Option P) (v : V) (regs : Regs) (k : Regs → O C) : O C := match d with
  | some d => T.putK (some v) d regs k
  | none => k regs
/-- What a floating operation tells. -/
noncomputable def evF (o : TOp) (regs : Regs) (h : Heap) (nx : P) (k : V → O C) : O C :=
  guardK o.g regs (match o.wh with
    | .i i => optK (exec (C := V × Heap × P) i regs h nx fun v h nx => some (v, h, nx)) none fun x => match x with | (v, _, _) => k v
    | .f _ => none) (k (.tup []))
/-- What has been made ahead still lies as it was made. -/
noncomputable def stillMade (o : TOp) (regs : Regs) (h : Heap) (k : O C) : O C :=
  match o.g, o.wh, o.dst with
  | none, .i (.alloc el zs), some d => optK (T.get d regs) none fun u => (match u with
    | .ptr id 0 => getOb id h fun ob => (match ob with
      | .row cs el' 0 false 0 => boolK (vsameL cs zs && Nat.beq el' el) k none
      | _ => none)
    | _ => none)
  | none, .i (.mkchan c), some d => optK (T.get d regs) none fun u => (match u with
    | .chan id => opdK c regs fun v => nat0K v fun n => boolK (Nat.ble n 1048576) (getOb id h fun ob => (match ob with
      | .chan n' [] false 0 0 => boolK (Nat.beq n' n) k none
      | _ => none)) none
    | _ => none)
  | _, _, _ => none
noncomputable def syncK (l : List Nd) (regs : Regs) (h : Heap) (nx : P) (k : O C) : O C :=
  List.rec (motive := fun _ => O C) k (fun n _ ih => boolK (Nat.beq n.kd 1) (stillMade n.t regs h ih) (evF n.t regs h nx fun v => (match n.t.dst with
      | some d => optK (T.get d regs) none fun u => boolK (vsameV v u) ih none
      | none => ih))) l
/-- A region in the text's order, up to an operation that turns frames. -/
noncomputable def opsK (l : List TOp) (regs : Regs) (h : Heap) (nx : P) (kend : Regs → Heap → P → O C) (kfx : Fx → List TOp → Regs → Heap → P → O C) : O C :=
  List.rec (motive := fun _ => Regs → Heap → P → O C) kend (fun o rest ih regs h nx =>
    guardK o.g regs (match o.wh with
      | .f x => kfx x (o :: rest) regs h nx
      | .i i => exec i regs h nx fun v h nx => putD o.dst v regs fun regs => ih regs h nx)
      (putD o.dst (.tup []) regs fun regs => ih regs h nx)) l regs h nx
/-- A region whose order is drawn, in the plan's order. -/
noncomputable def dopsK (l : List DOp) (regs : Regs) (h : Heap) (nx : P) (kend : Regs → Heap → P → O C) (kfx : Fx → List DOp → Regs → Heap → P → O C) : O C :=
  List.rec (motive := fun _ => Regs → Heap → P → O C) kend (fun x rest ih regs h nx => match x with
    | .fl n => evF n.t regs h nx fun v => putD n.t.dst v regs fun regs => ih regs h nx
    | .mk n => (match n.t.g, n.t.wh, n.t.dst with
      | none, .i i, some d => exec i regs h nx fun v h nx => putD (some d) v regs fun regs => ih regs h nx
      | _, _, _ => none)
    | .sync l => syncK l regs h nx (ih regs h nx)
    | .ef n => guardK n.t.g regs (match n.t.wh with
      | .f x => kfx x (.ef n :: rest) regs h nx
      | .i i => exec i regs h nx fun v h nx => putD n.t.dst v regs fun regs => ih regs h nx)
      (putD n.t.dst (.tup []) regs fun regs => ih regs h nx)) l regs h nx
def plainV : V → Bool | .int _ _ => true | .bool _ => true | .str _ _ => true | _ => false
noncomputable def allPlain (l : List V) : Bool := List.rec (motive := fun _ => Bool) true (fun x _ ih => boolK (plainV x) ih false) l
/-- What a value hands over: the rows of its slices, which hold no addresses. -/
noncomputable def takeObs (cs : List V) (h : Heap) (k : List (P × Ob) → Heap → O C) : O C :=
  List.rec (motive := fun _ => Heap → (List (P × Ob) → Heap → O C) → O C) (fun h k => k [] h) (fun c _ ih h k => match c with
    | .sl id _ _ _ => getOb id h fun o => match o with
      | .row cs el room opn fz => boolK (allPlain cs)
          (T.putK none id h fun h => ih h fun l h => k ((id, .row cs el room opn fz) :: l) h) none
      | _ => none
    | .nils => ih h k
    | c => boolK (plainV c) (ih h k) none) cs h k
noncomputable def addObs (l : List (P × Ob)) (h : Heap) (k : Heap → O C) : O C :=
  List.rec (motive := fun _ => Heap → O C) k (fun p _ ih h => T.putK (some p.2) p.1 h ih) l h
/-- The numbers of what is handed over: each once, from 'lo' on, below 'hi'. -/
noncomputable def freshIds (lo hi : P) (l : List (P × Ob)) (s : T Bool) (k : T Bool → O C) : O C :=
  List.rec (motive := fun _ => T Bool → O C) k (fun p _ ih s => boolK (Nat.ble lo.toNat p.1.toNat && Nat.blt p.1.toNat hi.toNat) (optK (T.get p.1 s) (T.putK (some true) p.1 s ih) fun _ => none) none) l s
noncomputable def freshMs (lo hi : P) (ms : List M) (s : T Bool) (k : O C) : O C :=
  List.rec (motive := fun _ => T Bool → O C) (fun _ => k) (fun m _ ih s => freshIds lo hi m.2 s ih) ms s
noncomputable def forkK (id m : P) (since clk : Nat) (seen : List Nat) (l : List (V × V × Nat)) (h : Heap) (mk : V → Heap → (Cfg → OR) → OR) (k : List Cfg → OR) : OR :=
  List.rec (motive := fun _ => (List Cfg → OR) → OR) (fun k => k []) (fun e _ ih k => stepMK id m since clk seen e h fun v h => mk v h fun c => ih fun l => k (c :: l)) l k
noncomputable def fxK (E : Env) (gk : GK) (x : Fx) (top : Fr) (cs : List Fr) (h : Heap) (nx : P) (io : AIo) : OR :=
  match x with
  | .call f args => opdK f top.regs fun f => opdsK args top.regs fun args => (match f with
    | .fn (.func g) first caps => lappK first args fun a => lappK a caps fun a => pK g fun g => gk.sub g a h nx (enterK E g a false top cs h nx io) fun v h nx => finK v top fun top => some (.go ⟨top, cs, h, nx, io⟩)
    | f => callK E f args false top cs h nx io)
  | .defer f args => opdK f top.regs fun f => opdsK args top.regs fun args => (match f with
    | .fn (.func g) first caps => (match top.round with
      | none => lappK first args fun a => lappK a caps fun a => pK g fun g => (match top with
        | ⟨fn, nt, regs, todo, ds, md, dfd, rd⟩ => finK (.tup []) ⟨fn, nt, regs, todo, .fn g a :: ds, md, dfd, rd⟩ fun top => some (.go ⟨top, cs, h, nx, io⟩))
      | some _ => none)
    | _ => none)
  | .close c => opdK c top.regs fun c => (match c, top.round with
    | .chan c, none => (match top with
      | ⟨fn, nt, regs, todo, ds, md, dfd, rd⟩ => finK (.tup []) ⟨fn, nt, regs, todo, .close c :: ds, md, dfd, rd⟩ fun top => some (.go ⟨top, cs, h, nx, io⟩))
    | _, _ => none)
  | .panic x => opdK x top.regs fun v => (match v with
    | .ifc t u => (match top with
      | ⟨fn, nt, regs, todo, ds, md, dfd, rd⟩ => some (.go ⟨⟨fn, nt, regs, todo, ds, .panicking [⟨.ifc t u, false⟩], dfd, rd⟩, cs, h, nx, io⟩))
    | _ => none)
  | .recov => (match top.round, top.dfd, cs with
    | none, true, ⟨fn', nt', regs', todo', ds', .panicking (⟨v, false⟩ :: older), dfd', rd'⟩ :: more =>
      finK v top fun top => some (.go ⟨top, ⟨fn', nt', regs', todo', ds', .panicking (⟨v, true⟩ :: older), dfd', rd'⟩ :: more, h, nx, io⟩)
    | none, true, ⟨_, _, _, _, _, .returning, _, _⟩ :: _ => finK .nili top fun top => some (.go ⟨top, cs, h, nx, io⟩)
    | _, _, _ => none)
  | .recv c z ok => opdK c top.regs fun c => (match c, io with
    | .chan id, .duo c' ms => if id = c' then (match ms with
        | [] => finK (okV ok z false) top fun top => some (.go ⟨top, cs, h, nx, .solo⟩)
        | m :: ms => addObs m.2 h fun h => finK (okV ok m.1 true) top fun top => some (.go ⟨top, cs, h, nx, .duo c' ms⟩)) else none
    | _, _ => none)
  | .send1 c x => opdK c top.regs fun c => opdK x top.regs fun x => (match c, io with
    | .chan id, .solo => getOb id h fun o => (match o with
      | .chan cap buf false s r => boolK (Nat.blt (llen buf 0) cap)
        (lappK buf [x] fun buf => natK (Nat.add s 1) fun s => T.putK (some (.chan cap buf false s r)) id h fun h => finK (.tup [.int .i64 (.ofNat 0), .bool false]) top fun top => some (.go ⟨top, cs, h, nx, io⟩))
        (finK (.tup [.int .i64 (.negSucc 0), .bool false]) top fun top => some (.go ⟨top, cs, h, nx, io⟩))
      | _ => none)
    | _, _ => none)
  | .take1 c z => opdK c top.regs fun c => (match c, io with
    | .chan id, .solo => getOb id h fun o => (match o with
      | .chan cap buf false s r => List.rec (motive := fun _ => OR) (finK (.tup [.int .i64 (.negSucc 0), .bool false, z]) top fun top => some (.go ⟨top, cs, h, nx, io⟩))
        (fun x rest _ => natK (Nat.add r 1) fun r => T.putK (some (.chan cap rest false s r)) id h fun h => finK (.tup [.int .i64 (.ofNat 0), .bool true, x]) top fun top => some (.go ⟨top, cs, h, nx, io⟩)) buf
      | _ => none)
    | _, _ => none)
  | .send2 c x e z => opdK c top.regs fun c => opdK x top.regs fun x => opdK e top.regs fun e => (match c, e, io, x with
    | .chan c, .chan e, .work c' e', .agg vs => if c = c' then (if e = e' then takeObs vs h fun obs h => finK (.tup [.int .i64 (.ofNat 0), .bool false, z]) top fun top => some (.sent (.agg vs, obs) ⟨top, cs, h, nx, .work c' e'⟩) else none) else none
    | _, _, _, _ => none)
  | .go f args => opdK f top.regs fun f => opdsK args top.regs fun args => (match f, args, io with
    | .fn (.func g) [] [], [s, .chan c, .chan e], .solo => if c = e then none else boolK (plainV s) (getOb c h fun oc => getOb e h fun oe => (match oc, oe with
      | .chan 0 [] false 0 0, .chan 0 [] false 0 0 => pK g fun g => gk.go g [s, .chan c, .chan e] nx fun ms nx' => boolK (Nat.ble nx.toNat nx'.toNat) (freshMs nx nx' ms .nil (T.putK none c h fun h => T.putK none e h fun h => finK (.tup []) top fun top => some (.go ⟨top, cs, h, nx', .duo c ms⟩))) none
      | _, _ => none)) none
    | _, _, _ => none)
  | .nextM it => opdK it top.regs fun v => iterK v h (finK (.tup [.bool false]) top fun top => some (.go ⟨top, cs, h, nx, io⟩)) fun id m since seen clk l => boolK (Nat.ble since clk) (match l with
      | [] => finK (.tup [.bool false]) top fun top => some (.go ⟨top, cs, h, nx, io⟩)
      | [e] => stepMK id m since clk seen e h fun v h => finK v top fun top => some (.go ⟨top, cs, h, nx, io⟩)
      | l => forkK id m since clk seen l h (fun v h k => finK v top fun top => k ⟨top, cs, h, nx, io⟩) fun l => some (.fork l)) none
end Go.Gb
end
section
/-! The evaluator: regions compiled; the step; runs. -/
set_option linter.unusedVariables false
namespace Go.Gb
variable {C : Type}
noncomputable def callIns (c : Call) (k : Opd → List Opd → O C) : O C := match c.callee with
  | .value f => oK f fun f => osK c.args.toList fun args => k f args
  | _ => none
noncomputable def selIns (E : Env) (cs : List SelectCase) (blocking : Bool) (k : Fx → O C) : O C :=
  match cs, blocking with
  | [⟨c, some x, t⟩], false => zeroVK E t fun _ => oK c fun c => oK x fun x => k (.send1 c x)
  | [⟨c, none, t⟩], false => oK c fun c => zeroVK E t fun z => k (.take1 c z)
  | [⟨c, some x, t⟩, ⟨e, none, t'⟩], true => zeroVK E t fun _ => oK c fun c => oK x fun x => oK e fun e => zeroVK E t' fun z => k (.send2 c x e z)
  | _, _ => none
noncomputable def compW (E : Env) (op : Op) (k : Wh → O C) : O C :=
  match op with
  | .call c => (match c.callee with
    | .value _ => callIns c fun f args => k (.f (.call f args))
    | .builtin .recover => k (.f .recov)
    | _ => compI E op fun i => k (.i i))
  | .go c => callIns c fun f args => k (.f (.go f args))
  | .defer c => (match c.callee with
    | .value _ => callIns c fun f args => k (.f (.defer f args))
    | .builtin .close => (match c.args.toList with
      | [x] => oK x fun x => k (.f (.close x))
      | _ => none)
    | _ => none)
  | .panic x => oK x fun x => k (.f (.panic x))
  | .recv t c ok => undK E t fun d => (match d with
    | .chan _ e => zeroVK E e fun z => oK c fun c => boolK ok (k (.f (.recv c z true))) (k (.f (.recv c z false)))
    | _ => none)
  | .select cs b => selIns E cs.toList b fun x => k (.f x)
  | .next it false => oK it fun it => k (.f (.nextM it))
  | op => compI E op fun i => k (.i i)
noncomputable def gK (ops : List Oper) (g : Option (Nat × Bool)) (k : Option (P × Bool) → O C) : O C :=
  match g with
  | none => k none
  | some (j, b) => optK (lnth ops j) none fun o => optK o.dst none fun d => pK d fun p => boolK b (k (some (p, true))) (k (some (p, false)))
noncomputable def dK (nt : Nat) (d : Option Nat) (k : Option P → O C) : O C :=
  match d with
  | none => k none
  | some d => boolK (Nat.blt d nt) (pK d fun p => k (some p)) none
noncomputable def compT (E : Env) (nt : Nat) (ops : List Oper) (o : Oper) (k : TOp → O C) : O C :=
  dK nt o.dst fun d => gK ops o.guard fun g => compW E o.op fun w => k ⟨d, g, w⟩
noncomputable def compTs (E : Env) (nt : Nat) (ops : List Oper) (l : List Oper) (k : List TOp → O C) : O C :=
  List.rec (motive := fun _ => (List TOp → O C) → O C) (fun k => k []) (fun o _ ih k => compT E nt ops o fun t => ih fun ts => k (t :: ts)) l k
noncomputable def compR (E : Env) (nt : Nat) (ops : Array Oper) : Option (List TOp) := compTs E nt ops.toList ops.toList some

noncomputable def itemK (E : Env) (it : AIt) (k : List AIt) (fn : P) (nt : Nat) (regs : Regs) (ds : List ATgt) (dfd : Bool) (rd : Option P) (cs : List Fr) (h : Heap) (nx : P) (io : AIo) (gk : GK) (plan : Nat → Array Oper → OR → (List DOp → OR) → OR) : OR :=
  match it with
  | .code a => (match a with
    | .skip => some (.go ⟨⟨fn, nt, regs, k, ds, .run, dfd, rd⟩, cs, h, nx, io⟩)
    | .label _ => some (.go ⟨⟨fn, nt, regs, k, ds, .run, dfd, rd⟩, cs, h, nx, io⟩)
    | .seq a b => some (.go ⟨⟨fn, nt, regs, .code a :: .code b :: k, ds, .run, dfd, rd⟩, cs, h, nx, io⟩)
    | .cond c a b => oK c fun c => opdK c regs fun v => tfK v (some (.go ⟨⟨fn, nt, regs, .code a :: k, ds, .run, dfd, rd⟩, cs, h, nx, io⟩)) (some (.go ⟨⟨fn, nt, regs, .code b :: k, ds, .run, dfd, rd⟩, cs, h, nx, io⟩))
    | .block id a => some (.go ⟨⟨fn, nt, regs, .code a :: .inBlock id :: k, ds, .run, dfd, rd⟩, cs, h, nx, io⟩)
    | .loop a => some (.go ⟨⟨fn, nt, regs, .code a :: .inLoop a :: k, ds, .run, dfd, rd⟩, cs, h, nx, io⟩)
    | .scope a => some (.go ⟨⟨fn, nt, regs, .code a :: .inScope a :: k, ds, .run, dfd, rd⟩, cs, h, nx, io⟩)
    | .exit id => exitK id k (leaveK (some (.exit id)) ⟨fn, nt, regs, it :: k, ds, .run, dfd, rd⟩ cs h nx io) fun k => some (.go ⟨⟨fn, nt, regs, k, ds, .run, dfd, rd⟩, cs, h, nx, io⟩)
    | .ret => leaveK (some .ret) ⟨fn, nt, regs, it :: k, ds, .run, dfd, rd⟩ cs h nx io
    | .region _ ops draw => boolK draw
        (plan nt ops none fun l => some (.go ⟨⟨fn, nt, regs, .dg ops l :: k, ds, .run, dfd, rd⟩, cs, h, nx, io⟩))
        (optK (compR E nt ops) none fun l => some (.go ⟨⟨fn, nt, regs, .rg ops l :: k, ds, .run, dfd, rd⟩, cs, h, nx, io⟩))
    | .rangeFunc f ps a b => (match rd with
      | none => oK f fun f => opdK f regs fun f => newOb (.dfr true) h nx fun dfr h nx => newOb (.lp .ready none fn nt regs ps a b dfr) h nx fun lp h nx =>
          callK E f [.yld lp] false ⟨fn, nt, regs, .inRF lp :: k, .coll dfr :: ds, .run, dfd, none⟩ cs h nx io
      | some _ => none)
    | _ => none)
  | .inBlock _ => some (.go ⟨⟨fn, nt, regs, k, ds, .run, dfd, rd⟩, cs, h, nx, io⟩)
  | .inScope _ => some (.go ⟨⟨fn, nt, regs, k, ds, .run, dfd, rd⟩, cs, h, nx, io⟩)
  | .inLoop a => some (.go ⟨⟨fn, nt, regs, .code a :: .inLoop a :: k, ds, .run, dfd, rd⟩, cs, h, nx, io⟩)
  | .begR => (match rd with
    | some l => getOb (C := Rs) l h fun o => match o with
      | .lp .ready p f nt' r ps a b d => T.putK (some (.lp .busy p f nt' r ps a b d)) l h fun h => some (.go ⟨⟨fn, nt, regs, k, ds, .run, dfd, rd⟩, cs, h, nx, io⟩)
      | _ => none
    | none => none)
  | .endRF l => getOb (C := Rs) l h fun o => (match o with
    | .lp .busy _ _ _ _ _ _ _ _ => none
    | .lp _ p f nt' r ps a b d => T.putK (some (.lp .exhausted p f nt' r ps a b d)) l h fun h => (match p with
        | none => some (.go ⟨⟨fn, nt, regs, k, ds, .run, dfd, rd⟩, cs, h, nx, io⟩)
        | some j => some (.go ⟨⟨fn, nt, regs, .code j :: k, ds, .run, dfd, rd⟩, cs, h, nx, io⟩))
    | _ => none)
  | .rg ops l => opsK l regs h nx (fun regs h nx => some (.go ⟨⟨fn, nt, regs, k, ds, .run, dfd, rd⟩, cs, h, nx, io⟩))
      (fun x l regs h nx => fxK E gk x ⟨fn, nt, regs, .rg ops l :: k, ds, .run, dfd, rd⟩ cs h nx io)
  | .dg ops l => dopsK l regs h nx (fun regs h nx => some (.go ⟨⟨fn, nt, regs, k, ds, .run, dfd, rd⟩, cs, h, nx, io⟩))
      (fun x l regs h nx => fxK E gk x ⟨fn, nt, regs, .dg ops l :: k, ds, .run, dfd, rd⟩ cs h nx io)
  | _ => none
noncomputable def step0 (E : Env) (gk : GK) (plan : Nat → Array Oper → OR → (List DOp → OR) → OR) (c : Cfg) : OR :=
  match c with
  | ⟨⟨fn, nt, regs, todo, ds, md, dfd, rd⟩, cs, h, nx, io⟩ => match md with
    | .run => (match todo with
      | [] => leaveK none ⟨fn, nt, regs, [], ds, .run, dfd, rd⟩ cs h nx io
      | it :: k => itemK E it k fn nt regs ds dfd rd cs h nx io gk plan)
    | md => unwindK E ⟨fn, nt, regs, todo, ds, md, dfd, rd⟩ cs h nx io
end Go.Gb
end
section
/-! The evaluator: regions whose order is drawn; runs. -/
set_option linter.unusedVariables false
namespace Go.Gb
def insOpds : Ins → List Opd
  | .mv x => [x] | .pick c a b => [c, a, b] | .alloc _ _ => [] | .box _ _ x => [x] | .build _ ps => ps.map (·.2.2) | .bslice _ _ _ ps => ps.map (·.2.2)
  | .load1 a => [a] | .loadN _ a => [a] | .gload _ => [] | .store _ a x => [a, x] | .nilchk x => [x] | .eqv _ _ x y => [x, y] | .bin _ x y => [x, y] | .un _ x => [x]
  | .convInt _ x => [x] | .convId x => [x] | .convS2B _ x => [x] | .convB2S x => [x] | .convI2S x => [x] | .mkifc _ x => [x] | .mkfn _ a b => a ++ b
  | .mkmap => [] | .mkchan c => [c] | .mkslice _ _ l c => [l, c] | .sliceS x lo hi => x :: (lo.toList ++ hi.toList) | .sliceV _ x lo hi => x :: (lo.toList ++ hi.toList) | .sliceA _ _ x lo hi => x :: (lo.toList ++ hi.toList)
  | .sliceW _ x lo hi => x :: (lo.toList ++ hi.toList) | .fadd _ x => [x] | .fld _ _ _ x => [x] | .ixaV _ x i => [x, i] | .ixaA _ _ x i => [x, i] | .idxS x i => [x, i] | .idxA _ _ _ x i => [x, i]
  | .lookup _ _ m k _ => [m, k] | .mapupd _ m k x => [m, k, x] | .mentry _ _ m k => [m, k] | .estore m s x => [m, s, x]
  | .rangeS x => [x] | .rangeM x => [x] | .nextS x => [x] | .nextM x => [x] | .entry x => [x] | .tassert x _ _ _ => [x] | .extract _ x => [x]
  | .lenS x => [x] | .lenV x => [x] | .lenM x => [x] | .capB x => [x] | .minB x y => [x, y] | .maxB x y => [x, y] | .append _ _ s x => [s, x] | .copyB _ d s => [d, s] | .clearB _ m => [m]
  | .usStr _ p n => [p, n] | .usData x => [x] | .toUns x => [x] | .ofUns _ _ x => [x]
def fxOpds : Fx → List Opd
  | .call f args => f :: args
  | .go f args => f :: args
  | .defer f args => f :: args
  | .close c => [c]
  | .panic x => [x]
  | .recov => []
  | .recv c _ _ => [c]
  | .send1 c x => [c, x]
  | .take1 c _ => [c]
  | .send2 c x e _ => [c, x, e]
  | .nextM it => [it]
def isStill : Ins → Bool
  | .mv _ | .pick _ _ _ | .build _ _ | .load1 _ | .loadN _ _ | .gload _ | .nilchk _ | .eqv _ _ _ _ | .bin _ _ _ | .un _ _ | .convInt _ _ | .mkifc _ _ | .mkfn _ _ _ | .sliceS _ _ _ | .sliceV _ _ _ _ | .sliceA _ _ _ _ _
  | .fadd _ _ | .fld _ _ _ _ | .ixaV _ _ _ | .ixaA _ _ _ _ | .idxS _ _ | .idxA _ _ _ _ _ | .lookup _ _ _ _ _ | .entry _ | .tassert _ _ _ _ | .extract _ _ | .lenS _ | .lenV _ | .lenM _ | .minB _ _ | .maxB _ _ | .usData _ | .toUns _ | .ofUns _ _ _ => true
  | _ => false
variable {C : Type}
/-- 0: it floats; 1: it makes; 2: it has an effect. -/
def kindOp (op : Op) (t : TOp) : Nat :=
  match op with
  | .alloc _ => 1 | .makeChan _ _ => 1 | .assign _ => 2
  | _ => match t.wh with
    | .f _ => 2
    | .i i => match isStill i with | true => 0 | false => 2
/-- In a drawn region a slice must not begin at the end of an open row. -/
def stillT {R : Type} (t : TOp) (k : TOp → R) : R := match t with
  | ⟨d, g, .i (.sliceW a b c e)⟩ => k ⟨d, g, .i (.sliceV a b c e)⟩
  | t => k t
noncomputable def nodesK (E : Env) (nt : Nat) (ops : List Oper) (bs : List Nat) (l : List Oper) : Nat → List Nat → (List Nd → O C) → O C :=
  List.rec (motive := fun _ => Nat → List Nat → (List Nd → O C) → O C) (fun _ _ k => k [])
    (fun o _ ih i bs k => List.rec (motive := fun _ => O C) none (fun b bs _ => compT E nt ops o fun t => stillT t fun t => natK b fun b => natK (kindOp o.op t) fun kd => natK i fun i => ih (Nat.succ i) bs fun ns => k (⟨i, b, kd, t⟩ :: ns)) bs) l
def bitM (i : Nat) (m : Nat) : Bool := Nat.beq (Nat.mod (Nat.div m (Nat.pow 2 i)) 2) 1
/-- The plan: behind each effect, what floats and stood behind it. -/
noncomputable def floatsK (ns : List Nd) (done : Nat) (eff : Nat) (k : List DOp → Nat → O C) : O C :=
  List.rec (motive := fun _ => Nat → (List DOp → Nat → O C) → O C) (fun done k => k [] done)
    (fun n _ ih done k => boolK (Nat.beq n.kd 2 || bitM n.i done) (ih done k)
      (boolK (Nat.beq (Nat.land n.pr (Nat.sub eff (Nat.land eff done))) 0)
        (natK (Nat.lor done (Nat.pow 2 n.i)) fun done => ih done fun l done => boolK (Nat.beq n.kd 1) (k (.mk n :: l) done) (k (.fl n :: l) done)) (ih done k))) ns done k
noncomputable def effMask (ns : List Nd) : Nat := List.rec (motive := fun _ => Nat) 0 (fun n _ ih => boolK (Nat.beq n.kd 2) (Nat.lor (Nat.pow 2 n.i) ih) ih) ns
/-- only what has been computed and may be pending -/
noncomputable def syncNow (ns : List Nd) (done gone : Nat) (k : List Nd → O C) : O C :=
  List.rec (motive := fun _ => (List Nd → O C) → O C) (fun k => k [])
    (fun n _ ih k => boolK (Nat.beq n.kd 2 || (bitM n.i gone || !(bitM n.i done))) (ih k) (ih fun l => k (n :: l))) ns k
noncomputable def stagesK (ns : List Nd) (eff : Nat) (es : List Nd) : Nat → Nat → (List DOp → O C) → O C :=
  List.rec (motive := fun _ => Nat → Nat → (List DOp → O C) → O C)
    (fun done gone k => floatsK ns done eff fun fl done => syncNow ns done gone fun sy => lappK fl [.sync sy] k)
    (fun e _ ih done gone k => floatsK ns done eff fun fl done => syncNow ns done gone fun sy =>
      natK (Nat.lor done (Nat.pow 2 e.i)) fun done => natK (Nat.lor gone e.pr) fun gone => ih done gone fun rest => lappK fl (.sync sy :: .ef e :: rest) k) es
noncomputable def effsK (ns : List Nd) (k : List Nd → O C) : O C := List.rec (motive := fun _ => (List Nd → O C) → O C) (fun k => k []) (fun n _ ih k => ih fun l => boolK (Nat.beq n.kd 2) (k (n :: l)) (k l)) ns k
/-! Is the plan sound? -/
def pbeq : P → P → Bool
  | .z, .z => true | .o p, .o q => pbeq p q | .e p, .e q => pbeq p q | _, _ => false
def opdIs (d : P) : Opd → Bool | .r p => pbeq p d | .c _ => false
noncomputable def anyL {α : Type} (f : α → Bool) (l : List α) : Bool := List.rec (motive := fun _ => Bool) false (fun x _ ih => boolK (f x) true ih) l
noncomputable def allL {α : Type} (f : α → Bool) (l : List α) : Bool := List.rec (motive := fun _ => Bool) true (fun x _ ih => boolK (f x) ih false) l
/-- It uses the temporary d. -/
noncomputable def usesB (t : TOp) (d : P) : Bool :=
  boolK (match t.g with | some (p, _) => pbeq p d | none => false) true (anyL (opdIs d) (match t.wh with | .i i => insOpds i | .f x => fxOpds x))
def setsB (t : TOp) (d : P) : Bool := match t.dst with | some p => pbeq p d | none => false
/-- Nobody else sets what n sets; who uses it stands behind n. -/
noncomputable def sepB (ns : List Nd) (n : Nd) : Bool := match n.t.dst with
  | none => true
  | some d => allL (fun m => boolK (Nat.beq m.i n.i) (boolK (usesB m.t d) false true) (boolK (setsB m.t d) false (boolK (usesB m.t d) (bitM n.i m.pr) true))) ns
noncomputable def idxB (l : List DOp) : List Nd := List.rec (motive := fun _ => List Nd) [] (fun x _ ih => match x with | .fl n => n :: ih | .mk n => n :: ih | .ef n => n :: ih | .sync _ => ih) l
noncomputable def nextB (l : List DOp) : List Nd := List.rec (motive := fun _ => List Nd) [] (fun x _ ih => match x with | .fl _ => ih | .mk _ => ih | .ef _ => [] | .sync s => s) l
noncomputable def hasB (i : Nat) (l : List Nd) : Bool := anyL (fun m => Nat.beq m.i i) l
def noEfB : List DOp → Bool | .ef _ :: _ => false | _ => true
noncomputable def planB (l : List DOp) : Bool :=
  List.rec (motive := fun _ => Bool) true (fun x l ih => match x with
    | .fl n => boolK (hasB n.i (nextB l)) (boolK (hasB n.i (idxB l)) false ih) false
    | .mk n => boolK (hasB n.i (nextB l)) (boolK (hasB n.i (idxB l)) false ih) false
    | .ef n => boolK (allL (fun m => bitM n.i m.pr) (idxB l)) (boolK (noEfB l) (boolK (hasB n.i (idxB l)) false ih) false) false
    | .sync s => match l with
      | .ef n :: l' => boolK (allL (fun m => boolK (bitM m.i n.pr) true (hasB m.i (nextB l'))) s) ih false
      | [] => ih
      | _ => false) l
def gcOnlyB (e : Edge) : Bool := match e.ground with | .gcOnly _ => true | _ => false
def textOnlyB (e : Edge) : Bool := match e.ground with | .textOnly _ => true | _ => false
noncomputable def edgesB (l : List Oper) : Nat → Bool := List.rec (motive := fun _ => Nat → Bool) (fun _ => true) (fun o _ ih i => boolK (allL (fun e => boolK (Nat.blt e.on i) true (gcOnlyB e)) o.after.toList) (natK (Nat.succ i) ih) false) l
/-- Does an edge depart from the text's order? -/
noncomputable def departB (l : List Oper) : Bool := anyL (fun o => anyL gcOnlyB o.after.toList) l
/-- All that stands ahead has come. -/
noncomputable def freeB (o : Oper) (done : Nat) : Bool := allL (fun e => boolK (textOnlyB e) true (bitM e.on done)) o.after.toList
noncomputable def passK (l : List Oper) : Nat → Nat → (Nat → Bool) → Bool :=
  List.rec (motive := fun _ => Nat → Nat → (Nat → Bool) → Bool) (fun _ done k => k done) (fun o _ ih i done k => boolK (freeB o done) (natK (Nat.lor done (Nat.pow 2 i)) fun done => natK (Nat.succ i) fun i => ih i done k) (natK (Nat.succ i) fun i => ih i done k)) l
noncomputable def fullB (l : List Oper) : Nat → Nat → Bool := List.rec (motive := fun _ => Nat → Nat → Bool) (fun _ _ => true) (fun _ _ ih i done => boolK (bitM i done) (natK (Nat.succ i) fun i => ih i done) false) l
noncomputable def acycB (l : List Oper) : Bool := passK l 0 0 fun d => passK l 0 d fun d => passK l 0 d fun d => passK l 0 d fun d => fullB l 0 d
noncomputable def ordB (l : List Oper) : Bool := boolK (edgesB l 0) (boolK (departB l) (acycB l) true) false
noncomputable def coverB (ns : List Nd) (l : List DOp) : Bool := allL (fun n => hasB n.i (idxB l)) ns
/-- What stands ahead of an operation, as bits; M: the bits of those before it, W each. -/
noncomputable def edK (W M : Nat) (es : List Edge) : Nat → (Nat → O C) → O C :=
  List.rec (motive := fun _ => Nat → (Nat → O C) → O C) (fun s k => k s)
    (fun e _ ih s k => boolK (gcOnlyB e) (ih s k) (boolK (textOnlyB e) (ih s k) (natK e.on fun on => natK (Nat.lor (Nat.lor s (Nat.pow 2 on)) (Nat.mod (Nat.div M (Nat.pow 2 (Nat.mul W on))) (Nat.pow 2 W))) fun s => ih s k))) es
noncomputable def befK (W : Nat) (l : List Oper) : Nat → Nat → (List Nat → O C) → O C :=
  List.rec (motive := fun _ => Nat → Nat → (List Nat → O C) → O C) (fun _ _ k => k [])
    (fun o _ ih i M k => edK W M o.after.toList 0 fun s => natK (Nat.lor M (Nat.mul (Nat.mod s (Nat.pow 2 W)) (Nat.pow 2 (Nat.mul W i)))) fun M => natK (Nat.succ i) fun i => ih i M fun bs => k (s :: bs)) l
/-- Who sets what: 0 for an effect, else the operation's number and one. -/
noncomputable def setK (ns : List Nd) : T Nat → (T Nat → Bool) → Bool :=
  List.rec (motive := fun _ => T Nat → (T Nat → Bool) → Bool) (fun t k => k t)
    (fun n _ ih t k => Option.rec (motive := fun _ => Bool) (ih t k) (fun d => Option.rec (motive := fun _ => Bool)
      (boolK (Nat.beq n.kd 2) (T.putK (some 0) d t fun t => ih t k) (natK (Nat.succ n.i) fun j => T.putK (some j) d t fun t => ih t k))
      (fun x => boolK (Nat.beq n.kd 2 && Nat.beq x 0) (ih t k) false) (T.get d t)) n.t.dst) ns
/-- A temporary that n uses: nobody sets it, an effect does, or one that stands ahead. -/
noncomputable def use1 (t : T Nat) (n : Nd) (p : P) : Bool := Option.rec (motive := fun _ => Bool) true (fun x => Nat.rec (motive := fun _ => Bool) true (fun i _ => boolK (Nat.beq i n.i) false (bitM i n.pr)) x) (T.get p t)
noncomputable def use2 (t : T Nat) (n : Nd) (x : Opd) : Bool := Opd.rec (motive := fun _ => Bool) (use1 t n) (fun _ => true) x
noncomputable def useT (t : T Nat) (n : Nd) : Bool := boolK (match n.t.g with | some (p, _) => use1 t n p | none => true) (allL (use2 t n) (match n.t.wh with | .i i => insOpds i | .f x => fxOpds x)) false
noncomputable def sepT (ns : List Nd) : Bool := setK ns .nil fun t => allL (useT t) ns
noncomputable def planK (E : Env) (nt : Nat) (ops : Array Oper) : Option (List DOp) :=
  natK (llen ops.toList 0) fun W => befK W ops.toList 0 0 fun bs => nodesK E nt ops.toList bs ops.toList 0 bs fun ns => effsK ns fun es => natK (effMask ns) fun eff => stagesK ns eff es 0 0 fun l =>
    boolK (ordB ops.toList) (boolK (sepT ns) (boolK (planB l) (boolK (coverB ns l) (boolK (noEfB l) (some l) none) none) none) none) none
noncomputable def plan1 (E : Env) : Nat → Array Oper → OR → (List DOp → OR) → OR := fun nt ops no k => optK (planK E nt ops) no k

/-! runs -/
noncomputable def iterS (st : Cfg → OR) (n : Nat) : Cfg → OR :=
  Nat.rec (motive := fun _ => Cfg → OR) st (fun _ ih c => optK (ih c) none fun r => match r with | .go c => ih c | r => some r) n
noncomputable def noGk : GK := ⟨fun _ _ _ _ => none, fun _ _ _ _ no _ => no⟩
/-- What a call hands back: its slices' rows are one's own, under new numbers. -/
noncomputable def handK (v : V) : Heap → P → (V → List (P × Ob) → Heap → P → OR) → OR :=
  V.rec (motive_1 := fun _ => Heap → P → (V → List (P × Ob) → Heap → P → OR) → OR) (motive_2 := fun _ => Heap → P → (List V → List (P × Ob) → Heap → P → OR) → OR)
    (fun kd n h nx k => k (.int kd n) [] h nx)
    (fun b h nx k => k (.bool b) [] h nx)
    (fun n N h nx k => k (.str n N) [] h nx)
    (fun _ _ _ _ _ => none)
    (fun h nx k => k .nilp [] h nx)
    (fun id off len cap h nx k => optK (T.get id h) none fun o => match o with
      | .row cs el room opn fz => boolK (allPlain cs) (T.putK none id h fun h => succK nx fun nx' => k (.sl nx off len cap) [(nx, .row cs el room opn fz)] h nx') none
      | _ => none)
    (fun h nx k => k .nils [] h nx)
    (fun _ _ _ _ => none)
    (fun _ _ _ => none)
    (fun _ _ _ _ => none)
    (fun _ _ _ => none)
    (fun _ _ _ _ _ _ _ _ => none)
    (fun _ _ _ _ => none)
    (fun _ _ _ => none)
    (fun _ _ _ _ _ _ => none)
    (fun h nx k => k .nili [] h nx)
    (fun _ ih h nx k => ih h nx fun cs => k (.agg cs))
    (fun _ ih h nx k => ih h nx fun cs => k (.tup cs))
    (fun _ _ _ _ => none)
    (fun _ _ _ _ _ _ => none)
    (fun h nx k => k [] [] h nx)
    (fun _ _ ihv ihs h nx k => ihv h nx fun v o1 h nx => ihs h nx fun vs o2 h nx => lappK o1 o2 fun obs => k (v :: vs) obs h nx) v
/-- A call followed apart, from its entry to its answer. -/
noncomputable def runS (E : Env) (st : Cfg → OR) (n : Nat) (g : P) (args : List V) (no : OR) (k : V → Heap → OR) : OR :=
  optK (T.get g E.funs) none fun f => (match f.body with
    | some b => boolK (Nat.ble (llen args 0) f.ntmps) (natK f.ntmps fun nt => argsK args .z .nil fun regs =>
        optK (iterS st n ⟨⟨g, nt, regs, [.code b], [], .run, false, none⟩, [], .nil, .z, .off⟩) no fun r => match r with
          | .done v ⟨⟨_, _, _, _, _, _, dfd, _⟩, _, h, _, .off⟩ => boolK dfd no (k v h)
          | _ => no) none
    | none => none)
/-- A call whose arguments are plain: its run hangs on nothing else. -/
noncomputable def runP (E : Env) (st : Cfg → OR) (n : Nat) (g : P) (args : List V) (no : OR) (k : V → Heap → OR) : OR := boolK (allPlain args) (runS E st n g args no k) no
/-- Every key of the map is as wished. -/
noncomputable def eachK (E : Env) (st : Cfg → OR) (n : Nat) (g : P) (es : List (V × V × Nat)) (k : OR) : OR :=
  List.rec (motive := fun _ => OR) k (fun e _ ih => runP E st n g [e.1] none fun v _ => match v with | .bool true => ih | _ => none) es
noncomputable def handT (v : V) (h : Heap) : OR := handK v h .z fun v _ _ _ => some (.done v ⟨⟨.z, 0, .nil, [], [], .run, false, none⟩, [], .nil, .z, .off⟩)
noncomputable def subs (E : Env) (tbl : List (Cfg → OR)) (stb : Nat → Cfg → OR) (n : Nat) : P → List V → Heap → P → OR → (V → Heap → P → OR) → OR := fun g args h nx no k => optK (T.get g E.exts) no fun x => match x with
  | .sub l => optK (lnth tbl l) no fun st => runP E st n g args no fun v h2 => optK (handT v h2) no fun _ => handK v h2 nx fun v obs _ nx => addObs obs h fun h => k v h nx
  | .sub2 => (match args with
    | [_, .str m _] => runP E (stb (Nat.mul 3 m)) n g args none fun v _ => runP E (stb (Nat.succ (Nat.mul 3 m))) n g args none fun v' _ => boolK (vsame v v') (boolK (plainV v) (k v h nx) none) none
    | _ => none)
  | .each l => (match args with
    | [.map id, .fn (.func w) [] []] => optK (lnth tbl l) no fun st => pK w fun w => getOb (C := Rs) id h fun o => match o with
      | .map es clk => boolK (allL (fun e => Nat.blt e.2.2 clk) es) (optK (T.get nx h) (eachK E st n w es (succK nx fun nx => k (.bool true) h nx)) fun _ => none) none
      | _ => none
    | _ => no)
  | _ => no
noncomputable def subGk (E : Env) (tbl : List (Cfg → OR)) (stb : Nat → Cfg → OR) (n : Nat) : GK := ⟨fun _ _ _ _ => none, subs E tbl stb n⟩
/-- A worker: from message to message, to its end. -/
noncomputable def workB (st : Cfg → OR) (f : Nat) : Cfg → (List M → P → OR) → OR :=
  Nat.rec (motive := fun _ => Cfg → (List M → P → OR) → OR) (fun _ _ => none) (fun _ ih c k => optK (st c) none fun r => match r with
    | .sent m c => ih c fun ms nx => k (m :: ms) nx
    | .fin ⟨_, _, _, nx, _⟩ => k [] nx
    | _ => none) f
/-- a worker, from its birth to its end -/
noncomputable def work (E : Env) (st : Cfg → OR) (n : Nat) : P → List V → P → (List M → P → OR) → OR := fun g args nx k => match args with
  | [_, .chan c, .chan e] => optK (T.get g E.funs) none fun f => (match f.body with
    | some b => natK f.ntmps fun nt => boolK (Nat.ble (llen args 0) nt) (argsK args .z .nil fun regs => workB (iterS st n) 4096 ⟨⟨g, nt, regs, [.code b], [], .run, true, none⟩, [], .nil, nx, .work c e⟩ k) none
    | none => none)
  | _ => none
noncomputable def bindL (f : Cfg → O (List Cfg)) (l : List Cfg) : O (List Cfg) :=
  List.rec (motive := fun _ => O (List Cfg)) (some []) (fun c t ih => match t with
    | [] => f c
    | _ => optK (f c) none fun a => optK ih none fun b => lappK a b some) l
noncomputable def goodV (v : V) : Bool := match v with | .bool true => true | _ => false
/-- the states behind one step; a run that has ended well has none -/
noncomputable def next1 (g0 : P) (st : Cfg → OR) (c : Cfg) : O (List Cfg) := optK (st c) none fun r => match r with
  | .go c => some [c]
  | .fork l => some l
  | .done v ⟨⟨fn, _, _, _, _, _, _, _⟩, _, _, _, .solo⟩ => boolK (goodV v) (boolK (pbeq fn g0) (some []) none) none
  | _ => none
noncomputable def iterB (g0 : P) (st : Cfg → OR) (n : Nat) : Cfg → O (List Cfg) :=
  Nat.rec (motive := fun _ => Cfg → O (List Cfg)) (next1 g0 st) (fun _ ih c => optK (ih c) none fun l => bindL ih l) n
/-- lists as tries -/
noncomputable def ofLK {α R : Type} (l : List α) (i : P) (t : T α) (k : T α → R) : R :=
  List.rec (motive := fun _ => P → T α → R) (fun _ t => k t) (fun x _ ih i t => T.putK (some x) i t fun t => P.rec (motive := fun _ => (P → R) → R) (fun k => k (.o .z)) (fun p _ k => k (.e p)) (fun _ ih k => ih fun q => k (.o q)) i fun i => ih i t) l i t
end Go.Gb
end
