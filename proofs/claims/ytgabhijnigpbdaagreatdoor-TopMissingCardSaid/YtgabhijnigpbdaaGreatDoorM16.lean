/- A part of the proof of the statement Rows.TopMissingCardSaid (at every argument the law returns true on every schedule, and its argument reads as before; the listed variables as laid). This text: a stepper over symbolic states of the translated program and its soundness, part 16 of 41. -/
import Derived.Test.YtgabhijnigpbdaaGreatDoorM15
section
/-! Each operation that ends at once is told truly: all of them. -/
set_option linter.unusedSimpArgs false
set_option linter.unusedVariables false
set_option linter.unusedSectionVars false
namespace Go.Gb
open Go.Conc
section
variable {C : Type} {E : Env} {P : Program} {N0 : Nat} {mla : Addr} {ml : Gl} {k : Ins → O C} {r : C}
theorem one_list {α : Type} {xs : Array α} {x : α} (h : xs.toList = [x]) : xs = #[x] := by cases xs; simp at h; rw [h]
theorem two_list {α : Type} {xs : Array α} {x y : α} (h : xs.toList = [x, y]) : xs = #[x, y] := by cases xs; simp at h; rw [h]
theorem builtIns_snd (hE : EnvOk P E mla ml) {c : Call} {b : Builtin} (hc : c.callee = .builtin b) (e : builtIns E b c.argTypes.toList c.args.toList k = some r) : ∃ i, SndOp P N0 mla ml (.call c) i ∧ k i = some r := by
  generalize hts : c.argTypes.toList = ts at e
  generalize hxs : c.args.toList = xs at e
  have h0 : ∀ t l, ts = t :: l → c.argTypes[0]? = some t := by
    intro t l h
    rw [h] at hts
    have := congrArg (fun l => l[0]?) hts
    simpa using this
  have h1 : ∀ t u l, ts = t :: u :: l → c.argTypes[1]? = some u := by
    intro t u l h
    rw [h] at hts
    have := congrArg (fun l => l[1]?) hts
    simpa using this
  unfold builtIns at e
  split at e
  · -- len
    rename_i t x
    have ha := one_list hxs
    obtain ⟨d, hd, e⟩ := undK_inv hE.tys e
    obtain ⟨x', hx, e⟩ := oK_inv e
    cases d <;> (try simp only [reduceCtorEq] at e)
    · exact ⟨.lenS x', fun H hr ho e => snd_lenS H hr hx hc ha (one_list hts) hd ho e, e⟩
    · exact ⟨.lenV x', fun H hr ho e => snd_lenV H hr hx hc ha (one_list hts) hd ho e, e⟩
    · exact ⟨_, fun H hr ho e => snd_lenM H hr hx hc ha (h0 _ _ rfl) hd ho e, e⟩
  · -- min
    have ha := two_list hxs
    obtain ⟨x', hx, e⟩ := oK_inv e
    obtain ⟨y', hy, e⟩ := oK_inv e
    exact ⟨_, fun H hr ho e => snd_min H hr hx hy hc ha ho e, e⟩
  · have ha := two_list hxs
    obtain ⟨x', hx, e⟩ := oK_inv e
    obtain ⟨y', hy, e⟩ := oK_inv e
    exact ⟨_, fun H hr ho e => snd_max H hr hx hy hc ha ho e, e⟩
  · -- append
    rename_i t xt l x y
    have ha := two_list hxs
    obtain ⟨d, hd, e⟩ := undK_inv hE.tys e
    cases d <;> (try simp only [reduceCtorEq] at e)
    rename_i el
    obtain ⟨xd, hxd, e⟩ := undK_inv hE.tys e
    by_cases hi : ∃ kd, xd = .int kd
    · obtain ⟨kd, rfl⟩ := hi; cases e
    · have e : (natK el fun e => zeroK E e fun zs => infoK E e fun i => natK i.size fun s => boolK (Nat.beq (llen zs 0) s && (Nat.blt 0 s && Nat.ble i.bytes 1048576)) (oK x fun x => oK y fun y => k (.append e s x y)) none) = some r := by
        cases xd <;> first | exact e | exact absurd ⟨_, rfl⟩ hi
      rw [natK_eq] at e
      obtain ⟨i, z, zs, hi2, hz, hzs, ho1, e⟩ := zeroK_inv hE.tys e
      obtain ⟨ei, he, e⟩ := infoK_inv hE.tys e
      rw [hi2] at he; cases he
      rw [natK_eq] at e
      obtain ⟨hc2, e⟩ := boolK_inv e
      simp only [Bool.and_eq_true] at hc2
      have c1 := Nat.eq_of_beq_eq_true hc2.1
      have c2 : 0 < i.size := Nat.le_of_ble_eq_true hc2.2.1
      have c3 : i.bytes ≤ 1048576 := Nat.le_of_ble_eq_true hc2.2.2
      rw [llen_eq, Nat.zero_add, (hzs ml (fun _ => none)).length] at c1
      obtain ⟨x', hx, e⟩ := oK_inv e
      obtain ⟨y', hy, e⟩ := oK_inv e
      exact ⟨_, fun H hr ho e => snd_append H hr hx hy hc ha (h0 _ _ rfl) (h1 _ _ _ rfl) hd hxd (fun kd h => hi ⟨kd, h⟩) hi2 hz (by simpa using c1) (by omega) c3 (hE.cz _ _ hi2) ho e, e⟩
  · -- clear
    have ha := one_list hxs
    obtain ⟨d, hd, e⟩ := undK_inv hE.tys e
    cases d <;> (try simp only [reduceCtorEq] at e)
    obtain ⟨i, z, zs, hi2, hz, hzs, ho1, e⟩ := zeroK_inv hE.tys e
    obtain ⟨x', hx, e⟩ := oK_inv e
    exact ⟨_, fun H hr ho e => snd_clear H hr hx hc ha (h0 _ _ rfl) hd hi2 hz (hzs ml) ho1 ho e, e⟩
  · -- unsafe.String
    have ha := two_list hxs
    obtain ⟨d, hd, e⟩ := undK_inv hE.tys e
    cases d <;> (try simp only [reduceCtorEq] at e)
    rw [natK_eq] at e
    obtain ⟨i, hi2, e⟩ := sizeK_inv hE.tys e
    obtain ⟨hs, e⟩ := boolK_inv e
    obtain ⟨x', hx, e⟩ := oK_inv e
    obtain ⟨y', hy, e⟩ := oK_inv e
    exact ⟨_, fun H hr ho e => snd_usStr H hr hx hy hc ha (h0 _ _ rfl) hd hi2 (Nat.eq_of_beq_eq_true hs) ho e, e⟩
  · have ha := one_list hxs
    obtain ⟨x', hx, e⟩ := oK_inv e
    exact ⟨_, fun H hr ho e => snd_usData H hr hx hc ha ho e, e⟩
  · cases e
theorem compI_snd (hE : EnvOk P E mla ml) (op : Op) (e : compI E op k = some r) : ∃ i, SndOp P N0 mla ml op i ∧ k i = some r := by
  cases op <;> (try simp only [compI, reduceCtorEq] at e)
  case move x => obtain ⟨x', hx, e⟩ := oK_inv e; exact ⟨_, fun H hr ho e => snd_mv H hr hx (.inl ho) e, e⟩
  case assign x => obtain ⟨x', hx, e⟩ := oK_inv e; exact ⟨_, fun H hr ho e => snd_mv H hr hx (.inr ho) e, e⟩
  case pick c x y =>
    obtain ⟨c', hc, e⟩ := oK_inv e
    obtain ⟨x', hx, e⟩ := oK_inv e
    obtain ⟨y', hy, e⟩ := oK_inv e
    exact ⟨_, fun H hr ho e => snd_pick H hr hc hx hy ho e, e⟩
  case alloc t =>
    rw [natK_eq] at e
    obtain ⟨i, z, zs, hi, hz, hzs, h1, e⟩ := zeroK_inv hE.tys e
    exact ⟨_, fun H hr ho e => snd_alloc H hi hz (hzs ml) h1 ho e, e⟩
  case box t x =>
    rw [natK_eq] at e
    obtain ⟨i, hi, e⟩ := sizeK_inv hE.tys e
    obtain ⟨x', hx, e⟩ := oK_inv e
    exact ⟨_, fun H hr ho e => snd_box H hr hx ho e, e⟩
  case build t qs => exact buildIns_snd hE e
  case buildSlice t n qs => exact bsliceIns_snd hE e
  case insert t m x y =>
    obtain ⟨c, kt, el, ht, hc, e⟩ := mapIns_inv hE e
    obtain ⟨m', hm, e⟩ := oK_inv e
    obtain ⟨x', hx, e⟩ := oK_inv e
    obtain ⟨y', hy, e⟩ := oK_inv e
    exact ⟨_, fun H hr ho e => snd_mapupd H hr hm hx hy ht hc (.inr ho) e, e⟩
  case load t x => exact loadIns_snd hE e
  case store t x y =>
    obtain ⟨i, hi, e⟩ := sizeK_inv hE.tys e
    obtain ⟨x', hx, e⟩ := oK_inv e
    obtain ⟨y', hy, e⟩ := oK_inv e
    exact ⟨_, fun H hr ho e => snd_store H hr hx hy hi ho e, e⟩
  case nilCheck x => obtain ⟨x', hx, e⟩ := oK_inv e; exact ⟨_, fun H hr ho e => snd_nilchk H hr hx ho e, e⟩
  case binOp op t x y yt =>
    by_cases h1 : op = .eql
    · subst h1; exact eqIns_snd hE (neg := false) e
    by_cases h2 : op = .neq
    · subst h2; exact eqIns_snd hE (neg := true) e
    have e : (oK x fun x => oK y fun y => k (.bin op x y)) = some r := by
      cases op <;> first | exact e | exact absurd rfl h1 | exact absurd rfl h2
    obtain ⟨x', hx, e⟩ := oK_inv e
    obtain ⟨y', hy, e⟩ := oK_inv e
    exact ⟨_, fun H hr ho e => snd_bin H hr hx hy ho e, e⟩
  case unOp op t x =>
    cases op <;> (try simp only [reduceCtorEq] at e)
    obtain ⟨x', hx, e⟩ := oK_inv e
    exact ⟨_, fun H hr ho e => snd_not H hr hx ho e, e⟩
  case convert s d x => exact convIns_snd hE e
  case makeInterface t x =>
    obtain ⟨d, hd, e⟩ := undK_inv hE.tys e
    by_cases hi : ∃ m, d = .interface m
    · obtain ⟨m, rfl⟩ := hi; cases e
    · have e : (natK t fun t => oK x fun x => k (.mkifc t x)) = some r := by
        cases d <;> first | exact e | exact absurd ⟨_, rfl⟩ hi
      rw [natK_eq] at e
      obtain ⟨x', hx, e⟩ := oK_inv e
      exact ⟨_, fun H hr ho e => snd_mkifc H hr hx hd (fun m h => hi ⟨m, h⟩) ho e, e⟩
  case makeFunc f xs ys =>
    cases f <;> (try simp only [reduceCtorEq] at e)
    rw [natK_eq] at e
    obtain ⟨xs', hx1, hx2, e⟩ := osK_inv _ e
    obtain ⟨ys', hy1, hy2, e⟩ := osK_inv _ e
    exact ⟨_, fun H hr ho e => snd_mkfn H hr (by simp) ⟨by simpa using hx1, hx2⟩ ⟨by simpa using hy1, hy2⟩ ho e, e⟩
  case makeMap t rs =>
    cases rs <;> (try simp only [reduceCtorEq] at e)
    exact ⟨_, fun H hr ho e => snd_mkmap H hr ho e, e⟩
  case makeChan t c => exact mkchanIns_snd hE e
  case makeSlice t l c => exact mksliceIns_snd hE e
  case slice t x lo hi mx =>
    cases mx <;> (try simp only [reduceCtorEq] at e)
    exact sliceIns_snd hE e
  case fieldAddr t x i => exact (fieldIns_snd hE).1 e
  case field t x i => exact (fieldIns_snd hE).2 e
  case indexAddr t x i => exact (ixIns_snd hE).1 e
  case index t x i => exact (ixIns_snd hE).2 e
  case lookup t m x ok =>
    obtain ⟨c, kt, el, ht, hc, e⟩ := mapIns_inv hE e
    obtain ⟨i, z, zv, h1, h2, h3, e⟩ := zeroVK_inv hE.tys e
    obtain ⟨m', hm, e⟩ := oK_inv e
    obtain ⟨x', hx, e⟩ := oK_inv e
    cases ok
    · exact ⟨_, fun H hr ho e => snd_lookup H hr hm hx ht hc h1 h2 (h3 ml) ho e, e⟩
    · exact ⟨_, fun H hr ho e => snd_lookup H hr hm hx ht hc h1 h2 (h3 ml) ho e, e⟩
  case mapUpdate t m x y =>
    obtain ⟨c, kt, el, ht, hc, e⟩ := mapIns_inv hE e
    obtain ⟨m', hm, e⟩ := oK_inv e
    obtain ⟨x', hx, e⟩ := oK_inv e
    obtain ⟨y', hy, e⟩ := oK_inv e
    exact ⟨_, fun H hr ho e => snd_mapupd H hr hm hx hy ht hc (.inl ho) e, e⟩
  case mapEntry t m x =>
    obtain ⟨c, kt, el, ht, hc, e⟩ := mapIns_inv hE e
    obtain ⟨i, z, zv, h1, h2, h3, e⟩ := zeroVK_inv hE.tys e
    obtain ⟨m', hm, e⟩ := oK_inv e
    obtain ⟨x', hx, e⟩ := oK_inv e
    exact ⟨_, fun H hr ho e => snd_mentry H hr hm hx ht hc h1 h2 (h3 ml) ho e, e⟩
  case entryStore t m s y =>
    obtain ⟨m', hm, e⟩ := oK_inv e
    obtain ⟨s', hs, e⟩ := oK_inv e
    obtain ⟨y', hy, e⟩ := oK_inv e
    exact ⟨_, fun H hr ho e => snd_estore H hr hm hs hy ho e, e⟩
  case range t x => exact rangeIns_snd hE e
  case next it b =>
    obtain ⟨x', hx, e⟩ := oK_inv e
    cases b
    · exact ⟨_, fun H hr ho e => snd_nextM H hr hx ho e, e⟩
    · exact ⟨_, fun H hr ho e => snd_nextS H hr hx ho e, e⟩
  case entry it => obtain ⟨x', hx, e⟩ := oK_inv e; exact ⟨_, fun H hr ho e => snd_entry H hr hx ho e, e⟩
  case typeAssert x xt t ok => exact assertIns_snd hE e
  case extract x i =>
    rw [natK_eq] at e
    obtain ⟨x', hx, e⟩ := oK_inv e
    exact ⟨_, fun H hr ho e => snd_extract H hr hx ho e, e⟩
  case call c =>
    generalize hcal : c.callee = cal at e
    cases cal <;> (try simp only [reduceCtorEq] at e)
    exact builtIns_snd hE hcal e
end
end Go.Gb
end
section
/-! The evaluator: frames, calls, the step. -/
set_option linter.unusedVariables false
namespace Go.Gb
/-- Operations that turn frames, or meet others. -/
inductive Fx where
  | call (f : Opd) (args : List Opd) | go (f : Opd) (args : List Opd) | defer (f : Opd) (args : List Opd) | close (c : Opd)
  | panic (x : Opd) | recov | recv (c : Opd) (z : V) (ok : Bool) | send1 (c x : Opd) | take1 (c : Opd) (z : V) | send2 (c x e : Opd) (z : V) | nextM (it : Opd)
  deriving Inhabited
inductive Wh where | i (i : Ins) | f (x : Fx)
  deriving Inhabited
structure TOp where
  dst : Option P
  g : Option (P × Bool)
  wh : Wh
  deriving Inhabited
/-- An operation of a region whose order is drawn: its number, what stands ahead of it in every order, its kind (0: it floats; 1: it makes; 2: it has an effect). -/
structure Nd where
  i : Nat
  pr : Nat
  kd : Nat
  t : TOp
  deriving Inhabited
/-- In a region whose order is drawn: a step of the plan. -/
inductive DOp where
  | fl (n : Nd)
  | mk (n : Nd)
  | ef (n : Nd)
  | sync (l : List Nd)
  deriving Inhabited
inductive AIt where
  | code (a : Code) | inBlock (id : Nat) | inLoop (a : Code) | inScope (a : Code) | rg (ops : Array Oper) (l : List TOp) | dg (ops : Array Oper) (l : List DOp)
  | inRF (l : P) | endRF (l : P) | begR
  deriving Inhabited
structure PE where
  v : V
  recovered : Bool
  deriving Inhabited
inductive Md where | run | returning | panicking (chain : List PE)
  deriving Inhabited
structure Fr where
  fn : P
  nt : Nat
  regs : Regs
  todo : List AIt
  defers : List ATgt
  md : Md
  dfd : Bool
  round : Option P
  deriving Inhabited
abbrev M := V × List (P × Ob)
inductive AIo where | solo | duo (c : P) (ms : List M) | work (c e : P) | off
  deriving Inhabited
structure Cfg where
  top : Fr
  cs : List Fr
  h : Heap
  nx : P
  io : AIo
  deriving Inhabited
inductive Rs where | go (c : Cfg) | fork (l : List Cfg) | done (v : V) (c : Cfg) | fin (c : Cfg) | sent (m : M) (c : Cfg)
  deriving Inhabited
abbrev OR := Option Rs
/-- What is followed apart: a worker, to its end; a call, to its answer ('no': it is not followed apart). -/
structure GK where
  go : P → List V → P → (List M → P → OR) → OR
  sub : P → List V → Heap → P → OR → (V → Heap → P → OR) → OR

/-- The value of the operation in hand is laid at its place. -/
noncomputable def finK (v : V) (fr : Fr) (k : Fr → OR) : OR :=
  match fr with
  | ⟨fn, nt, regs, todo, ds, md, dfd, rd⟩ => match todo with
    | .rg ops (o :: l) :: it => (match o.dst with
        | some d => T.putK (some v) d regs fun regs => k ⟨fn, nt, regs, .rg ops l :: it, ds, md, dfd, rd⟩
        | none => k ⟨fn, nt, regs, .rg ops l :: it, ds, md, dfd, rd⟩)
    | .dg ops (.ef n :: l) :: it => (match n.t.dst with
        | some d => T.putK (some v) d regs fun regs => k ⟨fn, nt, regs, .dg ops l :: it, ds, md, dfd, rd⟩
        | none => k ⟨fn, nt, regs, .dg ops l :: it, ds, md, dfd, rd⟩)
    | .inRF l :: it => k ⟨fn, nt, regs, .endRF l :: it, ds, md, dfd, rd⟩
    | _ => none
noncomputable def putsK (ps : List Nat) (vs : List V) (nt : Nat) (regs : Regs) (k : Regs → OR) : OR :=
  List.rec (motive := fun _ => List V → Regs → OR) (fun vs regs => List.rec (motive := fun _ => OR) (k regs) (fun _ _ _ => none) vs)
    (fun p _ ih vs regs => List.rec (motive := fun _ => OR) none (fun v vt _ => boolK (Nat.blt p nt) (pK p fun p => T.putK (some v) p regs fun regs => ih vt regs) none) vs) ps vs regs
noncomputable def argsK (vs : List V) (i : P) (regs : Regs) (k : Regs → OR) : OR :=
  List.rec (motive := fun _ => P → Regs → OR) (fun _ regs => k regs) (fun v _ ih i regs => T.putK (some v) i regs fun regs => succK i fun i => ih i regs) vs i regs
/-- the place of the first piece that is M, m bytes long -/
noncomputable def sindex (m M : Nat) (n : Nat) : Nat → Nat → Option Nat :=
  Nat.rec (motive := fun _ => Nat → Nat → Option Nat) (fun _ _ => none)
   (fun n ih N i => boolK (Nat.ble m (Nat.succ n)) (boolK (Nat.beq (low m N) M) (natK i some) (natK (Nat.div N 256) fun N => natK (Nat.add i 1) fun i => ih N i)) none) n
noncomputable def extK (big : Nat) (f : EF) (args : List V) (k : V → OR) : OR :=
  match f, args with
  | .index2, [.str n N, .str m M] => boolK (Nat.beq (Nat.mod big 3) 1) (boolK (Nat.ble m (Nat.div big 3)) (boolK (Nat.ble 2 m) (boolK (Nat.ble n 1048576)
      (natK (low m M) fun M => Option.rec (motive := fun _ => OR) (k (.int .i64 (.negSucc 0))) (fun i => k (.int .i64 (.ofNat i))) (sindex m M n N 0)) none) none) none) none
  | .indexByte, [.str n N, .int .u8 (.ofNat c)] => boolK (Nat.blt c 256) (Option.rec (motive := fun _ => OR) (k (.int .i64 (.negSucc 0))) (fun i => k (.int .i64 (.ofNat i))) (sfind c n N 0)) none
  | .countStr, [.str n N, .int .u8 (.ofNat c)] => boolK (Nat.blt c 256) (natK (scount c n N 0) fun m => k (.int .i64 (.ofNat m))) none
  | .cmpStr, [.str n N, .str m M] => boolK (sless n N m M) (k (.int .i64 (.negSucc 0))) (boolK (sless m M n N) (k (.int .i64 (.ofNat 1))) (k (.int .i64 (.ofNat 0))))
  | .noEscape, [x] => k x
  | _, _ => none
noncomputable def enterK (E : Env) (g : P) (args : List V) (dfd : Bool) (top : Fr) (cs : List Fr) (h : Heap) (nx : P) (io : AIo) : OR :=
  optK (T.get g E.funs) none fun f => match f.body with
  | some b => boolK (Nat.ble (llen args 0) f.ntmps) (natK f.ntmps fun nt => argsK args .z .nil fun regs => some (.go ⟨⟨g, nt, regs, [.code b], [], .run, dfd, none⟩, top :: cs, h, nx, io⟩)) none
  | none => boolK dfd none (optK (T.get g E.exts) none fun f => extK E.big f args fun v => finK v top fun top => some (.go ⟨top, cs, h, nx, io⟩))
noncomputable def callK (E : Env) (f : V) (args : List V) (dfd : Bool) (top : Fr) (cs : List Fr) (h : Heap) (nx : P) (io : AIo) : OR :=
  match f with
  | .yld l => boolK dfd none (getOb (C := Rs) l h fun o => match o with
    | .lp _ _ fn nt regs ps a b _ => putsK ps.toList args nt regs fun regs => some (.go ⟨⟨fn, nt, regs, [.code a, .begR, .code b], [], .run, false, some l⟩, top :: cs, h, nx, io⟩)
    | _ => none)
  | .fn (.func g) first caps => lappK first args fun a => lappK a caps fun a => pK g fun g => enterK E g a dfd top cs h nx io
  | _ => none
noncomputable def exitK (id : Nat) (l : List AIt) (no : OR) (k : List AIt → OR) : OR :=
  List.rec (motive := fun _ => OR) no (fun i t ih => match i with | .inBlock j => boolK (Nat.beq j id) (k t) ih | _ => ih) l
/-- A frame that has come to its end hands v back. -/
noncomputable def returnK (v : V) (top : Fr) (cs : List Fr) (h : Heap) (nx : P) (io : AIo) : OR :=
  List.rec (motive := fun _ => OR) (some (.done v ⟨top, [], h, nx, io⟩)) (fun caller rest _ =>
    boolK top.dfd
      (match caller with | ⟨fn, nt, regs, todo, ds, md, dfd, rd⟩ => match md with
        | .panicking (⟨_, true⟩ :: _) => some (.go ⟨⟨fn, nt, regs, todo, ds, .returning, dfd, rd⟩, rest, h, nx, io⟩)
        | .panicking _ => none
        | md => some (.go ⟨⟨fn, nt, regs, todo, ds, md, dfd, rd⟩, rest, h, nx, io⟩))
      (finK v caller fun caller => some (.go ⟨caller, rest, h, nx, io⟩))) cs
noncomputable def resK (E : Env) (rs : List ResultVar) (regs : Regs) (h : Heap) (k : List V → OR) : OR :=
  List.rec (motive := fun _ => (List V → OR) → OR) (fun k => k []) (fun r _ ih k => match r with
    | .tmp t => pK t fun p => opdK (.r p) regs fun v => ih fun vs => k (v :: vs)
    | .cell a t => pK a fun p => opdK (.r p) regs fun v => ptrK v fun id off => undK E t fun d => sizeK E t fun n => aggK d
        (readK id off n h fun cs => ih fun vs => k (.agg cs :: vs))
        (readK id off 1 h fun cs => lhead cs none fun v => ih fun vs => k (v :: vs))) rs k
noncomputable def tupK (l : List V) (k : V → OR) : OR := match l with | [v] => k v | vs => k (.tup vs)
noncomputable def leaveK (jump : Option Code) (top : Fr) (cs : List Fr) (h : Heap) (nx : P) (io : AIo) : OR :=
  match top with
  | ⟨fn, nt, regs, todo, ds, _, dfd, rd⟩ => match rd with
    | none => (match jump with
      | none => some (.go ⟨⟨fn, nt, regs, todo, ds, .returning, dfd, none⟩, cs, h, nx, io⟩)
      | some .ret => some (.go ⟨⟨fn, nt, regs, todo, ds, .returning, dfd, none⟩, cs, h, nx, io⟩)
      | _ => none)
    | some l => getOb (C := Rs) l h fun o => match o with
      | .lp _ _ f nt' r ps a b d => List.rec (motive := fun _ => OR) none (fun caller rest _ => boolK dfd none (match jump with
        | none => T.putK (some (.lp .ready none f nt' r ps a b d)) l h fun h => finK (.bool true) caller fun caller => some (.go ⟨caller, rest, h, nx, io⟩)
        | some j => T.putK (some (.lp .done (some j) f nt' r ps a b d)) l h fun h => finK (.bool false) caller fun caller => some (.go ⟨caller, rest, h, nx, io⟩))) cs
      | _ => none
noncomputable def unwindK (E : Env) (top : Fr) (cs : List Fr) (h : Heap) (nx : P) (io : AIo) : OR :=
  match top with
  | ⟨fn, nt, regs, todo, ds, md, dfd, rd⟩ => match ds with
    | .coll id :: ds => getOb (C := Rs) id h fun o => match o with
      | .dfr true => T.putK (some (.dfr false)) id h fun h => some (.go ⟨⟨fn, nt, regs, todo, ds, md, dfd, rd⟩, cs, h, nx, io⟩)
      | _ => none
    | .close c :: ds => (match ds, cs, io, md with
      | [], [], .work c' _, .returning => if c = c' then (boolK dfd (optK (T.get fn E.funs) none fun f => match f.results.toList with
          | [] => some (.fin ⟨⟨fn, nt, regs, todo, [.close c], md, dfd, rd⟩, cs, h, nx, io⟩)
          | _ => none) none) else none
      | _, _, _, _ => none)
    | .fn f args :: ds => enterK E f args true ⟨fn, nt, regs, todo, ds, md, dfd, rd⟩ cs h nx io
    | [] => match todo with
      | .dg _ _ :: _ => none
      | todo => match md with
      | .run => none
      | .returning => (match rd with
        | some _ => none
        | none => optK (T.get fn E.funs) none fun f => resK E f.results.toList regs h fun vs => tupK vs fun v => returnK v ⟨fn, nt, regs, todo, [], md, dfd, none⟩ cs h nx io)
      | .panicking chain => List.rec (motive := fun _ => OR) none (fun caller rest _ => match caller with
          | ⟨fn, nt, regs, todo, ds, md, dfd, rd⟩ => match md with
            | .panicking _ => none
            | _ => some (.go ⟨⟨fn, nt, regs, todo, ds, .panicking chain, dfd, rd⟩, rest, h, nx, io⟩)) cs
end Go.Gb
end
