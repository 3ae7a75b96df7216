/- A part of the proof of the statement Rows.TopMissingCardSaid (at every argument the law returns true on every schedule, and its argument reads as before; the listed variables as laid). This text: the theorem itself. -/
import Derived.Test.YtgabhijnigpbdaaGreatDoorRTmRun0
import Derived.Test.YtgabhijnigpbdaaGreatDoorRTmRun1
import Derived.Test.YtgabhijnigpbdaaGreatDoorRTmRun2
import Derived.Test.YtgabhijnigpbdaaGreatDoorRTmRun3
import Derived.Test.YtgabhijnigpbdaaGreatDoorRTmRun4
import Derived.Test.YtgabhijnigpbdaaGreatDoorRTmRowE
import Derived.Test.YtgabhijnigpbdaaGreatDoorRTmRowD
import Derived.Test.YtgabhijnigpbdaaGreatDoorTie
import Derived.Test.YtgabhijnigpbdaaGreatDoorCards
import Derived.ChangeSame
import Derived.ChangeVars
import Derived.JoinedOf
import Derived.RowKit
import Derived.RowKitTokens
import Derived.LaidLaws
import Derived.LaidHandle
import Derived.LaidMore
import Derived.Lay
import Derived.OpenShut
import Derived.Stop.Joined
import Derived.SevenTiedAt
/-! The row, the card. -/
namespace Go.Proofs.YtgabhijnigpbdaaGreatDoor
open Go Go.Gb Go.Conc Go.ChangeShapes Go.WideShapes Go.ChangeAt Go.RowKit
set_option maxRecDepth 100000
theorem own : ownKnob Tryz.prog.godebug = none := by kernel_rfl
theorem maxLen0 : ((begin Tryz.prog (fun _ _ => 0) default).world.heap[0]?).bind Obj.row? = some (#[.int .i64 0], 3) := by kernel_rfl
/-- The law's run at each argument. -/
theorem run_ends {W : World} (hs : W.ShapedOpen Tryz.prog) {a : Int} (wa : (Lit.int .u8 a).wf = true) :
    ∃ n last o w' t', runNT Tryz.prog (n + 1) (Conc.solo (Conc.G (Frame.enter Tryz.prog 3 #[.int .u8 a] .normal) []) W) #[] = (.ended o w', t') ∧ runN Tryz.prog n (Conc.solo (Conc.G (Frame.enter Tryz.prog 3 #[.int .u8 a] .normal) []) W) = .next last ∧ step Tryz.prog last = .ended o w' ∧ Conc.Good Tryz.prog (PostT W) last o w' t' := by
  obtain ⟨m, hm⟩ := cell_of_shapedOpen_int (g := 0) (t := 3) (k := .i64) hs (of_decide_eq_true (by kernel_rfl)) maxLen0 rfl (by kernel_rfl) (by kernel_rfl) Tryz.underlying3
  have h0 : 0 < W.heap.size := by
    unfold World.cell? at hm
    cases hh : W.heap[0]? with
    | none => simp [hh] at hm
    | some o => exact (Array.getElem?_eq_some_iff.1 hh).1
  have hb : 0 ≤ a ∧ a < 256 := by
    simp [Lit.wf, IntKind.min, IntKind.max, IntKind.signed, IntKind.bits] at wa
    omega
  obtain ⟨k, rfl⟩ : ∃ k : Nat, a = Int.ofNat k := ⟨a.toNat, by show a = (a.toNat : Int); omega⟩
  have hk : k < 256 := by have h : (k : Int) < 256 := hb.2; omega
  have hv : ∀ r, k % 5 = r → ∀ σ, VRL (glOf Tryz.prog m k) σ [.par .u8 5 r] (#[.int .u8 (Int.ofNat k)] : Array Value).toList := fun r hr σ => ⟨⟨rfl, rfl, hk, hr⟩, trivial⟩
  have hregs : ∀ r p v, T.get p (.node .nil (some (V.par .u8 5 r)) .nil) = some v → ∃ j, p.toNat = j ∧ [V.par .u8 5 r][j]? = some v := by
    intro r p v hp
    cases p with
    | z => cases hp; exact ⟨0, rfl, rfl⟩
    | o p => rw [show T.get (.o p) (.node .nil (some (V.par .u8 5 r)) .nil) = T.get p .nil from rfl, T.get_nil] at hp; cases hp
    | e p => rw [show T.get (.e p) (.node .nil (some (V.par .u8 5 r)) .nil) = T.get p .nil from rfl, T.get_nil] at hp; cases hp
  have go := fun (r : Nat) (hr : k % 5 = r) (hrun : goAll Tryz.prog.types.toList Tryz.prog.funcs.toList (flatsL Tryz.prog) marks (.o (.o .z)) (.node .nil (some (.par .u8 5 r)) .nil) 64 17 9 4 17 = some []) =>
    goAll_ends facts each_fits (g0 := .o (.o .z)) (fd := Tryz.f3) Tryz.func3 (t := 2) (by kernel_rfl) (by kernel_rfl) hrun h0 hm (hv r hr) (by show 1 ≤ Tryz.f3.ntmps; exact of_decide_eq_true (by kernel_rfl)) (hregs r)
  have h5 : k % 5 < 5 := Nat.mod_lt _ (by omega)
  generalize hr : k % 5 = r at h5
  match r, h5 with
  | 0, _ => exact go 0 hr run0
  | 1, _ => exact go 1 hr run1
  | 2, _ => exact go 2 hr run2
  | 3, _ => exact go 3 hr run3
  | 4, _ => exact go 4 hr run4

/-- A world that meets the condition. -/
theorem met (os : Os) (args : Array Value) : laidMetH Tryz.prog Rows.topMissingRow.laid ((World.laidAll Tryz.prog os Rows.topMissingRow.laid).forCall (fun _ _ => 0) ⟨#[], args, []⟩).memory := by
  rw [MakeChecks.laidMetH_plain _ _ _ (by kernel_rfl)]
  exact laidMet_laidAll args (by kernel_rfl) (by kernel_rfl)
theorem lifted (os : Os) (started : os.Started) (H : Type) (enc : TypeId × Value → H) :
    ReturnsInLeavingWide {} Tryz.checked os 3 .any (fun w args => (Rows.topMissingSpec.pre enc Tryz.prog Tryz.f3 [] false w args ∧ laidMetH Tryz.prog Rows.topMissingRow.laid w) ∧ sizedMet enc Tryz.prog Tryz.f3 (OpenSpec.ofChange Rows.topMissingSpec) false w args)
      (Rows.topMissingSpec.post enc Tryz.prog Tryz.f3 false true false false) := by
  refine leaving_of_runs (C := Tryz.checked) (X := fun w _ => laidMetH Tryz.prog Rows.topMissingRow.laid w) own started Tryz.func3
    (ChangeSpec.witness_shaped (enc := enc) (C := Tryz.checked) (os := os) (X := fun w _ => laidMetH Tryz.prog Rows.topMissingRow.laid w) false (World.laidAll Tryz.prog os Rows.topMissingRow.laid) #[.int .u8 0] 8 (World.laidAll_os _ _ _) (World.shaped_of_RefB (by kernel_rfl) (by kernel_rfl)) (by kernel_rfl) (by kernel_rfl) (by kernel_rfl) (met os _)) ?_
  intro W base args ds gs before hval0 hW hsh
  have hval : ∀ (j : Nat) t v, Tryz.f3.params[j]? = some t → args[j]? = some v → Value.okWide Tryz.prog W .any base t v := hval0
  have hW' := hW
  obtain ⟨p, q, hA0, hV, rfl, _, _⟩ := hW
  have hA : DataW.TrodAll enc Tryz.prog W 0 (fun _ => true) true Tryz.f3.params.toList args.toList ds p := hA0
  rw [Tryz.params3] at hA hval
  obtain ⟨v0, d0, rfl, rfl, h0⟩ := trodAll_one hA
  obtain ⟨rfl, rfl⟩ := trodVars_none hV
  obtain ⟨a, rfl, rfl, rfl, wa⟩ := open_int Tryz.underlying5 (hval 0 5 v0 rfl rfl) h0
  clear hA0 hval0
  simp only [List.append_nil] at hW'
  obtain ⟨M, last, o, w', t', r1, r2, r3, r4⟩ := run_ends hsh wa
  refine ⟨M, last, o, w', t', r1, r2, r3, r4.mono fun v hF => ?_⟩
  obtain ⟨rfl, hk⟩ : v = .bool true ∧ Kept W.heap.size W w' := hF
  exact ⟨_, _, _, [], _, [], hW', trodAll_mk1 (shut_bool Tryz.underlying4 _), trodAll_mk1 (shut_int Tryz.underlying5 wa), rfl, hk.but _, fun h => by cases h⟩
theorem row_holds : Rows.TopMissingSaid :=
  OpenClaim.holds_of_wide_leaving 3 Tryz.f3 rfl rfl rfl rfl rfl rfl rfl ⟨rfl, rfl, rfl, rfl, rfl⟩ rfl rfl rfl rfl rfl rowFunc Tryz.func3 closedFacts fInstance fWrapper
    (fun os started H enc _ => lifted os started H enc)
theorem fLooks : true = Tryz.prog.looks [] := by kernel_rfl
theorem fStandIn : Tryz.prog.wantsStandIn 5 = false := by kernel_rfl
theorem fMain : Tryz.prog.mainIs = some (true, "55ee348cd667c4a120d45aa09f0cd8b5962f9cc2cc035dcfeb720bbe294a5254".toList) := by kernel_rfl
theorem fWfText : Rows.topMissingRow.wfByText (OpenSpec.ofChange Rows.topMissingSpec) = true := by kernel_rfl
theorem new_of {p : Pinned} {s : OpenSpec} {c : OpenClaim} (har : Bool × String) (lk : Bool)
    (hc : c.holds p s) (hst : c.start = .entering) (hnb : c.noBlocks = false ∧ c.again = false) (hm : p.checked.prog.mainIs = some (har.1, har.2.toList)) (hn : (!har.1 && har.2.isEmpty && !lk) = false)
    (hl : ∀ f fn, p.checked.prog.funcNamed c.func = some f → p.checked.prog.funcs[f]? = some fn → lk = p.checked.prog.looks [] ∧ ∀ (j : Nat) t, fn.params[j]? = some t → p.checked.prog.wantsStandIn t = false) :
    Claim7.holdsNew p (.plain s) { stood := { row := c, standIns := [], harness := har, looks := lk }, kinds := [] } :=
  Claim7.new_of_sixth hc har lk hst hnb hm (by simpa [Claim7.isSixth] using hn) hl
/-- THE CARD. -/
theorem card_holds : Rows.TopMissingCardSaid :=
  ⟨Claim7.tied_new_at .later [.data, .data, .data, .data, .sentinel, .sentinel, .pinned] true (new_of (true, "55ee348cd667c4a120d45aa09f0cd8b5962f9cc2cc035dcfeb720bbe294a5254") true row_holds rfl ⟨rfl, rfl⟩ fMain rfl (fun f fn hf hfn => by
      obtain rfl : f = 3 := Option.some.inj (rowFunc.symm.trans hf) |>.symm
      obtain rfl : fn = Tryz.f3 := (Option.some.inj (Tryz.func3.symm.trans hfn)).symm
      exact ⟨fLooks, fun j t ht => by
        rw [Tryz.params3] at ht
        have h3 : t = 5 := by
          rcases j with _ | j
          · simpa using ht.symm
          · simp at ht
        subst h3
        exact fStandIn⟩)) fWfText, (fun _ h => by cases h), topMissing_row_tie, (fun h => by cases h), cardGoes⟩
#print axioms card_holds
end Go.Proofs.YtgabhijnigpbdaaGreatDoor
