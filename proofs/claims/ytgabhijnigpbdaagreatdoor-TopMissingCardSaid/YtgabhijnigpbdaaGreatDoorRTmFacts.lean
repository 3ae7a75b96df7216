/- A part of the proof of the statement Rows.TopMissingCardSaid (at every argument the law returns true on every schedule, and its argument reads as before; the listed variables as laid). This text: a part of the run of the program, or closed facts of it. -/
import Derived.Test.YtgabhijnigpbdaaGreatDoorRows
import Derived.Test.YtgabhijnigpbdaaGreatDoorM41
/-! The program's closed facts. -/
namespace Go.Proofs.YtgabhijnigpbdaaGreatDoor
open Go Go.Gb
set_option maxRecDepth 100000
def marks : List (Nat × EF) := [(221, .noEscape), (261, .indexByte), (291, .countStr), (366, .cmpStr), (346, .index2), (289, .sub2), (49, .each 7), (14, .sub 6), (22, .sub 3), (28, .sub 1), (39, .sub 5), (46, .sub 5), (47, .sub 0), (50, .sub 2), (53, .sub 7), (54, .sub 6), (56, .sub 4), (65, .sub 2), (66, .sub 6), (68, .sub 1), (71, .sub 0), (72, .sub 2), (76, .sub 1), (77, .sub 0), (98, .sub 1), (103, .sub 2), (105, .sub 1), (107, .sub 2), (108, .sub 1), (109, .sub 6), (111, .sub 6), (112, .sub 6), (115, .sub 0), (116, .sub 0), (119, .sub 1), (122, .sub 1), (123, .sub 2), (126, .sub 1), (143, .sub 0), (147, .sub 2), (156, .sub 6), (160, .sub 0), (163, .sub 3), (165, .sub 0), (166, .sub 0), (167, .sub 5), (168, .sub 3), (169, .sub 2), (177, .sub 6), (195, .sub 0), (196, .sub 0), (203, .sub 1), (206, .sub 0), (208, .sub 5), (209, .sub 7), (222, .sub 1), (228, .sub 1), (229, .sub 5), (232, .sub 2), (233, .sub 3), (235, .sub 2), (238, .sub 1), (240, .sub 3), (243, .sub 4), (246, .sub 7), (266, .sub 1), (269, .sub 4), (270, .sub 4), (274, .sub 3), (286, .sub 0), (292, .sub 2), (294, .sub 0), (295, .sub 1), (297, .sub 0), (305, .sub 3), (306, .sub 3), (319, .sub 0), (325, .sub 0), (327, .sub 2), (349, .sub 0), (354, .sub 0), (356, .sub 2), (357, .sub 0), (369, .sub 1), (380, .sub 2), (398, .sub 0), (399, .sub 4), (400, .sub 3), (418, .sub 0), (420, .sub 1), (421, .sub 0), (423, .sub 0)]
def codeL : Code → Code | .seq a _ => a | .block _ a => a | .loop a => a | .cond _ a _ => a | a => a
def codeR : Code → Code | .seq _ b => b | a => a
def opsOf : Code → Array Oper | .region _ o _ => o | _ => #[]
noncomputable def eachB : Code := Tryz.f49.body.getD .skip
noncomputable def eachLoop : Code := codeL (codeL (codeR (codeL (codeR eachB))))
noncomputable def o0 : Array Oper := opsOf (codeL eachB)
noncomputable def o1 : Array Oper := opsOf (codeL (codeL (codeR eachB)))
noncomputable def o2 : Array Oper := opsOf (codeL eachLoop)
noncomputable def o3 : Array Oper := opsOf (codeL (codeL (codeR (codeR eachLoop))))
noncomputable def o4 : Array Oper := opsOf (codeL (codeR (codeL (codeR (codeR eachLoop)))))
noncomputable def o6 : Array Oper := opsOf (codeL (codeR (codeR eachB)))
noncomputable def xx : Code := codeL (codeR (codeR (codeL (codeR (codeR eachLoop)))))
theorem each_code : eachB = (Code.region 0 o0 false).seq (((Code.region 1 o1 false).seq (Code.block 0 ((Code.region 2 o2 false).seq ((Code.cond (.tmp 9) .skip (.exit 0)).seq (Code.block 1 ((Code.region 3 o3 false).seq ((Code.region 4 o4 false).seq (Code.cond (.tmp 15) xx .skip)))))).loop)).seq ((Code.region 6 o6 false).seq .ret)) := by kernel_rfl
theorem comp_of {o : Array Oper} {l : List TOp} (h : ∀ funs exts fl, optK (R := Option (List TOp)) (ofLK Tryz.prog.types.toList .z .nil some) none (fun tys => compR ⟨tys, funs, exts, fl, 0, 2⟩ 16 o) = some l) {tys : T TypeInfo} (ht : ofLK Tryz.prog.types.toList .z .nil some = some tys) (funs : T Func) (exts : T EF) (fl : T Bool) : compR ⟨tys, funs, exts, fl, 0, 2⟩ 16 o = some l := by
  have := h funs exts fl
  rw [ht] at this
  exact this
theorem each_fits : EachFits Tryz.prog marks := by
  intro g l hm
  have hg : g = 49 := by
    simp [marks] at hm
    exact hm.1
  subst hg
  refine ⟨Tryz.f49, eachB, o0, o1, o2, o3, o4, o6, Tryz.func49, fun tys ht funs exts fl => ⟨by kernel_rfl, by kernel_rfl, by kernel_rfl, ⟨0, 1, 2, 3, 4, 6, xx, each_code⟩, comp_of (fun _ _ _ => by kernel_rfl) ht funs exts fl, comp_of (fun _ _ _ => by kernel_rfl) ht funs exts fl, comp_of (fun _ _ _ => by kernel_rfl) ht funs exts fl, comp_of (fun _ _ _ => by kernel_rfl) ht funs exts fl, comp_of (fun _ _ _ => by kernel_rfl) ht funs exts fl, comp_of (fun _ _ _ => by kernel_rfl) ht funs exts fl, fun k => rfl⟩⟩
theorem facts : Facts Tryz.prog marks where
  names := by kernel_rfl
  maxlen := by kernel_rfl
  marks := by
    intro x hx
    simp only [Go.Proofs.YtgabhijnigpbdaaGreatDoor.marks, List.mem_cons, List.not_mem_nil, or_false] at hx
    repeat' (rcases hx with rfl | hx)
    all_goals first
      | exact trivial
      | exact ⟨_, Tryz.func221, by kernel_rfl, by kernel_rfl⟩
      | exact ⟨_, Tryz.func261, by kernel_rfl, by kernel_rfl⟩
      | exact ⟨_, Tryz.func291, by kernel_rfl, by kernel_rfl⟩
      | exact ⟨_, Tryz.func366, by kernel_rfl, by kernel_rfl⟩
      | exact ⟨_, Tryz.func346, by kernel_rfl, by kernel_rfl⟩
      | (subst hx; exact trivial)
end Go.Proofs.YtgabhijnigpbdaaGreatDoor
