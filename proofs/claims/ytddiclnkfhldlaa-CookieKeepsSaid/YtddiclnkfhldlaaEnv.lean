/-
  The tables of the program's functions and types for the interpreter (printed by genenv.py).
  Conditions: none.
-/
import Derived.Test.YtddiclnkfhldlaaAbsFn
import Derived.KernelRfl
import Derived.Test.YtddiclnkfhldlaaProg
namespace Go.Proofs.Ytddiclnkfhldlaa
namespace Ab
set_option linter.unusedVariables false
def mkTI (i u : TypeInfo) (ok : Bool) : TI := { size := i.size, bytes := i.bytes, zero := (match i.zero with | some z => z.cells.toList.map cellOf | none => []), desc := u.desc, eqok := ok }
set_option maxRecDepth 10000
noncomputable def fnTab : Bst Func := (.node 50 Try.f50 (.node 26 Try.f26 (.node 14 Try.f14 (.node 8 Try.f8 (.node 5 Try.f5 (.node 3 Try.f3 (.node 2 Try.f2 .leaf .leaf) (.node 4 Try.f4 .leaf .leaf)) (.node 7 Try.f7 (.node 6 Try.f6 .leaf .leaf) .leaf)) (.node 11 Try.f11 (.node 10 Try.f10 (.node 9 Try.f9 .leaf .leaf) .leaf) (.node 13 Try.f13 (.node 12 Try.f12 .leaf .leaf) .leaf))) (.node 20 Try.f20 (.node 17 Try.f17 (.node 16 Try.f16 (.node 15 Try.f15 .leaf .leaf) .leaf) (.node 19 Try.f19 (.node 18 Try.f18 .leaf .leaf) .leaf)) (.node 23 Try.f23 (.node 22 Try.f22 (.node 21 Try.f21 .leaf .leaf) .leaf) (.node 25 Try.f25 (.node 24 Try.f24 .leaf .leaf) .leaf)))) (.node 38 Try.f38 (.node 32 Try.f32 (.node 29 Try.f29 (.node 28 Try.f28 (.node 27 Try.f27 .leaf .leaf) .leaf) (.node 31 Try.f31 (.node 30 Try.f30 .leaf .leaf) .leaf)) (.node 35 Try.f35 (.node 34 Try.f34 (.node 33 Try.f33 .leaf .leaf) .leaf) (.node 37 Try.f37 (.node 36 Try.f36 .leaf .leaf) .leaf))) (.node 44 Try.f44 (.node 41 Try.f41 (.node 40 Try.f40 (.node 39 Try.f39 .leaf .leaf) .leaf) (.node 43 Try.f43 (.node 42 Try.f42 .leaf .leaf) .leaf)) (.node 47 Try.f47 (.node 46 Try.f46 (.node 45 Try.f45 .leaf .leaf) .leaf) (.node 49 Try.f49 (.node 48 Try.f48 .leaf .leaf) .leaf))))) (.node 75 Try.f75 (.node 63 Try.f63 (.node 57 Try.f57 (.node 54 Try.f54 (.node 52 Try.f52 (.node 51 Try.f51 .leaf .leaf) (.node 53 Try.f53 .leaf .leaf)) (.node 56 Try.f56 (.node 55 Try.f55 .leaf .leaf) .leaf)) (.node 60 Try.f60 (.node 59 Try.f59 (.node 58 Try.f58 .leaf .leaf) .leaf) (.node 62 Try.f62 (.node 61 Try.f61 .leaf .leaf) .leaf))) (.node 69 Try.f69 (.node 66 Try.f66 (.node 65 Try.f65 (.node 64 Try.f64 .leaf .leaf) .leaf) (.node 68 Try.f68 (.node 67 Try.f67 .leaf .leaf) .leaf)) (.node 72 Try.f72 (.node 71 Try.f71 (.node 70 Try.f70 .leaf .leaf) .leaf) (.node 74 Try.f74 (.node 73 Try.f73 .leaf .leaf) .leaf)))) (.node 87 Try.f87 (.node 81 Try.f81 (.node 78 Try.f78 (.node 77 Try.f77 (.node 76 Try.f76 .leaf .leaf) .leaf) (.node 80 Try.f80 (.node 79 Try.f79 .leaf .leaf) .leaf)) (.node 84 Try.f84 (.node 83 Try.f83 (.node 82 Try.f82 .leaf .leaf) .leaf) (.node 86 Try.f86 (.node 85 Try.f85 .leaf .leaf) .leaf))) (.node 93 Try.f93 (.node 90 Try.f90 (.node 89 Try.f89 (.node 88 Try.f88 .leaf .leaf) .leaf) (.node 92 Try.f92 (.node 91 Try.f91 .leaf .leaf) .leaf)) (.node 96 Try.f96 (.node 95 Try.f95 (.node 94 Try.f94 .leaf .leaf) .leaf) (.node 98 Try.f98 (.node 97 Try.f97 .leaf .leaf) .leaf))))))
noncomputable def tyTab : Bst TI := (.node 79 (mkTI Try.t79 Try.t79 true) (.node 39 (mkTI Try.t39 Try.t39 true) (.node 19 (mkTI Try.t19 Try.t18 false) (.node 10 (mkTI Try.t10 Try.t9 true) (.node 5 (mkTI Try.t5 Try.t5 true) (.node 3 (mkTI Try.t3 Try.t3 true) (.node 2 (mkTI Try.t2 Try.t2 true) (.node 1 (mkTI Try.t1 Try.t1 true) .leaf .leaf) .leaf) (.node 4 (mkTI Try.t4 Try.t4 true) .leaf .leaf)) (.node 8 (mkTI Try.t8 Try.t7 true) (.node 7 (mkTI Try.t7 Try.t7 true) (.node 6 (mkTI Try.t6 Try.t5 true) .leaf .leaf) .leaf) (.node 9 (mkTI Try.t9 Try.t9 true) .leaf .leaf))) (.node 15 (mkTI Try.t15 Try.t15 true) (.node 13 (mkTI Try.t13 Try.t13 false) (.node 12 (mkTI Try.t12 Try.t12 true) (.node 11 (mkTI Try.t11 Try.t9 true) .leaf .leaf) .leaf) (.node 14 (mkTI Try.t14 Try.t13 false) .leaf .leaf)) (.node 17 (mkTI Try.t17 Try.t17 true) (.node 16 (mkTI Try.t16 Try.t16 true) .leaf .leaf) (.node 18 (mkTI Try.t18 Try.t18 false) .leaf .leaf)))) (.node 29 (mkTI Try.t29 Try.t29 true) (.node 24 (mkTI Try.t24 Try.t24 true) (.node 22 (mkTI Try.t22 Try.t22 true) (.node 21 (mkTI Try.t21 Try.t21 true) (.node 20 (mkTI Try.t20 Try.t20 true) .leaf .leaf) .leaf) (.node 23 (mkTI Try.t23 Try.t23 true) .leaf .leaf)) (.node 27 (mkTI Try.t27 Try.t27 true) (.node 26 (mkTI Try.t26 Try.t26 true) (.node 25 (mkTI Try.t25 Try.t25 true) .leaf .leaf) .leaf) (.node 28 (mkTI Try.t28 Try.t28 true) .leaf .leaf))) (.node 34 (mkTI Try.t34 Try.t34 true) (.node 32 (mkTI Try.t32 Try.t32 true) (.node 31 (mkTI Try.t31 Try.t31 true) (.node 30 (mkTI Try.t30 Try.t29 true) .leaf .leaf) .leaf) (.node 33 (mkTI Try.t33 Try.t33 true) .leaf .leaf)) (.node 36 (mkTI Try.t36 Try.t35 true) (.node 35 (mkTI Try.t35 Try.t35 true) .leaf .leaf) (.node 38 (mkTI Try.t38 Try.t38 true) .leaf .leaf))))) (.node 59 (mkTI Try.t59 Try.t59 true) (.node 50 (mkTI Try.t50 Try.t50 true) (.node 44 (mkTI Try.t44 Try.t44 true) (.node 42 (mkTI Try.t42 Try.t42 true) (.node 41 (mkTI Try.t41 Try.t41 true) (.node 40 (mkTI Try.t40 Try.t40 true) .leaf .leaf) .leaf) (.node 43 (mkTI Try.t43 Try.t43 true) .leaf .leaf)) (.node 47 (mkTI Try.t47 Try.t47 true) (.node 46 (mkTI Try.t46 Try.t45 true) (.node 45 (mkTI Try.t45 Try.t45 true) .leaf .leaf) .leaf) (.node 48 (mkTI Try.t48 Try.t3 true) .leaf .leaf))) (.node 55 (mkTI Try.t55 Try.t55 true) (.node 53 (mkTI Try.t53 Try.t53 true) (.node 52 (mkTI Try.t52 Try.t52 true) (.node 51 (mkTI Try.t51 Try.t51 true) .leaf .leaf) .leaf) (.node 54 (mkTI Try.t54 Try.t54 true) .leaf .leaf)) (.node 57 (mkTI Try.t57 Try.t57 true) (.node 56 (mkTI Try.t56 Try.t56 true) .leaf .leaf) (.node 58 (mkTI Try.t58 Try.t58 true) .leaf .leaf)))) (.node 70 (mkTI Try.t70 Try.t70 true) (.node 65 (mkTI Try.t65 Try.t65 true) (.node 63 (mkTI Try.t63 Try.t63 true) (.node 62 (mkTI Try.t62 Try.t62 true) (.node 61 (mkTI Try.t61 Try.t61 true) .leaf .leaf) .leaf) (.node 64 (mkTI Try.t64 Try.t64 true) .leaf .leaf)) (.node 68 (mkTI Try.t68 Try.t68 true) (.node 67 (mkTI Try.t67 Try.t67 true) (.node 66 (mkTI Try.t66 Try.t65 true) .leaf .leaf) .leaf) (.node 69 (mkTI Try.t69 Try.t68 true) .leaf .leaf))) (.node 75 (mkTI Try.t75 Try.t75 true) (.node 73 (mkTI Try.t73 Try.t72 true) (.node 72 (mkTI Try.t72 Try.t72 true) (.node 71 (mkTI Try.t71 Try.t70 true) .leaf .leaf) .leaf) (.node 74 (mkTI Try.t74 Try.t74 true) .leaf .leaf)) (.node 77 (mkTI Try.t77 Try.t77 true) (.node 76 (mkTI Try.t76 Try.t75 true) .leaf .leaf) (.node 78 (mkTI Try.t78 Try.t77 true) .leaf .leaf)))))) (.node 120 (mkTI Try.t120 Try.t120 true) (.node 100 (mkTI Try.t100 Try.t100 true) (.node 89 (mkTI Try.t89 Try.t89 true) (.node 84 (mkTI Try.t84 Try.t83 true) (.node 82 (mkTI Try.t82 Try.t82 true) (.node 81 (mkTI Try.t81 Try.t81 true) (.node 80 (mkTI Try.t80 Try.t80 true) .leaf .leaf) .leaf) (.node 83 (mkTI Try.t83 Try.t83 true) .leaf .leaf)) (.node 87 (mkTI Try.t87 Try.t87 true) (.node 86 (mkTI Try.t86 Try.t86 true) (.node 85 (mkTI Try.t85 Try.t85 true) .leaf .leaf) .leaf) (.node 88 (mkTI Try.t88 Try.t88 true) .leaf .leaf))) (.node 95 (mkTI Try.t95 Try.t95 true) (.node 93 (mkTI Try.t93 Try.t93 true) (.node 92 (mkTI Try.t92 Try.t92 true) (.node 91 (mkTI Try.t91 Try.t91 true) .leaf .leaf) .leaf) (.node 94 (mkTI Try.t94 Try.t94 true) .leaf .leaf)) (.node 97 (mkTI Try.t97 Try.t97 true) (.node 96 (mkTI Try.t96 Try.t96 true) .leaf .leaf) (.node 99 (mkTI Try.t99 Try.t99 true) .leaf .leaf)))) (.node 110 (mkTI Try.t110 Try.t110 true) (.node 105 (mkTI Try.t105 Try.t105 true) (.node 103 (mkTI Try.t103 Try.t103 true) (.node 102 (mkTI Try.t102 Try.t102 true) (.node 101 (mkTI Try.t101 Try.t101 true) .leaf .leaf) .leaf) (.node 104 (mkTI Try.t104 Try.t104 true) .leaf .leaf)) (.node 108 (mkTI Try.t108 Try.t108 true) (.node 107 (mkTI Try.t107 Try.t107 true) (.node 106 (mkTI Try.t106 Try.t106 true) .leaf .leaf) .leaf) (.node 109 (mkTI Try.t109 Try.t108 true) .leaf .leaf))) (.node 116 (mkTI Try.t116 Try.t116 true) (.node 113 (mkTI Try.t113 Try.t113 true) (.node 112 (mkTI Try.t112 Try.t112 true) (.node 111 (mkTI Try.t111 Try.t111 true) .leaf .leaf) .leaf) (.node 115 (mkTI Try.t115 Try.t115 true) .leaf .leaf)) (.node 118 (mkTI Try.t118 Try.t118 true) (.node 117 (mkTI Try.t117 Try.t117 true) .leaf .leaf) (.node 119 (mkTI Try.t119 Try.t118 true) .leaf .leaf))))) (.node 141 (mkTI Try.t141 Try.t141 true) (.node 131 (mkTI Try.t131 Try.t131 true) (.node 126 (mkTI Try.t126 Try.t126 true) (.node 123 (mkTI Try.t123 Try.t123 true) (.node 122 (mkTI Try.t122 Try.t122 true) (.node 121 (mkTI Try.t121 Try.t121 true) .leaf .leaf) .leaf) (.node 125 (mkTI Try.t125 Try.t125 true) .leaf .leaf)) (.node 129 (mkTI Try.t129 Try.t129 true) (.node 128 (mkTI Try.t128 Try.t128 true) (.node 127 (mkTI Try.t127 Try.t127 true) .leaf .leaf) .leaf) (.node 130 (mkTI Try.t130 Try.t130 true) .leaf .leaf))) (.node 137 (mkTI Try.t137 Try.t137 true) (.node 134 (mkTI Try.t134 Try.t134 true) (.node 133 (mkTI Try.t133 Try.t133 true) (.node 132 (mkTI Try.t132 Try.t132 true) .leaf .leaf) .leaf) (.node 135 (mkTI Try.t135 Try.t135 true) .leaf .leaf)) (.node 139 (mkTI Try.t139 Try.t139 true) (.node 138 (mkTI Try.t138 Try.t138 true) .leaf .leaf) (.node 140 (mkTI Try.t140 Try.t140 true) .leaf .leaf)))) (.node 151 (mkTI Try.t151 Try.t5 true) (.node 146 (mkTI Try.t146 Try.t146 true) (.node 144 (mkTI Try.t144 Try.t144 false) (.node 143 (mkTI Try.t143 Try.t143 true) (.node 142 (mkTI Try.t142 Try.t142 true) .leaf .leaf) .leaf) (.node 145 (mkTI Try.t145 Try.t144 false) .leaf .leaf)) (.node 149 (mkTI Try.t149 Try.t149 true) (.node 148 (mkTI Try.t148 Try.t147 false) (.node 147 (mkTI Try.t147 Try.t147 false) .leaf .leaf) .leaf) (.node 150 (mkTI Try.t150 Try.t150 true) .leaf .leaf))) (.node 156 (mkTI Try.t156 Try.t21 true) (.node 154 (mkTI Try.t154 Try.t154 true) (.node 153 (mkTI Try.t153 Try.t153 true) (.node 152 (mkTI Try.t152 Try.t5 true) .leaf .leaf) .leaf) (.node 155 (mkTI Try.t155 Try.t21 true) .leaf .leaf)) (.node 158 (mkTI Try.t158 Try.t157 false) (.node 157 (mkTI Try.t157 Try.t157 false) .leaf .leaf) (.node 159 (mkTI Try.t159 Try.t159 true) .leaf .leaf)))))))
noncomputable def env (tab : BinOp → AC → AC → Option AC) (cvt : IntKind → AC → Option AC) (ext : Nat → List AV → St → Option (AV × St)) : Env := ⟨bget fnTab, bget tyTab, tab, cvt, ext⟩
def noTab : BinOp → AC → AC → Option AC := fun _ _ _ => none
def noCvt : IntKind → AC → Option AC := fun _ _ => none
def AllB {α : Type} (Q : Nat × α → Prop) : Bst α → Prop
  | .leaf => True
  | .node k v l r => Q (k, v) ∧ AllB Q l ∧ AllB Q r
theorem AllB.get {α : Type} {Q : Nat × α → Prop} : ∀ {t : Bst α}, AllB Q t → ∀ {i : Nat} {x : α}, bget t i = some x → Q (i, x)
  | .leaf, _, i, x, h => by cases h
  | .node k v l r, hq, i, x, h => by
    simp only [bget] at h
    by_cases e : i = k
    · subst e
      simp only [Nat.beq_refl, cond_true, Option.some.injEq] at h
      subst h
      exact hq.1
    · simp only [beq_no e, cond_false] at h
      cases hb : Nat.blt i k
      · simp only [hb, cond_false] at h
        exact hq.2.2.get h
      · simp only [hb, cond_true] at h
        exact hq.2.1.get h
def AllP {α : Type} (Q : α → Prop) : List α → Prop
  | [] => True
  | x :: r => Q x ∧ AllP Q r
theorem AllP.mem {α : Type} {Q : α → Prop} : ∀ {l : List α}, AllP Q l → ∀ x ∈ l, Q x
  | _ :: _, h, _, .head _ => h.1
  | _ :: _, h, x, .tail _ hx => h.2.mem x hx
theorem fnTab_ok : AllB (fun x : Nat × Func => Try.prog.funcs[x.1]? = some x.2 ∧ ∀ args w, (callFunc x.1 args).run Try.prog w = .ok (.enter x.1 args) w) fnTab :=
  ⟨⟨Try.func50, Try.call50⟩, ⟨⟨Try.func26, Try.call26⟩, ⟨⟨Try.func14, Try.call14⟩, ⟨⟨Try.func8, Try.call8⟩, ⟨⟨Try.func5, Try.call5⟩, ⟨⟨Try.func3, Try.call3⟩, ⟨⟨Try.func2, Try.call2⟩, trivial, trivial⟩, ⟨⟨Try.func4, Try.call4⟩, trivial, trivial⟩⟩, ⟨⟨Try.func7, Try.call7⟩, ⟨⟨Try.func6, Try.call6⟩, trivial, trivial⟩, trivial⟩⟩, ⟨⟨Try.func11, Try.call11⟩, ⟨⟨Try.func10, Try.call10⟩, ⟨⟨Try.func9, Try.call9⟩, trivial, trivial⟩, trivial⟩, ⟨⟨Try.func13, Try.call13⟩, ⟨⟨Try.func12, Try.call12⟩, trivial, trivial⟩, trivial⟩⟩⟩, ⟨⟨Try.func20, Try.call20⟩, ⟨⟨Try.func17, Try.call17⟩, ⟨⟨Try.func16, Try.call16⟩, ⟨⟨Try.func15, Try.call15⟩, trivial, trivial⟩, trivial⟩, ⟨⟨Try.func19, Try.call19⟩, ⟨⟨Try.func18, Try.call18⟩, trivial, trivial⟩, trivial⟩⟩, ⟨⟨Try.func23, Try.call23⟩, ⟨⟨Try.func22, Try.call22⟩, ⟨⟨Try.func21, Try.call21⟩, trivial, trivial⟩, trivial⟩, ⟨⟨Try.func25, Try.call25⟩, ⟨⟨Try.func24, Try.call24⟩, trivial, trivial⟩, trivial⟩⟩⟩⟩, ⟨⟨Try.func38, Try.call38⟩, ⟨⟨Try.func32, Try.call32⟩, ⟨⟨Try.func29, Try.call29⟩, ⟨⟨Try.func28, Try.call28⟩, ⟨⟨Try.func27, Try.call27⟩, trivial, trivial⟩, trivial⟩, ⟨⟨Try.func31, Try.call31⟩, ⟨⟨Try.func30, Try.call30⟩, trivial, trivial⟩, trivial⟩⟩, ⟨⟨Try.func35, Try.call35⟩, ⟨⟨Try.func34, Try.call34⟩, ⟨⟨Try.func33, Try.call33⟩, trivial, trivial⟩, trivial⟩, ⟨⟨Try.func37, Try.call37⟩, ⟨⟨Try.func36, Try.call36⟩, trivial, trivial⟩, trivial⟩⟩⟩, ⟨⟨Try.func44, Try.call44⟩, ⟨⟨Try.func41, Try.call41⟩, ⟨⟨Try.func40, Try.call40⟩, ⟨⟨Try.func39, Try.call39⟩, trivial, trivial⟩, trivial⟩, ⟨⟨Try.func43, Try.call43⟩, ⟨⟨Try.func42, Try.call42⟩, trivial, trivial⟩, trivial⟩⟩, ⟨⟨Try.func47, Try.call47⟩, ⟨⟨Try.func46, Try.call46⟩, ⟨⟨Try.func45, Try.call45⟩, trivial, trivial⟩, trivial⟩, ⟨⟨Try.func49, Try.call49⟩, ⟨⟨Try.func48, Try.call48⟩, trivial, trivial⟩, trivial⟩⟩⟩⟩⟩, ⟨⟨Try.func75, Try.call75⟩, ⟨⟨Try.func63, Try.call63⟩, ⟨⟨Try.func57, Try.call57⟩, ⟨⟨Try.func54, Try.call54⟩, ⟨⟨Try.func52, Try.call52⟩, ⟨⟨Try.func51, Try.call51⟩, trivial, trivial⟩, ⟨⟨Try.func53, Try.call53⟩, trivial, trivial⟩⟩, ⟨⟨Try.func56, Try.call56⟩, ⟨⟨Try.func55, Try.call55⟩, trivial, trivial⟩, trivial⟩⟩, ⟨⟨Try.func60, Try.call60⟩, ⟨⟨Try.func59, Try.call59⟩, ⟨⟨Try.func58, Try.call58⟩, trivial, trivial⟩, trivial⟩, ⟨⟨Try.func62, Try.call62⟩, ⟨⟨Try.func61, Try.call61⟩, trivial, trivial⟩, trivial⟩⟩⟩, ⟨⟨Try.func69, Try.call69⟩, ⟨⟨Try.func66, Try.call66⟩, ⟨⟨Try.func65, Try.call65⟩, ⟨⟨Try.func64, Try.call64⟩, trivial, trivial⟩, trivial⟩, ⟨⟨Try.func68, Try.call68⟩, ⟨⟨Try.func67, Try.call67⟩, trivial, trivial⟩, trivial⟩⟩, ⟨⟨Try.func72, Try.call72⟩, ⟨⟨Try.func71, Try.call71⟩, ⟨⟨Try.func70, Try.call70⟩, trivial, trivial⟩, trivial⟩, ⟨⟨Try.func74, Try.call74⟩, ⟨⟨Try.func73, Try.call73⟩, trivial, trivial⟩, trivial⟩⟩⟩⟩, ⟨⟨Try.func87, Try.call87⟩, ⟨⟨Try.func81, Try.call81⟩, ⟨⟨Try.func78, Try.call78⟩, ⟨⟨Try.func77, Try.call77⟩, ⟨⟨Try.func76, Try.call76⟩, trivial, trivial⟩, trivial⟩, ⟨⟨Try.func80, Try.call80⟩, ⟨⟨Try.func79, Try.call79⟩, trivial, trivial⟩, trivial⟩⟩, ⟨⟨Try.func84, Try.call84⟩, ⟨⟨Try.func83, Try.call83⟩, ⟨⟨Try.func82, Try.call82⟩, trivial, trivial⟩, trivial⟩, ⟨⟨Try.func86, Try.call86⟩, ⟨⟨Try.func85, Try.call85⟩, trivial, trivial⟩, trivial⟩⟩⟩, ⟨⟨Try.func93, Try.call93⟩, ⟨⟨Try.func90, Try.call90⟩, ⟨⟨Try.func89, Try.call89⟩, ⟨⟨Try.func88, Try.call88⟩, trivial, trivial⟩, trivial⟩, ⟨⟨Try.func92, Try.call92⟩, ⟨⟨Try.func91, Try.call91⟩, trivial, trivial⟩, trivial⟩⟩, ⟨⟨Try.func96, Try.call96⟩, ⟨⟨Try.func95, Try.call95⟩, ⟨⟨Try.func94, Try.call94⟩, trivial, trivial⟩, trivial⟩, ⟨⟨Try.func98, Try.call98⟩, ⟨⟨Try.func97, Try.call97⟩, trivial, trivial⟩, trivial⟩⟩⟩⟩⟩⟩
def zeroOK (i : TypeInfo) : Bool := match i.zero with | some z => z.cells.toList.all isOne && Nat.beq z.cells.size i.size | none => false
def TyQ (x : Nat × TI) : Prop := ∃ i z, Try.prog.info? x.1 = some i ∧ i.size = x.2.size ∧ i.bytes = x.2.bytes ∧ i.zero = some z ∧ z.cells.toList.all isOne = true ∧ x.2.zero = z.cells.toList.map cellOf ∧ z.cells.size = x.2.size ∧ Try.prog.underlying x.1 = some x.2.desc ∧ (x.2.eqok = true → Try.prog.stoodInHeld x.1 = false ∧ Try.prog.eqGuardType Try.prog.depth x.1 = false)
theorem tyQ {t : Nat} {i u : TypeInfo} {ok : Bool} (h1 : Try.prog.info? t = some i) (h2 : Try.prog.underlying t = some u.desc) (h3 : zeroOK i = true) (h4 : (!ok || (!(Try.prog.stoodInHeld t) && !(Try.prog.eqGuardType Try.prog.depth t))) = true) : TyQ (t, mkTI i u ok) := by
  unfold zeroOK at h3
  cases hz : i.zero with
  | none => simp [hz] at h3
  | some z =>
    simp only [hz, Bool.and_eq_true] at h3
    refine ⟨i, z, h1, rfl, rfl, hz, h3.1, by simp [mkTI, hz], Nat.eq_of_beq_eq_true h3.2, h2, fun hk => ?_⟩
    have hk : ok = true := hk
    subst hk
    simpa using h4
theorem ty1 : TyQ (1, mkTI Try.t1 Try.t1 true) := tyQ (by kernel_rfl) (by kernel_rfl) (by kernel_rfl) (by kernel_rfl)
theorem ty2 : TyQ (2, mkTI Try.t2 Try.t2 true) := tyQ (by kernel_rfl) (by kernel_rfl) (by kernel_rfl) (by kernel_rfl)
theorem ty3 : TyQ (3, mkTI Try.t3 Try.t3 true) := tyQ (by kernel_rfl) (by kernel_rfl) (by kernel_rfl) (by kernel_rfl)
theorem ty4 : TyQ (4, mkTI Try.t4 Try.t4 true) := tyQ (by kernel_rfl) (by kernel_rfl) (by kernel_rfl) (by kernel_rfl)
theorem ty5 : TyQ (5, mkTI Try.t5 Try.t5 true) := tyQ (by kernel_rfl) (by kernel_rfl) (by kernel_rfl) (by kernel_rfl)
theorem ty6 : TyQ (6, mkTI Try.t6 Try.t5 true) := tyQ (by kernel_rfl) (by kernel_rfl) (by kernel_rfl) (by kernel_rfl)
theorem ty7 : TyQ (7, mkTI Try.t7 Try.t7 true) := tyQ (by kernel_rfl) (by kernel_rfl) (by kernel_rfl) (by kernel_rfl)
theorem ty8 : TyQ (8, mkTI Try.t8 Try.t7 true) := tyQ (by kernel_rfl) (by kernel_rfl) (by kernel_rfl) (by kernel_rfl)
theorem ty9 : TyQ (9, mkTI Try.t9 Try.t9 true) := tyQ (by kernel_rfl) (by kernel_rfl) (by kernel_rfl) (by kernel_rfl)
theorem ty10 : TyQ (10, mkTI Try.t10 Try.t9 true) := tyQ (by kernel_rfl) (by kernel_rfl) (by kernel_rfl) (by kernel_rfl)
theorem ty11 : TyQ (11, mkTI Try.t11 Try.t9 true) := tyQ (by kernel_rfl) (by kernel_rfl) (by kernel_rfl) (by kernel_rfl)
theorem ty12 : TyQ (12, mkTI Try.t12 Try.t12 true) := tyQ (by kernel_rfl) (by kernel_rfl) (by kernel_rfl) (by kernel_rfl)
theorem ty13 : TyQ (13, mkTI Try.t13 Try.t13 false) := tyQ (by kernel_rfl) (by kernel_rfl) (by kernel_rfl) (by kernel_rfl)
theorem ty14 : TyQ (14, mkTI Try.t14 Try.t13 false) := tyQ (by kernel_rfl) (by kernel_rfl) (by kernel_rfl) (by kernel_rfl)
theorem ty15 : TyQ (15, mkTI Try.t15 Try.t15 true) := tyQ (by kernel_rfl) (by kernel_rfl) (by kernel_rfl) (by kernel_rfl)
theorem ty16 : TyQ (16, mkTI Try.t16 Try.t16 true) := tyQ (by kernel_rfl) (by kernel_rfl) (by kernel_rfl) (by kernel_rfl)
theorem ty17 : TyQ (17, mkTI Try.t17 Try.t17 true) := tyQ (by kernel_rfl) (by kernel_rfl) (by kernel_rfl) (by kernel_rfl)
theorem ty18 : TyQ (18, mkTI Try.t18 Try.t18 false) := tyQ (by kernel_rfl) (by kernel_rfl) (by kernel_rfl) (by kernel_rfl)
theorem ty19 : TyQ (19, mkTI Try.t19 Try.t18 false) := tyQ (by kernel_rfl) (by kernel_rfl) (by kernel_rfl) (by kernel_rfl)
theorem ty20 : TyQ (20, mkTI Try.t20 Try.t20 true) := tyQ (by kernel_rfl) (by kernel_rfl) (by kernel_rfl) (by kernel_rfl)
theorem ty21 : TyQ (21, mkTI Try.t21 Try.t21 true) := tyQ (by kernel_rfl) (by kernel_rfl) (by kernel_rfl) (by kernel_rfl)
theorem ty22 : TyQ (22, mkTI Try.t22 Try.t22 true) := tyQ (by kernel_rfl) (by kernel_rfl) (by kernel_rfl) (by kernel_rfl)
theorem ty23 : TyQ (23, mkTI Try.t23 Try.t23 true) := tyQ (by kernel_rfl) (by kernel_rfl) (by kernel_rfl) (by kernel_rfl)
theorem ty24 : TyQ (24, mkTI Try.t24 Try.t24 true) := tyQ (by kernel_rfl) (by kernel_rfl) (by kernel_rfl) (by kernel_rfl)
theorem ty25 : TyQ (25, mkTI Try.t25 Try.t25 true) := tyQ (by kernel_rfl) (by kernel_rfl) (by kernel_rfl) (by kernel_rfl)
theorem ty26 : TyQ (26, mkTI Try.t26 Try.t26 true) := tyQ (by kernel_rfl) (by kernel_rfl) (by kernel_rfl) (by kernel_rfl)
theorem ty27 : TyQ (27, mkTI Try.t27 Try.t27 true) := tyQ (by kernel_rfl) (by kernel_rfl) (by kernel_rfl) (by kernel_rfl)
theorem ty28 : TyQ (28, mkTI Try.t28 Try.t28 true) := tyQ (by kernel_rfl) (by kernel_rfl) (by kernel_rfl) (by kernel_rfl)
theorem ty29 : TyQ (29, mkTI Try.t29 Try.t29 true) := tyQ (by kernel_rfl) (by kernel_rfl) (by kernel_rfl) (by kernel_rfl)
theorem ty30 : TyQ (30, mkTI Try.t30 Try.t29 true) := tyQ (by kernel_rfl) (by kernel_rfl) (by kernel_rfl) (by kernel_rfl)
theorem ty31 : TyQ (31, mkTI Try.t31 Try.t31 true) := tyQ (by kernel_rfl) (by kernel_rfl) (by kernel_rfl) (by kernel_rfl)
theorem ty32 : TyQ (32, mkTI Try.t32 Try.t32 true) := tyQ (by kernel_rfl) (by kernel_rfl) (by kernel_rfl) (by kernel_rfl)
theorem ty33 : TyQ (33, mkTI Try.t33 Try.t33 true) := tyQ (by kernel_rfl) (by kernel_rfl) (by kernel_rfl) (by kernel_rfl)
theorem ty34 : TyQ (34, mkTI Try.t34 Try.t34 true) := tyQ (by kernel_rfl) (by kernel_rfl) (by kernel_rfl) (by kernel_rfl)
theorem ty35 : TyQ (35, mkTI Try.t35 Try.t35 true) := tyQ (by kernel_rfl) (by kernel_rfl) (by kernel_rfl) (by kernel_rfl)
theorem ty36 : TyQ (36, mkTI Try.t36 Try.t35 true) := tyQ (by kernel_rfl) (by kernel_rfl) (by kernel_rfl) (by kernel_rfl)
theorem ty38 : TyQ (38, mkTI Try.t38 Try.t38 true) := tyQ (by kernel_rfl) (by kernel_rfl) (by kernel_rfl) (by kernel_rfl)
theorem ty39 : TyQ (39, mkTI Try.t39 Try.t39 true) := tyQ (by kernel_rfl) (by kernel_rfl) (by kernel_rfl) (by kernel_rfl)
theorem ty40 : TyQ (40, mkTI Try.t40 Try.t40 true) := tyQ (by kernel_rfl) (by kernel_rfl) (by kernel_rfl) (by kernel_rfl)
theorem ty41 : TyQ (41, mkTI Try.t41 Try.t41 true) := tyQ (by kernel_rfl) (by kernel_rfl) (by kernel_rfl) (by kernel_rfl)
theorem ty42 : TyQ (42, mkTI Try.t42 Try.t42 true) := tyQ (by kernel_rfl) (by kernel_rfl) (by kernel_rfl) (by kernel_rfl)
theorem ty43 : TyQ (43, mkTI Try.t43 Try.t43 true) := tyQ (by kernel_rfl) (by kernel_rfl) (by kernel_rfl) (by kernel_rfl)
theorem ty44 : TyQ (44, mkTI Try.t44 Try.t44 true) := tyQ (by kernel_rfl) (by kernel_rfl) (by kernel_rfl) (by kernel_rfl)
theorem ty45 : TyQ (45, mkTI Try.t45 Try.t45 true) := tyQ (by kernel_rfl) (by kernel_rfl) (by kernel_rfl) (by kernel_rfl)
theorem ty46 : TyQ (46, mkTI Try.t46 Try.t45 true) := tyQ (by kernel_rfl) (by kernel_rfl) (by kernel_rfl) (by kernel_rfl)
theorem ty47 : TyQ (47, mkTI Try.t47 Try.t47 true) := tyQ (by kernel_rfl) (by kernel_rfl) (by kernel_rfl) (by kernel_rfl)
theorem ty48 : TyQ (48, mkTI Try.t48 Try.t3 true) := tyQ (by kernel_rfl) (by kernel_rfl) (by kernel_rfl) (by kernel_rfl)
theorem ty50 : TyQ (50, mkTI Try.t50 Try.t50 true) := tyQ (by kernel_rfl) (by kernel_rfl) (by kernel_rfl) (by kernel_rfl)
theorem ty51 : TyQ (51, mkTI Try.t51 Try.t51 true) := tyQ (by kernel_rfl) (by kernel_rfl) (by kernel_rfl) (by kernel_rfl)
theorem ty52 : TyQ (52, mkTI Try.t52 Try.t52 true) := tyQ (by kernel_rfl) (by kernel_rfl) (by kernel_rfl) (by kernel_rfl)
theorem ty53 : TyQ (53, mkTI Try.t53 Try.t53 true) := tyQ (by kernel_rfl) (by kernel_rfl) (by kernel_rfl) (by kernel_rfl)
theorem ty54 : TyQ (54, mkTI Try.t54 Try.t54 true) := tyQ (by kernel_rfl) (by kernel_rfl) (by kernel_rfl) (by kernel_rfl)
theorem ty55 : TyQ (55, mkTI Try.t55 Try.t55 true) := tyQ (by kernel_rfl) (by kernel_rfl) (by kernel_rfl) (by kernel_rfl)
theorem ty56 : TyQ (56, mkTI Try.t56 Try.t56 true) := tyQ (by kernel_rfl) (by kernel_rfl) (by kernel_rfl) (by kernel_rfl)
theorem ty57 : TyQ (57, mkTI Try.t57 Try.t57 true) := tyQ (by kernel_rfl) (by kernel_rfl) (by kernel_rfl) (by kernel_rfl)
theorem ty58 : TyQ (58, mkTI Try.t58 Try.t58 true) := tyQ (by kernel_rfl) (by kernel_rfl) (by kernel_rfl) (by kernel_rfl)
theorem ty59 : TyQ (59, mkTI Try.t59 Try.t59 true) := tyQ (by kernel_rfl) (by kernel_rfl) (by kernel_rfl) (by kernel_rfl)
theorem ty61 : TyQ (61, mkTI Try.t61 Try.t61 true) := tyQ (by kernel_rfl) (by kernel_rfl) (by kernel_rfl) (by kernel_rfl)
theorem ty62 : TyQ (62, mkTI Try.t62 Try.t62 true) := tyQ (by kernel_rfl) (by kernel_rfl) (by kernel_rfl) (by kernel_rfl)
theorem ty63 : TyQ (63, mkTI Try.t63 Try.t63 true) := tyQ (by kernel_rfl) (by kernel_rfl) (by kernel_rfl) (by kernel_rfl)
theorem ty64 : TyQ (64, mkTI Try.t64 Try.t64 true) := tyQ (by kernel_rfl) (by kernel_rfl) (by kernel_rfl) (by kernel_rfl)
theorem ty65 : TyQ (65, mkTI Try.t65 Try.t65 true) := tyQ (by kernel_rfl) (by kernel_rfl) (by kernel_rfl) (by kernel_rfl)
theorem ty66 : TyQ (66, mkTI Try.t66 Try.t65 true) := tyQ (by kernel_rfl) (by kernel_rfl) (by kernel_rfl) (by kernel_rfl)
theorem ty67 : TyQ (67, mkTI Try.t67 Try.t67 true) := tyQ (by kernel_rfl) (by kernel_rfl) (by kernel_rfl) (by kernel_rfl)
theorem ty68 : TyQ (68, mkTI Try.t68 Try.t68 true) := tyQ (by kernel_rfl) (by kernel_rfl) (by kernel_rfl) (by kernel_rfl)
theorem ty69 : TyQ (69, mkTI Try.t69 Try.t68 true) := tyQ (by kernel_rfl) (by kernel_rfl) (by kernel_rfl) (by kernel_rfl)
theorem ty70 : TyQ (70, mkTI Try.t70 Try.t70 true) := tyQ (by kernel_rfl) (by kernel_rfl) (by kernel_rfl) (by kernel_rfl)
theorem ty71 : TyQ (71, mkTI Try.t71 Try.t70 true) := tyQ (by kernel_rfl) (by kernel_rfl) (by kernel_rfl) (by kernel_rfl)
theorem ty72 : TyQ (72, mkTI Try.t72 Try.t72 true) := tyQ (by kernel_rfl) (by kernel_rfl) (by kernel_rfl) (by kernel_rfl)
theorem ty73 : TyQ (73, mkTI Try.t73 Try.t72 true) := tyQ (by kernel_rfl) (by kernel_rfl) (by kernel_rfl) (by kernel_rfl)
theorem ty74 : TyQ (74, mkTI Try.t74 Try.t74 true) := tyQ (by kernel_rfl) (by kernel_rfl) (by kernel_rfl) (by kernel_rfl)
theorem ty75 : TyQ (75, mkTI Try.t75 Try.t75 true) := tyQ (by kernel_rfl) (by kernel_rfl) (by kernel_rfl) (by kernel_rfl)
theorem ty76 : TyQ (76, mkTI Try.t76 Try.t75 true) := tyQ (by kernel_rfl) (by kernel_rfl) (by kernel_rfl) (by kernel_rfl)
theorem ty77 : TyQ (77, mkTI Try.t77 Try.t77 true) := tyQ (by kernel_rfl) (by kernel_rfl) (by kernel_rfl) (by kernel_rfl)
theorem ty78 : TyQ (78, mkTI Try.t78 Try.t77 true) := tyQ (by kernel_rfl) (by kernel_rfl) (by kernel_rfl) (by kernel_rfl)
theorem ty79 : TyQ (79, mkTI Try.t79 Try.t79 true) := tyQ (by kernel_rfl) (by kernel_rfl) (by kernel_rfl) (by kernel_rfl)
theorem ty80 : TyQ (80, mkTI Try.t80 Try.t80 true) := tyQ (by kernel_rfl) (by kernel_rfl) (by kernel_rfl) (by kernel_rfl)
theorem ty81 : TyQ (81, mkTI Try.t81 Try.t81 true) := tyQ (by kernel_rfl) (by kernel_rfl) (by kernel_rfl) (by kernel_rfl)
theorem ty82 : TyQ (82, mkTI Try.t82 Try.t82 true) := tyQ (by kernel_rfl) (by kernel_rfl) (by kernel_rfl) (by kernel_rfl)
theorem ty83 : TyQ (83, mkTI Try.t83 Try.t83 true) := tyQ (by kernel_rfl) (by kernel_rfl) (by kernel_rfl) (by kernel_rfl)
theorem ty84 : TyQ (84, mkTI Try.t84 Try.t83 true) := tyQ (by kernel_rfl) (by kernel_rfl) (by kernel_rfl) (by kernel_rfl)
theorem ty85 : TyQ (85, mkTI Try.t85 Try.t85 true) := tyQ (by kernel_rfl) (by kernel_rfl) (by kernel_rfl) (by kernel_rfl)
theorem ty86 : TyQ (86, mkTI Try.t86 Try.t86 true) := tyQ (by kernel_rfl) (by kernel_rfl) (by kernel_rfl) (by kernel_rfl)
theorem ty87 : TyQ (87, mkTI Try.t87 Try.t87 true) := tyQ (by kernel_rfl) (by kernel_rfl) (by kernel_rfl) (by kernel_rfl)
theorem ty88 : TyQ (88, mkTI Try.t88 Try.t88 true) := tyQ (by kernel_rfl) (by kernel_rfl) (by kernel_rfl) (by kernel_rfl)
theorem ty89 : TyQ (89, mkTI Try.t89 Try.t89 true) := tyQ (by kernel_rfl) (by kernel_rfl) (by kernel_rfl) (by kernel_rfl)
theorem ty91 : TyQ (91, mkTI Try.t91 Try.t91 true) := tyQ (by kernel_rfl) (by kernel_rfl) (by kernel_rfl) (by kernel_rfl)
theorem ty92 : TyQ (92, mkTI Try.t92 Try.t92 true) := tyQ (by kernel_rfl) (by kernel_rfl) (by kernel_rfl) (by kernel_rfl)
theorem ty93 : TyQ (93, mkTI Try.t93 Try.t93 true) := tyQ (by kernel_rfl) (by kernel_rfl) (by kernel_rfl) (by kernel_rfl)
theorem ty94 : TyQ (94, mkTI Try.t94 Try.t94 true) := tyQ (by kernel_rfl) (by kernel_rfl) (by kernel_rfl) (by kernel_rfl)
theorem ty95 : TyQ (95, mkTI Try.t95 Try.t95 true) := tyQ (by kernel_rfl) (by kernel_rfl) (by kernel_rfl) (by kernel_rfl)
theorem ty96 : TyQ (96, mkTI Try.t96 Try.t96 true) := tyQ (by kernel_rfl) (by kernel_rfl) (by kernel_rfl) (by kernel_rfl)
theorem ty97 : TyQ (97, mkTI Try.t97 Try.t97 true) := tyQ (by kernel_rfl) (by kernel_rfl) (by kernel_rfl) (by kernel_rfl)
theorem ty99 : TyQ (99, mkTI Try.t99 Try.t99 true) := tyQ (by kernel_rfl) (by kernel_rfl) (by kernel_rfl) (by kernel_rfl)
theorem ty100 : TyQ (100, mkTI Try.t100 Try.t100 true) := tyQ (by kernel_rfl) (by kernel_rfl) (by kernel_rfl) (by kernel_rfl)
theorem ty101 : TyQ (101, mkTI Try.t101 Try.t101 true) := tyQ (by kernel_rfl) (by kernel_rfl) (by kernel_rfl) (by kernel_rfl)
theorem ty102 : TyQ (102, mkTI Try.t102 Try.t102 true) := tyQ (by kernel_rfl) (by kernel_rfl) (by kernel_rfl) (by kernel_rfl)
theorem ty103 : TyQ (103, mkTI Try.t103 Try.t103 true) := tyQ (by kernel_rfl) (by kernel_rfl) (by kernel_rfl) (by kernel_rfl)
theorem ty104 : TyQ (104, mkTI Try.t104 Try.t104 true) := tyQ (by kernel_rfl) (by kernel_rfl) (by kernel_rfl) (by kernel_rfl)
theorem ty105 : TyQ (105, mkTI Try.t105 Try.t105 true) := tyQ (by kernel_rfl) (by kernel_rfl) (by kernel_rfl) (by kernel_rfl)
theorem ty106 : TyQ (106, mkTI Try.t106 Try.t106 true) := tyQ (by kernel_rfl) (by kernel_rfl) (by kernel_rfl) (by kernel_rfl)
theorem ty107 : TyQ (107, mkTI Try.t107 Try.t107 true) := tyQ (by kernel_rfl) (by kernel_rfl) (by kernel_rfl) (by kernel_rfl)
theorem ty108 : TyQ (108, mkTI Try.t108 Try.t108 true) := tyQ (by kernel_rfl) (by kernel_rfl) (by kernel_rfl) (by kernel_rfl)
theorem ty109 : TyQ (109, mkTI Try.t109 Try.t108 true) := tyQ (by kernel_rfl) (by kernel_rfl) (by kernel_rfl) (by kernel_rfl)
theorem ty110 : TyQ (110, mkTI Try.t110 Try.t110 true) := tyQ (by kernel_rfl) (by kernel_rfl) (by kernel_rfl) (by kernel_rfl)
theorem ty111 : TyQ (111, mkTI Try.t111 Try.t111 true) := tyQ (by kernel_rfl) (by kernel_rfl) (by kernel_rfl) (by kernel_rfl)
theorem ty112 : TyQ (112, mkTI Try.t112 Try.t112 true) := tyQ (by kernel_rfl) (by kernel_rfl) (by kernel_rfl) (by kernel_rfl)
theorem ty113 : TyQ (113, mkTI Try.t113 Try.t113 true) := tyQ (by kernel_rfl) (by kernel_rfl) (by kernel_rfl) (by kernel_rfl)
theorem ty115 : TyQ (115, mkTI Try.t115 Try.t115 true) := tyQ (by kernel_rfl) (by kernel_rfl) (by kernel_rfl) (by kernel_rfl)
theorem ty116 : TyQ (116, mkTI Try.t116 Try.t116 true) := tyQ (by kernel_rfl) (by kernel_rfl) (by kernel_rfl) (by kernel_rfl)
theorem ty117 : TyQ (117, mkTI Try.t117 Try.t117 true) := tyQ (by kernel_rfl) (by kernel_rfl) (by kernel_rfl) (by kernel_rfl)
theorem ty118 : TyQ (118, mkTI Try.t118 Try.t118 true) := tyQ (by kernel_rfl) (by kernel_rfl) (by kernel_rfl) (by kernel_rfl)
theorem ty119 : TyQ (119, mkTI Try.t119 Try.t118 true) := tyQ (by kernel_rfl) (by kernel_rfl) (by kernel_rfl) (by kernel_rfl)
theorem ty120 : TyQ (120, mkTI Try.t120 Try.t120 true) := tyQ (by kernel_rfl) (by kernel_rfl) (by kernel_rfl) (by kernel_rfl)
theorem ty121 : TyQ (121, mkTI Try.t121 Try.t121 true) := tyQ (by kernel_rfl) (by kernel_rfl) (by kernel_rfl) (by kernel_rfl)
theorem ty122 : TyQ (122, mkTI Try.t122 Try.t122 true) := tyQ (by kernel_rfl) (by kernel_rfl) (by kernel_rfl) (by kernel_rfl)
theorem ty123 : TyQ (123, mkTI Try.t123 Try.t123 true) := tyQ (by kernel_rfl) (by kernel_rfl) (by kernel_rfl) (by kernel_rfl)
theorem ty125 : TyQ (125, mkTI Try.t125 Try.t125 true) := tyQ (by kernel_rfl) (by kernel_rfl) (by kernel_rfl) (by kernel_rfl)
theorem ty126 : TyQ (126, mkTI Try.t126 Try.t126 true) := tyQ (by kernel_rfl) (by kernel_rfl) (by kernel_rfl) (by kernel_rfl)
theorem ty127 : TyQ (127, mkTI Try.t127 Try.t127 true) := tyQ (by kernel_rfl) (by kernel_rfl) (by kernel_rfl) (by kernel_rfl)
theorem ty128 : TyQ (128, mkTI Try.t128 Try.t128 true) := tyQ (by kernel_rfl) (by kernel_rfl) (by kernel_rfl) (by kernel_rfl)
theorem ty129 : TyQ (129, mkTI Try.t129 Try.t129 true) := tyQ (by kernel_rfl) (by kernel_rfl) (by kernel_rfl) (by kernel_rfl)
theorem ty130 : TyQ (130, mkTI Try.t130 Try.t130 true) := tyQ (by kernel_rfl) (by kernel_rfl) (by kernel_rfl) (by kernel_rfl)
theorem ty131 : TyQ (131, mkTI Try.t131 Try.t131 true) := tyQ (by kernel_rfl) (by kernel_rfl) (by kernel_rfl) (by kernel_rfl)
theorem ty132 : TyQ (132, mkTI Try.t132 Try.t132 true) := tyQ (by kernel_rfl) (by kernel_rfl) (by kernel_rfl) (by kernel_rfl)
theorem ty133 : TyQ (133, mkTI Try.t133 Try.t133 true) := tyQ (by kernel_rfl) (by kernel_rfl) (by kernel_rfl) (by kernel_rfl)
theorem ty134 : TyQ (134, mkTI Try.t134 Try.t134 true) := tyQ (by kernel_rfl) (by kernel_rfl) (by kernel_rfl) (by kernel_rfl)
theorem ty135 : TyQ (135, mkTI Try.t135 Try.t135 true) := tyQ (by kernel_rfl) (by kernel_rfl) (by kernel_rfl) (by kernel_rfl)
theorem ty137 : TyQ (137, mkTI Try.t137 Try.t137 true) := tyQ (by kernel_rfl) (by kernel_rfl) (by kernel_rfl) (by kernel_rfl)
theorem ty138 : TyQ (138, mkTI Try.t138 Try.t138 true) := tyQ (by kernel_rfl) (by kernel_rfl) (by kernel_rfl) (by kernel_rfl)
theorem ty139 : TyQ (139, mkTI Try.t139 Try.t139 true) := tyQ (by kernel_rfl) (by kernel_rfl) (by kernel_rfl) (by kernel_rfl)
theorem ty140 : TyQ (140, mkTI Try.t140 Try.t140 true) := tyQ (by kernel_rfl) (by kernel_rfl) (by kernel_rfl) (by kernel_rfl)
theorem ty141 : TyQ (141, mkTI Try.t141 Try.t141 true) := tyQ (by kernel_rfl) (by kernel_rfl) (by kernel_rfl) (by kernel_rfl)
theorem ty142 : TyQ (142, mkTI Try.t142 Try.t142 true) := tyQ (by kernel_rfl) (by kernel_rfl) (by kernel_rfl) (by kernel_rfl)
theorem ty143 : TyQ (143, mkTI Try.t143 Try.t143 true) := tyQ (by kernel_rfl) (by kernel_rfl) (by kernel_rfl) (by kernel_rfl)
theorem ty144 : TyQ (144, mkTI Try.t144 Try.t144 false) := tyQ (by kernel_rfl) (by kernel_rfl) (by kernel_rfl) (by kernel_rfl)
theorem ty145 : TyQ (145, mkTI Try.t145 Try.t144 false) := tyQ (by kernel_rfl) (by kernel_rfl) (by kernel_rfl) (by kernel_rfl)
theorem ty146 : TyQ (146, mkTI Try.t146 Try.t146 true) := tyQ (by kernel_rfl) (by kernel_rfl) (by kernel_rfl) (by kernel_rfl)
theorem ty147 : TyQ (147, mkTI Try.t147 Try.t147 false) := tyQ (by kernel_rfl) (by kernel_rfl) (by kernel_rfl) (by kernel_rfl)
theorem ty148 : TyQ (148, mkTI Try.t148 Try.t147 false) := tyQ (by kernel_rfl) (by kernel_rfl) (by kernel_rfl) (by kernel_rfl)
theorem ty149 : TyQ (149, mkTI Try.t149 Try.t149 true) := tyQ (by kernel_rfl) (by kernel_rfl) (by kernel_rfl) (by kernel_rfl)
theorem ty150 : TyQ (150, mkTI Try.t150 Try.t150 true) := tyQ (by kernel_rfl) (by kernel_rfl) (by kernel_rfl) (by kernel_rfl)
theorem ty151 : TyQ (151, mkTI Try.t151 Try.t5 true) := tyQ (by kernel_rfl) (by kernel_rfl) (by kernel_rfl) (by kernel_rfl)
theorem ty152 : TyQ (152, mkTI Try.t152 Try.t5 true) := tyQ (by kernel_rfl) (by kernel_rfl) (by kernel_rfl) (by kernel_rfl)
theorem ty153 : TyQ (153, mkTI Try.t153 Try.t153 true) := tyQ (by kernel_rfl) (by kernel_rfl) (by kernel_rfl) (by kernel_rfl)
theorem ty154 : TyQ (154, mkTI Try.t154 Try.t154 true) := tyQ (by kernel_rfl) (by kernel_rfl) (by kernel_rfl) (by kernel_rfl)
theorem ty155 : TyQ (155, mkTI Try.t155 Try.t21 true) := tyQ (by kernel_rfl) (by kernel_rfl) (by kernel_rfl) (by kernel_rfl)
theorem ty156 : TyQ (156, mkTI Try.t156 Try.t21 true) := tyQ (by kernel_rfl) (by kernel_rfl) (by kernel_rfl) (by kernel_rfl)
theorem ty157 : TyQ (157, mkTI Try.t157 Try.t157 false) := tyQ (by kernel_rfl) (by kernel_rfl) (by kernel_rfl) (by kernel_rfl)
theorem ty158 : TyQ (158, mkTI Try.t158 Try.t157 false) := tyQ (by kernel_rfl) (by kernel_rfl) (by kernel_rfl) (by kernel_rfl)
theorem ty159 : TyQ (159, mkTI Try.t159 Try.t159 true) := tyQ (by kernel_rfl) (by kernel_rfl) (by kernel_rfl) (by kernel_rfl)
theorem tyTab_ok : AllB TyQ tyTab :=
  ⟨ty79, ⟨ty39, ⟨ty19, ⟨ty10, ⟨ty5, ⟨ty3, ⟨ty2, ⟨ty1, trivial, trivial⟩, trivial⟩, ⟨ty4, trivial, trivial⟩⟩, ⟨ty8, ⟨ty7, ⟨ty6, trivial, trivial⟩, trivial⟩, ⟨ty9, trivial, trivial⟩⟩⟩, ⟨ty15, ⟨ty13, ⟨ty12, ⟨ty11, trivial, trivial⟩, trivial⟩, ⟨ty14, trivial, trivial⟩⟩, ⟨ty17, ⟨ty16, trivial, trivial⟩, ⟨ty18, trivial, trivial⟩⟩⟩⟩, ⟨ty29, ⟨ty24, ⟨ty22, ⟨ty21, ⟨ty20, trivial, trivial⟩, trivial⟩, ⟨ty23, trivial, trivial⟩⟩, ⟨ty27, ⟨ty26, ⟨ty25, trivial, trivial⟩, trivial⟩, ⟨ty28, trivial, trivial⟩⟩⟩, ⟨ty34, ⟨ty32, ⟨ty31, ⟨ty30, trivial, trivial⟩, trivial⟩, ⟨ty33, trivial, trivial⟩⟩, ⟨ty36, ⟨ty35, trivial, trivial⟩, ⟨ty38, trivial, trivial⟩⟩⟩⟩⟩, ⟨ty59, ⟨ty50, ⟨ty44, ⟨ty42, ⟨ty41, ⟨ty40, trivial, trivial⟩, trivial⟩, ⟨ty43, trivial, trivial⟩⟩, ⟨ty47, ⟨ty46, ⟨ty45, trivial, trivial⟩, trivial⟩, ⟨ty48, trivial, trivial⟩⟩⟩, ⟨ty55, ⟨ty53, ⟨ty52, ⟨ty51, trivial, trivial⟩, trivial⟩, ⟨ty54, trivial, trivial⟩⟩, ⟨ty57, ⟨ty56, trivial, trivial⟩, ⟨ty58, trivial, trivial⟩⟩⟩⟩, ⟨ty70, ⟨ty65, ⟨ty63, ⟨ty62, ⟨ty61, trivial, trivial⟩, trivial⟩, ⟨ty64, trivial, trivial⟩⟩, ⟨ty68, ⟨ty67, ⟨ty66, trivial, trivial⟩, trivial⟩, ⟨ty69, trivial, trivial⟩⟩⟩, ⟨ty75, ⟨ty73, ⟨ty72, ⟨ty71, trivial, trivial⟩, trivial⟩, ⟨ty74, trivial, trivial⟩⟩, ⟨ty77, ⟨ty76, trivial, trivial⟩, ⟨ty78, trivial, trivial⟩⟩⟩⟩⟩⟩, ⟨ty120, ⟨ty100, ⟨ty89, ⟨ty84, ⟨ty82, ⟨ty81, ⟨ty80, trivial, trivial⟩, trivial⟩, ⟨ty83, trivial, trivial⟩⟩, ⟨ty87, ⟨ty86, ⟨ty85, trivial, trivial⟩, trivial⟩, ⟨ty88, trivial, trivial⟩⟩⟩, ⟨ty95, ⟨ty93, ⟨ty92, ⟨ty91, trivial, trivial⟩, trivial⟩, ⟨ty94, trivial, trivial⟩⟩, ⟨ty97, ⟨ty96, trivial, trivial⟩, ⟨ty99, trivial, trivial⟩⟩⟩⟩, ⟨ty110, ⟨ty105, ⟨ty103, ⟨ty102, ⟨ty101, trivial, trivial⟩, trivial⟩, ⟨ty104, trivial, trivial⟩⟩, ⟨ty108, ⟨ty107, ⟨ty106, trivial, trivial⟩, trivial⟩, ⟨ty109, trivial, trivial⟩⟩⟩, ⟨ty116, ⟨ty113, ⟨ty112, ⟨ty111, trivial, trivial⟩, trivial⟩, ⟨ty115, trivial, trivial⟩⟩, ⟨ty118, ⟨ty117, trivial, trivial⟩, ⟨ty119, trivial, trivial⟩⟩⟩⟩⟩, ⟨ty141, ⟨ty131, ⟨ty126, ⟨ty123, ⟨ty122, ⟨ty121, trivial, trivial⟩, trivial⟩, ⟨ty125, trivial, trivial⟩⟩, ⟨ty129, ⟨ty128, ⟨ty127, trivial, trivial⟩, trivial⟩, ⟨ty130, trivial, trivial⟩⟩⟩, ⟨ty137, ⟨ty134, ⟨ty133, ⟨ty132, trivial, trivial⟩, trivial⟩, ⟨ty135, trivial, trivial⟩⟩, ⟨ty139, ⟨ty138, trivial, trivial⟩, ⟨ty140, trivial, trivial⟩⟩⟩⟩, ⟨ty151, ⟨ty146, ⟨ty144, ⟨ty143, ⟨ty142, trivial, trivial⟩, trivial⟩, ⟨ty145, trivial, trivial⟩⟩, ⟨ty149, ⟨ty148, ⟨ty147, trivial, trivial⟩, trivial⟩, ⟨ty150, trivial, trivial⟩⟩⟩, ⟨ty156, ⟨ty154, ⟨ty153, ⟨ty152, trivial, trivial⟩, trivial⟩, ⟨ty155, trivial, trivial⟩⟩, ⟨ty158, ⟨ty157, trivial, trivial⟩, ⟨ty159, trivial, trivial⟩⟩⟩⟩⟩⟩⟩
theorem mixed_ok : Try.prog.follows .mixedOrders = true := by kernel_rfl
/-- The tables tell the program. -/
theorem env_ok {V : Nat → Value} {tab : BinOp → AC → AC → Option AC} {cvt : IntKind → AC → Option AC} {ext : Nat → List AV → St → Option (AV × St)}
    (ht : ∀ op a b z, tab op a b = some z → ∀ ρ x y, CR V ρ a x → CR V ρ b y → ∃ k n k' n' c, x = .int k n ∧ y = .int k' n' ∧ CR V ρ z c ∧ ∀ xt, binOp op xt x y = .pure c)
    (hc : ∀ k i z, cvt k (.sym i) = some z → ∀ ρ, ∃ k' n, V i = .int k' n ∧ CR V ρ z (.int k (k.wrap n))) (h1 : ∀ i, (V i).oneCell' = true) : EnvOK Try.prog V (env tab cvt ext) :=
  ⟨fun f g h => fnTab_ok.get h, fun t ti h => tyTab_ok.get h, ht, hc, h1, mixed_ok⟩
theorem env0 {ext : Nat → List AV → St → Option (AV × St)} : EnvOK Try.prog (fun _ => .bool true) (env noTab noCvt ext) :=
  env_ok (fun op a b z h => (by cases h)) (fun k i z h => (by cases h)) (fun _ => rfl)
end Ab
end Go.Proofs.Ytddiclnkfhldlaa
