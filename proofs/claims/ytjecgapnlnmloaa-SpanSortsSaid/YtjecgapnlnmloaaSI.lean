/- A part of the proof: an interpreter of the program, shown right once, and the laws that it computes. -/
import Derived.Test.YtjecgapnlnmloaaSG
import Derived.BigQuiet
import Derived.Shelf.SlSortCmp.QuietGrown
namespace Go.Proofs.Ytjecgapnlnmloaa
open Go.RowKit Go.Shelf Go.Lib Go.Sort Go.SpanLaw
set_option linter.unusedVariables false
set_option maxRecDepth 100000 in
set_option maxHeartbeats 400000 in
theorem reg14_eq {Q : Exit → Act → World → Prop} {ops : Array Oper} (hops : ops = ops14) (a0 : Option Addr) (k c0 b o m c1 j : Nat) (u1 u2 : Int) (w : World) (t0 t1 t2 t4 t7 t8 t9 t10 t11 t12 t13 t14 t15 t16 t17 t18 t19 t20 t21 t22 t23 t24 t25 t26 t27 t28 t29 t30 t31 t32 t33 t34 t35 t36 t37 t38 t39 t40 t41 t42 t43 t44 t45 t46 t47 t48 t49 t50 t51 t52 t53 t54 t55 t56 t57 t58 t59 t60 t61 t62 t63 t64 t65 t66 t67 t68 t69 t70 t71 t72 t73 t74 t75 t76 t77 t78 t79 t80 t81 t82 t83 t84 t85 t86 t87 t88 t89 t90 t91 t92 t93 t94 t95 t96 t97 t98 t99 t100 : Value) (mixed : Try.prog.follows .mixedOrders = true)
    (hh : ∀ n os, Calls Try.prog 26 #[.slice a0 k c0, sp u1 u2] (grow (w.drewN n) os) fun e w' => e = .returned (.bool true) ∧ ∃ q os', w' = grow ((grow (w.drewN n) os).drewN q) os')
    (h0n : 0 < j) (h40 : (j : Int) ≤ 40) (hm0 : (0 : Int) ≤ j) (hm : (j : Int) < m) (hj1 : (0 : Int) ≤ (j : Int) - 1) (hj2 : (j : Int) - 1 < m) (g1 : ∀ n os, (grow (w.drewN n) os).cell? ⟨b, o + j * 2, none⟩ = some (.int .i64 u1)) (g2 : ∀ n os, (grow (w.drewN n) os).cell? ⟨b, o + j * 2 + 1, none⟩ = some (.int .i64 u2))
    (x2 : Int) (p1 : ∀ n os, (grow (w.drewN n) os).cell? ⟨b, o + (j - 1) * 2, none⟩ = some (.int .i64 u1)) (p2 : ∀ n os, (grow (w.drewN n) os).cell? ⟨b, o + (j - 1) * 2 + 1, none⟩ = some (.int .i64 x2)) (q1 : decide (u2 ≤ x2) = false)
    (h : ∀ (s35 s36 s37 s38 s39 s40 s41 s42 s43 s44 s45 s46 s47 s48 s49 s50 s51 s52 s53 s54 s55 s56 s57 s58 s59 s60 s61 s62 s63 s64 s65 s66 s67 s68 s69 s70 s71 s72 s73 s74 s75 s76 s77 s78 s79 s80 s81 s82 s83 s84 s85 s86 : Value) (n : Nat) (os : Array Obj), Q .normal ⟨#[t0, t1, t2, .slice a0 k c0, t4, .slice (some ⟨b, o, none⟩) m c1, .int .i64 j, t7, t8, t9, t10, t11, t12, t13, t14, t15, t16, t17, t18, t19, t20, t21, t22, t23, t24, t25, t26, t27, t28, t29, t30, t31, t32, t33, t34, s35, s36, s37, s38, s39, s40, s41, s42, s43, s44, s45, s46, s47, s48, s49, s50, s51, s52, s53, s54, s55, s56, s57, s58, s59, s60, s61, s62, s63, s64, s65, s66, s67, s68, s69, s70, s71, s72, s73, s74, s75, s76, s77, s78, s79, s80, s81, s82, s83, s84, s85, s86, .bool false, t88, t89, t90, t91, t92, t93, t94, t95, t96, t97, t98, t99, t100], []⟩ (grow (w.drewN n) os)) :
    (Code.region 14 ops true).wp Try.prog Q ⟨#[t0, t1, t2, .slice a0 k c0, t4, .slice (some ⟨b, o, none⟩) m c1, .int .i64 j, t7, t8, t9, t10, t11, t12, t13, t14, t15, t16, t17, t18, t19, t20, t21, t22, t23, t24, t25, t26, t27, t28, t29, t30, t31, t32, t33, t34, t35, t36, t37, t38, t39, t40, t41, t42, t43, t44, t45, t46, t47, t48, t49, t50, t51, t52, t53, t54, t55, t56, t57, t58, t59, t60, t61, t62, t63, t64, t65, t66, t67, t68, t69, t70, t71, t72, t73, t74, t75, t76, t77, t78, t79, t80, t81, t82, t83, t84, t85, t86, t87, t88, t89, t90, t91, t92, t93, t94, t95, t96, t97, t98, t99, t100], []⟩ w := by
  subst hops
  unfold ops14 Try.f9
  dsimp only
  have H : Aside (∀ (s35 s36 s37 s38 s39 s40 s41 s42 s43 s44 s45 s46 s47 s48 s49 s50 s51 s52 s53 s54 s55 s56 s57 s58 s59 s60 s61 s62 s63 s64 s65 s66 s67 s68 s69 s70 s71 s72 s73 s74 s75 s76 s77 s78 s79 s80 s81 s82 s83 s84 s85 s86 : Value) (n : Nat) (os : Array Obj), Q .normal ⟨#[t0, t1, t2, .slice a0 k c0, t4, .slice (some ⟨b, o, none⟩) m c1, .int .i64 j, t7, t8, t9, t10, t11, t12, t13, t14, t15, t16, t17, t18, t19, t20, t21, t22, t23, t24, t25, t26, t27, t28, t29, t30, t31, t32, t33, t34, s35, s36, s37, s38, s39, s40, s41, s42, s43, s44, s45, s46, s47, s48, s49, s50, s51, s52, s53, s54, s55, s56, s57, s58, s59, s60, s61, s62, s63, s64, s65, s66, s67, s68, s69, s70, s71, s72, s73, s74, s75, s76, s77, s78, s79, s80, s81, s82, s83, s84, s85, s86, .bool false, t88, t89, t90, t91, t92, t93, t94, t95, t96, t97, t98, t99, t100], []⟩ (grow (w.drewN n) os)) := h
  clear h
  refine wp_region_quiet_grown (by assumption) (by kernel_rfl) ?_
  repeat (go_big_quiet_step (first | (go_at_call 26; with_reducible refine Calls.grown_of (hh _ _))))
  refine wpQuiet_nil ?_
  intro w' hw'
  obtain ⟨⟨nq, osq⟩, hw''⟩ := hw'
  subst hw''
  exact H.out _ _ _ _ _ _ _ _ _ _ _ _ _ _ _ _ _ _ _ _ _ _ _ _ _ _ _ _ _ _ _ _ _ _ _ _ _ _ _ _ _ _ _ _ _ _ _ _ _ _ _ _ _ _
end Go.Proofs.Ytjecgapnlnmloaa
