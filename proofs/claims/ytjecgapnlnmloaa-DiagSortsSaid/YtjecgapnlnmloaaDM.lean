/- A part of the proof: an interpreter of the program, shown right once, and the laws that it computes. -/
import Derived.Test.YtjecgapnlnmloaaDL
import Derived.Deep.DeepMust
namespace Go.Proofs.Ytjecgapnlnmloaa
open Go.RowKit Go.Shelf Go.Lib Go.Sort Go.DiagLaw
set_option linter.unusedVariables false
namespace D
/-- append of nothing onto a slice of no element. -/
theorem run_append_none {P : Program} (w : World) (t ty elem : TypeId) (b : Addr) (a : Option Addr) (c : Nat) (ht : P.underlying t = some (.slice elem)) (k : Nat) (hs : (P.info? elem).map (·.size) = some k) :
    (Builtin.append_ #[t, t] ty #[.slice (some b) 0 0, .slice a 0 c]).run P w = .ok (.slice (some b) 0 0) w := by
  cases hq : P.info? elem with
  | none => simp [hq] at hs
  | some i =>
    have hl : ∀ (x : Addr), (loadCells x 0).run P w = .ok #[] w := fun x => by simpa using run_loadCells_list (P := P) w x [] (by simp)
    cases a <;> simp [Builtin.append_, run_underlying ht, Builtin.lenOf, Builtin.firstCells, sizeOf, typeInfo, hq, storeCells, hl]
/-- A row appended to a new slice of no element: a row of one's own, in a step of a region that draws. -/
theorem wpList_append_row {ops : Array Oper} {rest : List Oper} {o : Oper} {a : Act} {w : World} {Q : Exit → Act → World → Prop} (hw : Region.wanted o (yielded ops a.tmps) = true) (s x : Operand)
    (ho : o.op = .call { callee := .builtin .append, args := #[s, x], argTypes := #[29, 29] }) (g : Nat) (hs : a.eval s = .slice (some ⟨g, 0, none⟩) 0 0) (hg : w.heap[g]? = some (.cells #[] 34))
    (ax : Option Addr) (n c : Nat) (hx : a.eval x = .slice ax n c) (L : List Dg) (hL : DRow w ax L) (hn : L.length = n) (hn60 : n ≤ 60) (B : Nat) (w0 : World) (hb : RowKit.Below B w0 w) (hB : w0.heap.size = B) (hBg : B ≤ g)
    (h : ∀ a' k w', DRow w' a' L → RowKit.Below B w0 w' → wpList Try.prog ops Q rest (a.put o.dst (.slice a' n k)) w') : wpList Try.prog ops Q (o :: rest) a w := by
  refine wpList_step fun K hK => ?_
  rw [if_pos hw]
  replace h : ∀ a' k w', DRow w' a' L → RowKit.Below B w0 w' → K (a.put o.dst (.slice a' n k)) w' := fun a' k w' h1 h2 => hK _ _ (h a' k w' h1 h2)
  obtain ⟨i0, hi, hz0, hz1, hz2⟩ := info_parts info34
  have hsz34 : (Try.prog.info? 34).map (·.size) = some 3 := by rw [hi]; simp [hz1]
  by_cases h0 : n = 0
  · subst h0
    have hrun := run_append_none (P := Try.prog) w 29 o.type 34 ⟨g, 0, none⟩ ax c Try.underlying29 3 hsz34
    unfold Oper.wp
    simp [execOp, ho, resolve, invoke, builtin, hs, hx, hrun, Result.andThen]
    exact h _ _ w (fun i hi => absurd hi (by omega)) hb
  · obtain ⟨b, of, rfl, hbw, _⟩ := hL 0 (by omega)
    have hBw : B ≤ w.heap.size := by rw [← hB]; exact hb.size
    have hown : w.ownsRow B 34 3 (.slice (some ⟨g, 0, none⟩) 0 0) 0 [] := ⟨by simp, .inr ⟨g, 0, #[], rfl, hBg, hg, Nat.le_refl _, by unfold maxLen; omega, by simp, by simp⟩⟩
    refine wp_append_lies w s x 29 ho B 34 i0 (dg 0 0 0) 3 24 Try.underlying29 hi hz0 hz1 hz2 rfl (by decide) _ 0 [] hs hown ⟨b, of, none⟩ n c (fl L) hx (by rw [fl_length, hn]) ?_ (fun u hu => fl_one L u hu) (by omega) (by unfold maxLen; omega) (by omega) hBw _ rfl ?_
    · intro j u hj
      rw [show (⟨b, of, none⟩ : Addr).add j = ⟨b, of + j, none⟩ by (unfold Addr.add; split <;> simp_all)]
      exact fl_at hL j u hj
    · intro g' cap w' hown' hgrow hat hlt
      rw [List.nil_append, Nat.zero_add] at hown'
      obtain ⟨a', k', e', hR⟩ := drow_of_own (v := .slice (some ⟨g', 0, none⟩) n cap) hn hown'
      cases e'
      rw [Nat.zero_add]
      exact h _ _ w' hR (hb.grown hgrow hBw (fun j hj => by cases hj; exact hBg))
set_option maxRecDepth 100000 in
set_option maxHeartbeats 1000000 in
theorem sorts6 (known : ∀ w, Calls Try.prog 18 #[] w fun e w' => e = .returned (.bool true) ∧ Below w.heap.size w w') (a : Option Addr) (L : List Dg) (n c : Nat) (hLn : L.length = n) (w : World) (hL : DRow w a L) :
    Calls Try.prog 6 #[.slice a n c] w fun e w' => e = .returned (.bool true) ∧ Below w.heap.size w w' := by
  have HL : Aside (DRow w a L ∧ L.length = n) := ⟨hL, hLn⟩
  clear hL hLn
  by_cases hn : n ≤ 60
  · have hn' : ¬ (60 : Int) < n := by omega
    have mixed : Try.prog.follows .mixedOrders = true := by kernel_rfl
    go_enter Try.func6, Try.ntmps6
    go_wp2_with (go_at_call 18; with_reducible refine (known _).mono ?_; rintro e w1 ⟨rfl, hB1⟩; have hg := good19 a L n c HL.out.2 w1 (HL.out.1.below hB1))
    go_wp2_with (first
      | (go_at_call 19; go_must ((with_reducible refine hg.mono ?_); rintro e w2 ⟨m1, a1, k1, M, hm1, hM, rfl, hR1, hB2⟩; clear hg; generalize hV : Value.slice a n c = V; generalize hV1 : Value.slice a1 m1 k1 = V1; replace hV := hV.symm; replace hV1 := hV1.symm; have HV : Aside (V = .slice a n c) := hV; have HV1 : Aside (V1 = .slice a1 m1 k1) := hV1; clear hV hV1; have hB12 : Below w.heap.size w w2 := hB1.trans (hB2.mono hB1.size); have hsz := hB12.size; have G1 : Aside (DRow w2 a1 M ∧ M.length = m1) := ⟨hR1, hM⟩; clear hR1 hB1 hB2 hM))
      | (at_builtin; go_must (refine wpList_append_row (by kernel_rfl) (.tmp 11) (.tmp 12) rfl w2.heap.size rfl (by exact Array.getElem?_push_size) a n c HV.out L (HL.out.1.below (hB12.alloc hsz _)) HL.out.2 hn w2.heap.size w2 ((Below.refl _ w2).alloc (Nat.le_refl _) _) rfl (Nat.le_refl _) ?_)))
    intro a3 k3 w3 hR3 hB3'
    have hM3 : DRow w3 a1 M := G1.out.1.below hB3'
    have hB3 := hB12.trans (hB3'.mono hsz)
    clear hB3'
    have hs := sort21 a3 L n k3 HL.out.2 hn w3 hR3
    have hr := fun W (hW : DRow W a L) => sort22 a L n c HL.out.2 hn W hW
    have hls : (sortD L).length ≤ n := by unfold sortD; rw [upD_len, ← outK_all, ← HL.out.2]; exact outK_length L _ (Nat.le_refl _)
    generalize sortD L = C at hs hr hls
    obtain ⟨p, hp⟩ : ∃ p, C.length = p := ⟨_, rfl⟩
    rw [hp] at hs hr hls
    have HP : Aside (C.length = p) := hp
    have hd := fun x y k1 k2 W h1 h2 => diags20 x y C p k1 k2 HP.out (by omega) W h1 h2
    have hs2 := fun x k W hW => sort21 x M m1 k G1.out.2 (by omega) W hW
    have hr2 := fun W (hW : DRow W a1 M) => sort22 a1 M m1 k1 G1.out.2 (by omega) W hW
    have hls2 : (sortD M).length ≤ m1 := by unfold sortD; rw [upD_len, ← outK_all, ← G1.out.2]; exact outK_length M _ (Nat.le_refl _)
    generalize sortD M = C2 at hs2 hr2 hls2
    obtain ⟨p2, hp2⟩ : ∃ p, C2.length = p := ⟨_, rfl⟩
    rw [hp2] at hs2 hr2 hls2
    have HP2 : Aside (C2.length = p2) := hp2
    have hd2 := fun x y k1 k2 W h1 h2 => diags20 x y C2 p2 k1 k2 HP2.out (by omega) W h1 h2
    clear hp hp2
    go_wp2_with (first
      | (go_at_call 21; (with_reducible refine hs.mono ?_); rintro e w4 ⟨a4, k4, rfl, hR4, hB4⟩; have hB34 := hB3.trans (hB4.mono hB3.size); have hM4 := hM3.below hB4)
      | (go_at_call 22; rw [HV.out]; (with_reducible refine (hr _ (HL.out.1.below hB34)).mono ?_); rintro e w5 ⟨a5, k5, rfl, hR5, hB5⟩; have hB35 := hB34.trans (hB5.mono hB34.size); have hM5 := hM4.below hB5)
      | (go_at_call 20; (with_reducible refine (hd _ _ _ _ _ (hR4.below hB5) hR5).mono ?_); rintro e w6 ⟨rfl, hB6⟩; have hB36 := hB35.trans (hB6.mono hB35.size); have hs36 := hB36.size; have hM6 := hM5.below hB6)
      | (at_builtin; go_must (refine wpList_append_row (by kernel_rfl) (.tmp 19) (.tmp 20) rfl w6.heap.size rfl (by exact Array.getElem?_push_size) a1 m1 k1 HV1.out M (hM6.below ((Below.refl _ w6).alloc (Nat.le_refl _) _)) G1.out.2 (by omega) w6.heap.size w6 ((Below.refl _ w6).alloc (Nat.le_refl _) _) rfl (Nat.le_refl _) ?_)))
    intro a7 k7 w7 hR7 hB7
    have hM7 : DRow w7 a1 M := hM6.below hB7
    have hB37 := hB36.trans (hB7.mono hs36)
    have hs21 := hs2 a7 k7 w7 hR7
    go_wp2_with (first
      | (go_at_call 21; (with_reducible refine hs21.mono ?_); rintro e w8 ⟨a8, k8, rfl, hR8, hB8⟩; have hB38 := hB37.trans (hB8.mono hB37.size); have hM8 := hM7.below hB8)
      | (go_at_call 22; rw [HV1.out]; (with_reducible refine (hr2 _ hM8).mono ?_); rintro e w9 ⟨a9, k9, rfl, hR9, hB9⟩; have hB39 := hB38.trans (hB9.mono hB38.size))
      | (go_at_call 20; (with_reducible refine (hd2 _ _ _ _ _ (hR8.below hB9) hR9).mono ?_); rintro e w10 ⟨rfl, hB10⟩; have hB310 := hB39.trans (hB10.mono hB39.size)))
    go_ret
    exact ⟨rfl, hB310⟩
  · have hn' : (60 : Int) < n := by omega
    go_enter Try.func6, Try.ntmps6
    go_wp2_with (go_at_call 18; with_reducible refine (known _).mono ?_; rintro e w1 ⟨rfl, hB1⟩)
    go_ret
    exact ⟨rfl, hB1⟩
end D
end Go.Proofs.Ytjecgapnlnmloaa
