/- A part of the proof: an interpreter of the program, shown right once, and the laws that it computes. -/
import Derived.Test.YtpanfhfcpniodaaGreatDoorTWo
import Derived.WalkLawsBesides
namespace Go.Proofs.YtpanfhfcpniodaaGreatDoor
open Go.Eng Go.RowKit Go.MapF Go.MapKept
set_option linter.unusedVariables false
/-- Whether the k-th key stood there. -/
def dup (K : Nat → Nat) (k : Nat) : Bool := (List.range k).any fun i => K i == K k
def dups (K : Nat → Nat) : Nat → List Nat
  | 0 => []
  | k + 1 => if dup K k then dups K k ++ [k] else dups K k
theorem dups_len (K : Nat → Nat) : ∀ k, (dups K k).length ≤ k
  | 0 => Nat.le_refl _
  | k + 1 => by
    have := dups_len K k
    rw [dups]
    split
    · simp; omega
    · omega
theorem dup_iff (K : Nat → Nat) (k : Nat) : dup K k = true ↔ ∃ i, i < k ∧ K i = K k := by
  unfold dup
  simp
/-- What was counted. -/
structure Cnt (w : World) (sb cnt : Nat) (G : Value → Option Value) (L : List Nat) (k : Nat) : Prop where
  map : MapF w (.int .i64) sb cnt G
  val : ∀ (c : Int), G (.int .i64 c) = none ∨ ∃ m : Nat, 0 < m ∧ m ≤ k ∧ G (.int .i64 c) = some (.int .i64 (m : Nat))
  met : ∀ (c : Nat), G (.int .i64 (c : Nat)) ≠ none ↔ ∃ i, i < k ∧ L.getD (2 * i) 0 = c
theorem Cnt.keep {w w' : World} {sb cnt : Nat} {G : Value → Option Value} {L : List Nat} {k : Nat} (h : Cnt w sb cnt G L k) (e : w'.heap[sb]? = w.heap[sb]?) : Cnt w' sb cnt G L k := ⟨h.map.congr e, h.val, h.met⟩
theorem isKeyI (c : Int) : IsKey (.int .i64) (.int .i64 c) := by trivial
theorem und63 : Tryz.prog.underlying 63 = some (.map 3 3) := by kernel_rfl
theorem und3 : Tryz.prog.underlying 3 = some (.int .i64) := by kernel_rfl
theorem Cnt.first (w : World) (sb : Nat) (L : List Nat) (h : w.heap[sb]? = some (.map #[] 0)) : Cnt w sb 0 (fun _ => none) L 0 :=
  ⟨⟨#[], 0, h, rfl, stamped_empty 0, fun x hx => absurd hx (by simp), fun k v _ => by simp⟩, fun c => .inl rfl, fun c => by simp⟩
open Classical in
/-- One more is counted. -/
theorem Cnt.step {w : World} {sb cnt : Nat} {G : Value → Option Value} {L : List Nat} {k : Nat} (h : Cnt w sb cnt G L k) (c : Nat) (hc : L.getD (2 * k) 0 = c) :
    ∃ m : Nat, m ≤ k ∧ (0 < m ↔ ∃ i, i < k ∧ L.getD (2 * i) 0 = c) ∧ (Instr.lookup 63 (.map (some sb)) (.int .i64 (c : Nat)) false).run Tryz.prog w = .ok (.int .i64 (m : Nat)) w ∧
      ∃ W2, (Instr.mapUpdate 63 (.map (some sb)) (.int .i64 (c : Nat)) (.int .i64 ((m : Int) + 1))).run Tryz.prog w = .ok () W2 ∧ (∀ b, b ≠ sb → W2.heap[b]? = w.heap[b]?) ∧ Below sb w W2 ∧ ∃ cnt' G', Cnt W2 sb cnt' G' L (k + 1) := by
  have hl := (h.map.lookup und63 und3 (isKeyI (c : Nat)) zero3).2
  have key : ∃ m : Nat, m ≤ k ∧ (0 < m ↔ ∃ i, i < k ∧ L.getD (2 * i) 0 = c) ∧ (G (.int .i64 (c : Nat))).getD (.int .i64 0) = .int .i64 (m : Nat) := by
    rcases h.val (c : Nat) with h0 | ⟨m, m1, m2, m3⟩
    · refine ⟨0, Nat.zero_le _, ⟨fun h => absurd h (Nat.lt_irrefl 0), fun he => ?_⟩, by rw [h0]; rfl⟩
      exact absurd h0 ((h.met c).2 he)
    · exact ⟨m, m2, ⟨fun _ => (h.met c).1 (by rw [m3]; simp), fun _ => m1⟩, by rw [m3]; rfl⟩
  obtain ⟨m, m1, m2, m3⟩ := key
  rw [m3] at hl
  obtain ⟨W2, h1, h2, h3, h4⟩ := h.map.update und63 und3 (isKeyI (c : Nat)) (.int .i64 ((m : Int) + 1))
  refine ⟨m, m1, m2, hl, W2, h1, h3, h4, _, fun x => if x = .int .i64 (c : Nat) then some (.int .i64 ((m : Int) + 1)) else G x, h2 _ (if_pos rfl) (fun k' hk => if_neg hk), fun d => ?_, fun d => ?_⟩
  · by_cases e : Value.int .i64 d = .int .i64 (c : Nat)
    · refine .inr ⟨m + 1, by omega, by omega, ?_⟩
      rw [if_pos e]; simp
    · rw [if_neg e]
      rcases h.val d with h0 | ⟨m', n1, n2, n3⟩
      · exact .inl h0
      · exact .inr ⟨m', n1, by omega, n3⟩
  · by_cases e : d = c
    · subst e
      rw [if_pos rfl]
      exact ⟨fun _ => ⟨k, by omega, hc⟩, fun _ => by simp⟩
    · rw [if_neg (fun he => by injection he with _ he; omega), h.met d]
      constructor
      · rintro ⟨i, i1, i2⟩; exact ⟨i, by omega, i2⟩
      · rintro ⟨i, i1, i2⟩
        refine ⟨i, ?_, i2⟩
        by_cases hik : i = k
        · subst hik; omega
        · omega
/-- All but one block stays. -/
structure But (sb : Nat) (w w' : World) : Prop where
  size : w.heap.size ≤ w'.heap.size
  block : ∀ b, b < w.heap.size → b ≠ sb → w'.heap[b]? = w.heap[b]?
theorem But.cell {sb : Nat} {w w' : World} (h : But sb w w') {b o : Nat} {x : Value} (hb : b ≠ sb) (hc : w.cell? ⟨b, o, none⟩ = some x) : w'.cell? ⟨b, o, none⟩ = some x := by
  rw [World.cell?_of_block (h.block b (lt_cell hc) hb)]; exact hc

set_option maxRecDepth 100000 in
theorem clone24_nil (w : World) : Calls Tryz.prog 24 #[.slice none 0 0] w fun e w' => e = .returned (.slice none 0 0) ∧ w' = w := by
  have q25 : ∀ (w : World) (a : Option Addr) (n c n' c' : Nat), (binOp .eql 25 (.slice a n c) (.slice none n' c')).run Tryz.prog w = .ok (.bool a.isNone) w := fun w a n c n' c' => Lib.run_eql_slice_nil w _ _ a n c n' c' Tryz.underlying25
  go_enter Tryz.func24, Tryz.ntmps24
  go_wp2
  go_ret
  exact ⟨rfl, rfl⟩
set_option maxRecDepth 100000 in
theorem clone24 (g cap n : Nat) (L : List Nat) (hL : L.length = n) (hn : 0 < n) (hn2 : n ≤ 40) (w : World) (hc : ∀ j x, L[j]? = some x → w.cell? ⟨g, j, none⟩ = some (.int .i64 (x : Nat))) : Calls Tryz.prog 24 #[.slice (some ⟨g, 0, none⟩) n cap] w fun e w' =>
    ∃ g' cap', e = .returned (.slice (some ⟨g', 0, none⟩) n cap') ∧ (∀ j x, L[j]? = some x → w'.cell? ⟨g', j, none⟩ = some (.int .i64 (x : Nat))) ∧ Below w.heap.size w w' := by
  obtain ⟨i0, hi, hz0, hz1, hz2⟩ := info_parts info3
  have hown0 : (w.alloc (.cells #[] 3)).ownsRow w.heap.size 3 1 (.slice (some ⟨w.heap.size, 0, none⟩) 0 0) 0 [] := by
    refine ⟨rfl, .inr ⟨w.heap.size, 0, #[], rfl, Nat.le_refl _, heap_alloc_new w _, Nat.le_refl _, by unfold maxLen; omega, rfl, rfl⟩⟩
  have q25 : ∀ (w : World) (a : Option Addr) (n c n' c' : Nat), (binOp .eql 25 (.slice a n c) (.slice none n' c')).run Tryz.prog w = .ok (.bool a.isNone) w := fun w a n c n' c' => Lib.run_eql_slice_nil w _ _ a n c n' c' Tryz.underlying25
  go_enter Tryz.func24, Tryz.ntmps24
  go_wp2_with (at_builtin; refine wpList_append_own _ rfl (.tmp 5) (.tmp 6) 25 rfl w.heap.size 3 i0 (.int .i64 0) 1 8 Tryz.underlying25 hi hz0 hz1 hz2 rfl (by decide) _ _ _ rfl hown0 ⟨g, 0, none⟩ n cap (ints L) rfl (by rw [ints_len, hL]; omega) ?c1 ?c2 ?c3 ?c4 ?c5 ?_)
  case c1 =>
    intro j u hj
    unfold ints at hj
    rw [List.getElem?_map] at hj
    cases hx : L[j]? with
    | none => rw [hx] at hj; cases hj
    | some x =>
      rw [hx] at hj
      have := hc j x hx
      have e : (({ block := g, off := 0 } : Addr).add j) = ⟨g, j, none⟩ := by simp [Addr.add]; omega
      rw [e]
      cases hj
      exact cellB ((Below.refl w.heap.size w).alloc (Nat.le_refl _) _) (lt_cell this) this
  case c2 => intro u hu; unfold ints at hu; obtain ⟨x, _, rfl⟩ := List.mem_map.1 hu; rfl
  case c3 => unfold maxLen; omega
  case c4 => omega
  case c5 => simp
  · intro v' w3 hown' hgrow _
    have hB3 := ((Below.refl w.heap.size w).alloc (Nat.le_refl _) (.cells #[] 3)).grown hgrow (by simp) (fun i hi => by have := (hown0.lt i hi).1; omega)
    try simp only [List.nil_append, Nat.zero_add] at hown'
    rw [← hL] at hown'
    obtain ⟨g', cap', rfl, h1, h2, h3⟩ := own_cells hown' (by intro h; rw [h] at hL; simp at hL; omega)
    go_wp2
    go_ret
    exact ⟨g', cap', by rw [← hL]; rfl, h3, hB3⟩
theorem GraphW.below {w w' : World} {n : Nat} {K : Nat → Nat} {bv ov bk ok ck B : Nat} (h : GraphW w n K bv ov bk ok ck) (hB : Below B w w') (hv : bv < B) (hk : bk < B) : GraphW w' n K bv ov bk ok ck :=
  ⟨fun i hi => cellB hB hv (h.key0 i hi), fun i hi => cellB hB hv (h.key1 i hi), fun i hi => cellB hB hv (h.key2 i hi), fun i hi => cellB hB hv (h.key3 i hi), fun i hi => cellB hB hv (h.val0 i hi), fun i hi => cellB hB hv (h.val1 i hi), fun i hi => cellB hB hv (h.val2 i hi), fun i hi => cellB hB hv (h.val3 i hi),
    cellB hB hv h.top0, cellB hB hv h.top1, cellB hB hv h.top2, cellB hB hv h.top3, fun j hj => cellB hB hk (h.kid j hj)⟩
set_option maxRecDepth 100000 in
set_option maxHeartbeats 4000000 in
/-- Which keys stand there already. -/
theorem twice14 {n : Nat} {K : Nat → Nat} (hn : 0 < n) (hn2 : n ≤ 15) (hK : ∀ i, i < n → 97 ≤ K i ∧ K i ≤ 102) (bv ov cv bk ok ck M N : Nat) (hM : M = 2 * n) (hN : N = M + 1) (x1 x2 : Value) (o1 : x1.oneCell' = true) (o2 : x2.oneCell' = true) (w : World) (hG : GraphW w n K bv ov bk ok ck) (hbv : bv < w.heap.size) (hbk : bk < w.heap.size) :
    Calls Tryz.prog 14 #[.agg #[.slice (some ⟨bv, ov, none⟩) N cv, x1, x2], .int .i64 M] w fun e w' => ∃ (a : Option Addr) (c : Nat), e = .returned (.slice a (dups K n).length c) ∧ (∀ j x, (dups K n)[j]? = some x → ∃ g, a = some ⟨g, 0, none⟩ ∧ w'.cell? ⟨g, j, none⟩ = some (.int .i64 (x : Nat))) ∧ Below w.heap.size w w' := by
  obtain ⟨i0, hi, hz0, hz1, hz2⟩ := info_parts info3
  have hmm := @run_makeMap Tryz.prog
  have t0 : w.cell? ⟨bv, ov + M * 4, none⟩ = some (.int .i64 7) := by have := hG.top0; rw [show ov + (8 * n + 0) = ov + M * 4 by omega] at this; exact this
  have t3 : w.cell? ⟨bv, ov + M * 4 + 3, none⟩ = some (.slice (some ⟨bk, ok, none⟩) M ck) := by have := hG.top3; rw [show ov + (8 * n + 3) = ov + M * 4 + 3 by omega, ← hM] at this; exact this
  have HH : Aside0 (M = 2 * n ∧ N = M + 1 ∧ GraphW w n K bv ov bk ok ck ∧ (∀ i, i < n → 97 ≤ K i ∧ K i ≤ 102)) := ⟨hM, hN, hG, hK⟩
  have hM2 : M ≤ 30 := by omega
  have hlt : (M : Int) < N := by omega
  have h0 : (0 : Int) ≤ M := by omega
  have hlt' : M < N := by omega
  clear hM hN hG hK
  have hof := fun (W : World) (mb : Nat) (h1 : W.heap[mb]? = some (.map #[] 0)) (h2 : GraphW W n K bv ov bk ok ck) (h3 : bv < mb) (h4 : bk < mb) => of22 hn hn2 HH.out.2.2.2 bv ov cv bk ok ck mb N (by have := HH.out.1; have := HH.out.2.1; omega) x1 x2 o1 o2 W h1 h2 h3 h4
  go_enter Tryz.func14, Tryz.ntmps14
  go_wp2_with fail
  have eb : (w.alloc (.cells #[.slice (some ⟨bv, ov, none⟩) N cv, x1, x2] 32)).heap[w.heap.size]? = some (.cells #[.slice (some ⟨bv, ov, none⟩) N cv, x1, x2] 32) := heap_alloc_new w _
  have hBa : Below w.heap.size w (w.alloc (.cells #[.slice (some ⟨bv, ov, none⟩) N cv, x1, x2] 32)) := (Below.refl _ w).alloc (Nat.le_refl _) _
  have hsa : (w.alloc (.cells #[.slice (some ⟨bv, ov, none⟩) N cv, x1, x2] 32)).heap.size = w.heap.size + 1 := by simp
  generalize (w.alloc (.cells #[.slice (some ⟨bv, ov, none⟩) N cv, x1, x2] 32)) = W0 at *
  have hmW : (W0.alloc (.map #[] 0)).heap[w.heap.size + 1]? = some (.map #[] 0) := by have := heap_alloc_new W0 (.map #[] 0); rw [hsa] at this; exact this
  have hBb : Below w.heap.size w (W0.alloc (.map #[] 0)) := hBa.alloc (by omega) _
  have ebb := (heap_alloc_old W0 (.map #[] 0) (r := w.heap.size) (by omega)).trans eb
  (with_reducible refine (hof _ (w.heap.size + 1) hmW (HH.out.2.2.1.below hBb hbv hbk) (by omega) (by omega)).mono ?_)
  rintro e w5 ⟨bo, co, L, rfl, hL, hL2, hL3, hL4, hB5, hbo, hbm⟩
  have e5 := (hB5.block w.heap.size (by omega)).trans ebb
  have p5 : w5.cell? ⟨w.heap.size, 0, none⟩ = some (.slice (some ⟨bv, ov, none⟩) N cv) := cell_eq e5
  have hB6 : Below w.heap.size w w5 := hBb.trans (hB5.mono (by omega))
  have hz5 : w.heap.size + 1 < w5.heap.size := by omega
  have HL : Aside0 (L.length = N ∧ (∀ j x, L[j]? = some x → w5.cell? ⟨bo, j, none⟩ = some (.int .i64 (x : Nat))) ∧ (∀ i i', i < n → i' < n → (L.getD (2 * i) 0 = L.getD (2 * i') 0 ↔ K i = K i')) ∧ (∀ c ∈ L, c < 32)) := ⟨hL, hL3, hL4, hL2⟩
  clear hL hL2 hL3 hL4 e5 ebb eb hof hB5 hmW hBb hBa
  go_wp2
  have hm1 : (w5.alloc (.map #[] 0)).heap[w5.heap.size]? = some (.map #[] 0) := heap_alloc_new w5 _
  have hs1 : (w5.alloc (.map #[] 0)).heap.size = w5.heap.size + 1 := by simp
  have hBc : Below w5.heap.size w5 (w5.alloc (.map #[] 0)) := (Below.refl _ w5).alloc (Nat.le_refl _) _
  generalize hsb : w5.heap.size = sb at *
  generalize hW1 : w5.alloc (.map #[] 0) = W1 at *
  have hp1 : W1.cell? ⟨w.heap.size, 0, none⟩ = some (.slice (some ⟨bv, ov, none⟩) N cv) := cellB hBc (by show w.heap.size < sb; omega) p5
  have hp2 : W1.cell? ⟨bv, ov + M * 4 + 3, none⟩ = some (.slice (some ⟨bk, ok, none⟩) M ck) := cellB hBc (by show bv < sb; omega) (cellB hB6 hbv t3)
  have hp3 : ∀ m, m < M → W1.cell? ⟨bk, ok + m, none⟩ = some (.int .i64 m) := fun m hm => cellB hBc (by show bk < sb; omega) (cellB hB6 hbk (HH.out.2.2.1.kid m (by rw [← HH.out.1]; exact hm)))
  have hp4 : ∀ j x, L[j]? = some x → W1.cell? ⟨bo, j, none⟩ = some (.int .i64 (x : Nat)) := fun j x hx => cellB hBc (by show bo < sb; omega) (HL.out.2.1 j x hx)
  have HP : Aside0 ((∀ m, m < M → W1.cell? ⟨bk, ok + m, none⟩ = some (.int .i64 m)) ∧ (∀ j x, L[j]? = some x → W1.cell? ⟨bo, j, none⟩ = some (.int .i64 (x : Nat)))) := ⟨hp3, hp4⟩
  have HC : Aside0 (Cnt W1 sb 0 (fun _ => none) L 0) := ⟨Cnt.first W1 sb L hm1⟩
  have hB1 : Below w.heap.size w W1 := hB6.trans (hBc.mono (by omega))
  clear hp3 hp4 hm1 p5 t0 t3 hBc hB6 hW1
  go_loopw [7, 8] (fun v i wr => ∃ (k m cnt : Nat) (G : Value → Option Value), i = .int .i64 m ∧ m = 2 * k ∧ k ≤ n ∧ wr.ownsRow (sb + 1) 3 1 v (dups K k).length (ints (dups K k)) ∧ Cnt wr sb cnt G L k ∧ But sb W1 wr ∧ Below w.heap.size w wr ∧ (dups K k = [] → v = .slice none 0 0)) (fun _ i _ => M - (intOf i).toNat)
  case atStart => exact ⟨0, 0, 0, fun _ => none, rfl, rfl, Nat.zero_le _, World.ownsRow_nil _ _ 3 1, HC.out, ⟨Nat.le_refl _, fun _ _ _ => rfl⟩, hB1, fun _ => rfl⟩
  case round =>
    obtain ⟨k, m, cnt, G, rfl, hm, hk, hown, hC, hbut, hB, hnil⟩ := hrel
    have q1 := hbut.cell (by omega) hp1
    have q2 := hbut.cell (by omega) hp2
    by_cases hlt2 : k < n
    · have hmM : m + 1 < M := by have := HH.out.1; omega
      have c1 : (m : Int) + 1 < M := by omega
      have c2 : (0 : Int) ≤ m := by omega
      have c3 : (m : Int) < M := by omega
      have c4 : (m : Int) < N := by omega
      have c5 : ¬ (m : Int) < 0 := by omega
      have c6 : ¬ (N : Int) ≤ m := by omega
      have q3 := hbut.cell (by omega) (HP.out.1 m (by omega))
      have hLm : L[m]? = some (L.getD m 0) := by rw [List.getD_eq_getElem?_getD, List.getElem?_eq_getElem (by rw [HL.out.1]; omega)]; rfl
      have q4 := hbut.cell (by omega) (HP.out.2 m _ hLm)
      generalize hc : L.getD m 0 = c at *
      have hcK : L.getD (2 * k) 0 = c := by rw [← hm]; exact hc
      obtain ⟨mm, mm1, mm2, hlk, W2, hup, hsame, hB2, cnt', G', hC2⟩ := hC.step c hcK
      have hdup : dup K k = true ↔ 0 < mm := by
        rw [dup_iff, mm2]
        constructor
        · rintro ⟨i, h1, h2⟩
          exact ⟨i, h1, by rw [(HL.out.2.2.1 i k (by omega) hlt2).2 h2]; exact hcK⟩
        · rintro ⟨i, h1, h2⟩
          exact ⟨i, h1, (HL.out.2.2.1 i k (by omega) hlt2).1 (h2.trans hcK.symm)⟩
      have hwr := hbut.size
      rcases Nat.eq_zero_or_pos mm with hz | hpos
      · subst hz
        have hd : dups K (k + 1) = dups K k := by
          rw [dups, if_neg]
          intro h
          exact absurd (hdup.1 h) (Nat.lt_irrefl 0)
        have hlk0 : (Instr.lookup 63 (.map (some sb)) (.int .i64 (c : Nat)) false).run Tryz.prog wr = .ok (.int .i64 0) wr := hlk
        have hup0 : (Instr.mapUpdate 63 (.map (some sb)) (.int .i64 (c : Nat)) (.int .i64 1)).run Tryz.prog wr = .ok () W2 := hup
        have own2 := own_keep hown (by omega : sb < sb + 1) hsame
        have hbut2 : But sb W1 W2 := ⟨Nat.le_trans hbut.size hB2.size, fun b h1 h2 => (hsame b h2).trans (hbut.block b h1 h2)⟩
        have hBw2 := hB.trans (hB2.mono (by omega : w.heap.size ≤ sb))
        have HX : Aside0 (W2.ownsRow (sb + 1) 3 1 u7 (dups K k).length (ints (dups K k)) ∧ Cnt W2 sb cnt' G' L (k + 1) ∧ dups K (k + 1) = dups K k) := ⟨own2, hC2, hd⟩
        have HM : Aside0 (m = 2 * k) := ⟨hm⟩
        clear hown hC hlk hup own2 hC2 hd mm1 mm2 hdup hsame hcK hm hLm
        go_wp2
        refine ⟨⟨k + 1, m + 2, cnt', G', by simp, by have := HM.out; omega, by omega, by rw [HX.out.2.2]; exact HX.out.1, HX.out.2.1, hbut2, hBw2, by rw [HX.out.2.2]; exact hnil⟩, by simp only [intOf]; omega⟩
      · have hd : dups K (k + 1) = dups K k ++ [k] := by rw [dups, if_pos (hdup.2 hpos)]
        have hpos' : (0 : Int) < mm := by omega
        have hq : (m : Int).tdiv 2 = k := by rw [hm, Int.tdiv_eq_ediv_of_nonneg (by omega)]; omega
        have hlen := dups_len K k
        have HM : Aside0 (m = 2 * k ∧ dups K (k + 1) = dups K k ++ [k] ∧ Cnt wr sb cnt G L k ∧ L.getD (2 * k) 0 = c) := ⟨hm, hd, hC, hcK⟩
        generalize hD : dups K k = D at *
        have hLc : L[m]? = some c := hLm
        have HLc := Aside0.mk hLc
        clear hC hup hC2 hd mm1 mm2 hdup hsame hcK hm hLm hB2 hLc
        go_wp2_with (at_builtin; refine wpList_append_own _ rfl (.tmp 68) (.tmp 71) 25 rfl (sb + 1) 3 i0 (.int .i64 0) 1 8 Tryz.underlying25 hi hz0 hz1 hz2 rfl (by decide) _ _ _ rfl (hown.alloc _) ⟨wr.heap.size, 0, none⟩ 1 1 [.int .i64 (k : Nat)] rfl rfl ?c1 ?c2 ?c3 ?c4 ?c5 ?_)
        case c2 => exact rfl
        case c3 => unfold maxLen; omega
        case c4 => omega
        case c5 => omega
        · intro v' w3 hown' hgrow hnil'
          have hC3 := HM.out.2.2.1.keep ((hgrow.block sb (by simp; omega) (by
            intro e
            have := (hown.lt sb e.symm).1
            omega)).trans (heap_alloc_old wr _ (by omega)))
          have hbut3 : But sb W1 w3 := ⟨Nat.le_trans (by simp; omega) hgrow.size, fun b h1 h2 => (hgrow.block b (by simp; omega) (by
            intro e
            have := (hown.lt b e.symm).1
            omega)).trans ((heap_alloc_old wr _ (by omega)).trans (hbut.block b h1 h2))⟩
          have hB3 := (hB.alloc (by omega) (.cells #[.int .i64 (k : Nat)] 3)).grown hgrow (by simp; omega) (fun i hi => by have := (hown.lt i hi).1; omega)
          obtain ⟨m3, mm3, mm4, hlk3, W3, hup3, hsame3, hB4, cnt3, G3, hC4⟩ := hC3.step c HM.out.2.2.2
          have q5 := hbut3.cell (by omega) (HP.out.2 m _ HLc.out)
          have own3 := own_keep hown' (by omega : sb < sb + 1) hsame3
          have hz3 := hgrow.size
          have hbut4 : But sb W1 W3 := ⟨Nat.le_trans hbut3.size hB4.size, fun b h1 h2 => (hsame3 b h2).trans (hbut3.block b h1 h2)⟩
          have hB5 := hB3.trans (hB4.mono (by omega : w.heap.size ≤ sb))
          have c9 : (0 : Int) ≤ m3 := by omega
          have c10 : (m3 : Int) ≤ 15 := by omega
          have HX : Aside0 (W3.ownsRow (sb + 1) 3 1 v' (D.length + 1) (ints D ++ [.int .i64 (k : Nat)]) ∧ Cnt W3 sb cnt3 G3 L (k + 1)) := ⟨own3, hC4⟩
          clear hown hown' hC3 hC4 own3 mm3 mm4 hsame3 hgrow hlk hnil' hB4 hB3
          go_wp2
          refine ⟨⟨k + 1, m + 2, cnt3, G3, by simp, by have := HM.out.1; omega, by omega, by rw [HM.out.2.1, ← ints_add]; simpa using HX.out.1, HX.out.2, hbut4, hB5, fun h => ?_⟩, by simp only [intOf]; omega⟩
          rw [HM.out.2.1] at h
          simp at h
    · have hk' : k = n := by omega
      subst hk'
      have hmM : ¬ ((m : Int) + 1 < M) := by have := HH.out.1; omega
      have hmw : m ≤ 30 := by omega
      have HM : Aside0 (m = 2 * k) := ⟨hm⟩
      have hlen := dups_len K k
      clear hm hC
      by_cases hD : dups K k = []
      · have hv := hnil hD
        subst hv
        have h24 := clone24_nil
        clear hown hnil
        go_wp2_with (go_at_call 24; (with_reducible refine (h24 _).mono ?_); rintro e w' ⟨rfl, rfl⟩)
        go_ret
        exact ⟨none, 0, by rw [hD]; rfl, fun j x hj => by rw [hD] at hj; simp at hj, hB⟩
      · obtain ⟨g, cap, rfl, hg1, hg2, hg3⟩ := own_cells hown hD
        have hpos : 0 < (dups K k).length := List.length_pos_iff.2 hD
        have h24 := clone24 g cap (dups K k).length (dups K k) rfl hpos (by omega) wr hg3
        generalize hdd : (dups K k).length = d at *
        clear hown hnil hg3
        go_wp2_with (go_at_call 24; (with_reducible refine h24.mono ?_); rintro e w' ⟨g', cap', rfl, h1, h2⟩)
        go_ret
        exact ⟨some ⟨g', 0, none⟩, cap', by rw [hdd]; rfl, fun j x hj => ⟨g', rfl, h1 j x hj⟩, hB.trans (h2.mono hB.size)⟩
/-- A number, brought within bounds. -/
def wth (a : Int) : Nat := (if a.tmod 6 < 0 then a.tmod 6 + 6 else a.tmod 6).toNat
theorem wth_lt (a : Int) : wth a < 6 := by
  unfold wth
  have h1 := Int.lt_tmod_of_pos a (show (0 : Int) < 6 by omega)
  have h2 := Int.tmod_lt_of_pos a (show (0 : Int) < 6 by omega)
  split <;> omega
set_option maxRecDepth 100000 in
theorem within6_neg (a : Int) (w : World) (ha : a.tmod 6 < 0) :
    Calls Tryz.prog 6 #[.int .i64 a, .int .i64 6] w fun e w' => e = .returned (.int .i64 (a.tmod 6 + 6)) ∧ w' = w := by
  have hw : IntKind.i64.wrap (a.tmod 6 + 6) = a.tmod 6 + 6 := by
    have h1 := Int.lt_tmod_of_pos a (show (0 : Int) < 6 by omega)
    unfold IntKind.wrap
    simp [IntKind.signed, IntKind.bits]
    omega
  go_enter Tryz.func6, Tryz.ntmps6
  go_wp2
  go_ret
  exact ⟨by first | rfl | (show Ending.returned (Value.int IntKind.i64 _) = _; rw [hw]), rfl⟩
set_option maxRecDepth 100000 in
theorem within6_pos (a : Int) (w : World) (ha : ¬ a.tmod 6 < 0) :
    Calls Tryz.prog 6 #[.int .i64 a, .int .i64 6] w fun e w' => e = .returned (.int .i64 (a.tmod 6)) ∧ w' = w := by
  go_enter Tryz.func6, Tryz.ntmps6
  go_wp2
  go_ret
  exact ⟨rfl, rfl⟩
theorem within6 (a : Int) (w : World) : Calls Tryz.prog 6 #[.int .i64 a, .int .i64 6] w fun e w' => e = .returned (.int .i64 (wth a)) ∧ w' = w := by
  have h1 := Int.lt_tmod_of_pos a (show (0 : Int) < 6 by omega)
  unfold wth
  by_cases ha : a.tmod 6 < 0
  · rw [if_pos ha, show (((a.tmod 6 + 6).toNat : Nat) : Int) = a.tmod 6 + 6 by omega]
    exact within6_neg a w ha
  · rw [if_neg ha, show (((a.tmod 6).toNat : Nat) : Int) = a.tmod 6 by omega]
    exact within6_pos a w ha
end Go.Proofs.YtpanfhfcpniodaaGreatDoor
