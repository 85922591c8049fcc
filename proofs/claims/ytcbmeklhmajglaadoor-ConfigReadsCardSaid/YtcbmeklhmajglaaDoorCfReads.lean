/- A part of the proof: what the functions of the program compute, shown once each; the last text holds the statement. No condition beyond those of the statement. -/
import Derived.Test.YtcbmeklhmajglaaDoorCfD
import Derived.Test.YtcbmeklhmajglaaDoorCfY
import Derived.Test.YtcbmeklhmajglaaDoorRows
import Derived.Test.YtcbmeklhmajglaaDoorTie
import Derived.Test.YtcbmeklhmajglaaDoorCards
import Derived.WalkKit
import Derived.ProofKit
import Derived.OpenShut
import Derived.ChangeOld
import Derived.ChangeMaps5
import Derived.Below
import Derived.SizedLaws
import Derived.HandedShaped
import Derived.LaidMore
import Derived.Lay
import Derived.SevenTiedAt
import Derived.Stop.Joined
import Derived.Deep.Grids
set_option linter.unusedSimpArgs false
set_option linter.unusedVariables false
section
namespace Go.Proofs.YtcbmeklhmajglaaDoor
open Go.RowKit Go.CfgLaw Go.Proofs.YtcbmeklhmajglaaDoorW.PrintWords Go.Proofs.YtcbmeklhmajglaaDoorW.PrintLast Go.Proofs.YtcbmeklhmajglaaDoorW.PrintMore
set_option linter.unusedVariables false
attribute [local go_sem] setCell_drewN alloc_drewN
attribute [local simp] setCell_drewN alloc_drewN
/-- The cells of a row of numbers. -/
def IntRow (w : World) (a : Option Addr) (n : Nat) : Prop := ∀ i, i < n → ∃ (b o : Nat) (x : Int), a = some ⟨b, o, none⟩ ∧ b < w.heap.size ∧ w.cell? ⟨b, o + i, none⟩ = some (.int .i64 x)
theorem IntRow.below {w W : World} {a : Option Addr} {n : Nat} (h : IntRow w a n) (hB : Below w.heap.size w W) : IntRow W a n := fun i hi => by
  obtain ⟨b, o, x, h1, h2, h3⟩ := h i hi
  exact ⟨b, o, x, h1, Nat.lt_of_lt_of_le h2 hB.size, (hB.cell (p := ⟨b, o + i, none⟩) h2).trans h3⟩
theorem add_some (t u : ByteArray) (h : t.size + u.size ≤ 9223372036854775807) : ∃ T : ByteArray, T.size = t.size + u.size ∧ ∀ w, (Op.stringOp .add t u).run Tryd.prog w = .ok (.string T) w :=
  ⟨t ++ u, ByteArray.size_append, fun w => run_string_add_sum w t u h⟩
set_option maxRecDepth 100000 in
theorem tab20_at (n : Nat) (hn : n < 20) : ∃ u : ByteArray, u.size ≤ 11 ∧ (#[Value.string { data := #[116, 114, 97, 105, 108, 32, 111, 102, 102] }, Value.string { data := #[108, 111, 110, 103, 32, 111, 110] }, Value.string { data := #[109, 97, 114, 107, 32, 111, 110] }, Value.string { data := #[32, 116, 119, 105, 99, 101, 9, 111, 102, 102] }, Value.string { data := #[119, 105, 100, 116, 104, 32, 52, 48] }, Value.string { data := #[105, 110, 100, 101, 110, 116, 32, 52] }, Value.string { data := #[108, 105, 110, 101, 115, 32, 48] }, Value.string { data := #[100, 101, 112, 116, 104, 32, 57] }, Value.string { data := #[] }, Value.string { data := #[119, 105, 100, 116, 104, 32, 53, 48, 49] }, Value.string { data := #[100, 101, 112, 116, 104, 32, 48, 53, 48] }, Value.string { data := #[119, 104, 97, 116, 32, 111, 110] }, Value.string { data := #[101, 110, 100] }, Value.string { data := #[101, 110, 100, 32, 111, 110, 32, 111, 110] }, Value.string { data := #[104, 97, 115, 104, 32, 121, 101, 115] }, Value.string { data := #[101, 109, 112, 116, 121, 32, 111, 102, 102] }, Value.string { data := #[99, 111, 109, 109, 97, 32, 111, 102, 102, 32, 32] }, Value.string { data := #[115, 116, 101, 112, 32, 111, 102, 102] }, Value.string { data := #[108, 105, 110, 101, 115, 32, 49, 48, 48, 48] }, Value.string { data := #[119, 105, 100, 116, 104, 32, 45, 49] }] : Array Value)[n]? = some (.string u) ∧ (∀ h, ([Value.string { data := #[116, 114, 97, 105, 108, 32, 111, 102, 102] }, Value.string { data := #[108, 111, 110, 103, 32, 111, 110] }, Value.string { data := #[109, 97, 114, 107, 32, 111, 110] }, Value.string { data := #[32, 116, 119, 105, 99, 101, 9, 111, 102, 102] }, Value.string { data := #[119, 105, 100, 116, 104, 32, 52, 48] }, Value.string { data := #[105, 110, 100, 101, 110, 116, 32, 52] }, Value.string { data := #[108, 105, 110, 101, 115, 32, 48] }, Value.string { data := #[100, 101, 112, 116, 104, 32, 57] }, Value.string { data := #[] }, Value.string { data := #[119, 105, 100, 116, 104, 32, 53, 48, 49] }, Value.string { data := #[100, 101, 112, 116, 104, 32, 48, 53, 48] }, Value.string { data := #[119, 104, 97, 116, 32, 111, 110] }, Value.string { data := #[101, 110, 100] }, Value.string { data := #[101, 110, 100, 32, 111, 110, 32, 111, 110] }, Value.string { data := #[104, 97, 115, 104, 32, 121, 101, 115] }, Value.string { data := #[101, 109, 112, 116, 121, 32, 111, 102, 102] }, Value.string { data := #[99, 111, 109, 109, 97, 32, 111, 102, 102, 32, 32] }, Value.string { data := #[115, 116, 101, 112, 32, 111, 102, 102] }, Value.string { data := #[108, 105, 110, 101, 115, 32, 49, 48, 48, 48] }, Value.string { data := #[119, 105, 100, 116, 104, 32, 45, 49] }] : List Value)[n]'h = .string u) := by
  match n, hn with
  | 0, _ => exact ⟨{ data := #[116, 114, 97, 105, 108, 32, 111, 102, 102] }, by decide, rfl, fun _ => rfl⟩
  | 1, _ => exact ⟨{ data := #[108, 111, 110, 103, 32, 111, 110] }, by decide, rfl, fun _ => rfl⟩
  | 2, _ => exact ⟨{ data := #[109, 97, 114, 107, 32, 111, 110] }, by decide, rfl, fun _ => rfl⟩
  | 3, _ => exact ⟨{ data := #[32, 116, 119, 105, 99, 101, 9, 111, 102, 102] }, by decide, rfl, fun _ => rfl⟩
  | 4, _ => exact ⟨{ data := #[119, 105, 100, 116, 104, 32, 52, 48] }, by decide, rfl, fun _ => rfl⟩
  | 5, _ => exact ⟨{ data := #[105, 110, 100, 101, 110, 116, 32, 52] }, by decide, rfl, fun _ => rfl⟩
  | 6, _ => exact ⟨{ data := #[108, 105, 110, 101, 115, 32, 48] }, by decide, rfl, fun _ => rfl⟩
  | 7, _ => exact ⟨{ data := #[100, 101, 112, 116, 104, 32, 57] }, by decide, rfl, fun _ => rfl⟩
  | 8, _ => exact ⟨{ data := #[] }, by decide, rfl, fun _ => rfl⟩
  | 9, _ => exact ⟨{ data := #[119, 105, 100, 116, 104, 32, 53, 48, 49] }, by decide, rfl, fun _ => rfl⟩
  | 10, _ => exact ⟨{ data := #[100, 101, 112, 116, 104, 32, 48, 53, 48] }, by decide, rfl, fun _ => rfl⟩
  | 11, _ => exact ⟨{ data := #[119, 104, 97, 116, 32, 111, 110] }, by decide, rfl, fun _ => rfl⟩
  | 12, _ => exact ⟨{ data := #[101, 110, 100] }, by decide, rfl, fun _ => rfl⟩
  | 13, _ => exact ⟨{ data := #[101, 110, 100, 32, 111, 110, 32, 111, 110] }, by decide, rfl, fun _ => rfl⟩
  | 14, _ => exact ⟨{ data := #[104, 97, 115, 104, 32, 121, 101, 115] }, by decide, rfl, fun _ => rfl⟩
  | 15, _ => exact ⟨{ data := #[101, 109, 112, 116, 121, 32, 111, 102, 102] }, by decide, rfl, fun _ => rfl⟩
  | 16, _ => exact ⟨{ data := #[99, 111, 109, 109, 97, 32, 111, 102, 102, 32, 32] }, by decide, rfl, fun _ => rfl⟩
  | 17, _ => exact ⟨{ data := #[115, 116, 101, 112, 32, 111, 102, 102] }, by decide, rfl, fun _ => rfl⟩
  | 18, _ => exact ⟨{ data := #[108, 105, 110, 101, 115, 32, 49, 48, 48, 48] }, by decide, rfl, fun _ => rfl⟩
  | 19, _ => exact ⟨{ data := #[119, 105, 100, 116, 104, 32, 45, 49] }, by decide, rfl, fun _ => rfl⟩
  | m + 20, h => exact absurd h (by omega)
/-- What ref.Parse says. -/
def Said10 : Prop := ∀ (s : ByteArray) (hs : s.size < 1000000) (w : World), Calls Tryd.prog 10 #[.string s] w fun e w' => e = .returned (.tuple #[cv (parseF s.data.toList).1, .int .i64 (parseF s.data.toList).2]) ∧ Below w.heap.size w w'
set_option maxRecDepth 100000 in
set_option maxHeartbeats 8000000 in
theorem reads3 (P10 : Said10) (A : Option Addr) (n c : Nat) (raw : ByteArray) (m : Int) (w : World) (hm : w.cell? ⟨0, 0, none⟩ = some (.int .i64 m)) (hI : IntRow w A n) :
    Calls Tryd.prog 3 #[.slice A n c, .string raw] w fun e w' => e = .returned (.bool true) ∧ Below w.heap.size w w' := by
  by_cases hraw : 200 < raw.size
  · go_enter Tryd.func3, Tryd.ntmps3
    go_wp2_with (first | (go_at_call 7; (with_reducible refine (known7 _).mono ?_); rintro e w1 ⟨rfl, hB1⟩) | fail)
    go_ret
    exact ⟨rfl, hB1⟩
  · have HI := Aside0.mk hI
    clear hI
    go_enter Tryd.func3, Tryd.ntmps3
    go_wp2_with (first | (go_at_call 7; (with_reducible refine (known7 _).mono ?_); rintro e w1 ⟨rfl, hB1⟩) | fail)
    go_loopw [5, 6] (fun v5 v6 wr => ∃ (s : ByteArray) (i : Nat), v5 = .string s ∧ v6 = .int .i64 i ∧ i ≤ n ∧ i ≤ 20 ∧ s.size ≤ 20 * i ∧ Below w.heap.size w wr) (fun _ v6 _ => n - (intOf v6).toNat)
    case atStart => exact ⟨⟨#[]⟩, 0, rfl, rfl, by omega, by omega, by decide, hB1⟩
    case round =>
      obtain ⟨s, i, rfl, rfl, hi, hi2, hs, hB⟩ := hrel
      by_cases hlt : i < n ∧ i < 20
      · obtain ⟨h1, h2⟩ := hlt
        have h1z : (i : Int) < n := by omega
        have h2z : (i : Int) < 20 := by omega
        obtain ⟨b, o, x, rfl, hb, hx⟩ := (HI.out.below hB) i h1
        obtain ⟨k, hk, c8⟩ := within8 x 20 (by decide) (by decide)
        replace c8 : ∀ w, Calls Tryd.prog 8 #[.int .i64 x, .int .i64 20] w fun e w' => e = .returned (.int .i64 k) ∧ w' = w := c8
        obtain ⟨u, hu, hu1, hu2⟩ := tab20_at k hk
        have hkz : (k : Int) < 20 := by omega
        obtain ⟨T1, hT1, e1⟩ := add_some s u (by omega)
        obtain ⟨T2, hT2, e2⟩ := add_some T1 ⟨#[10]⟩ (by rw [hT1]; show _ + 1 ≤ _; omega)
        have hT3 : T2.size = s.size + u.size + 1 := by rw [hT2, hT1]; rfl
        have hx2 : ∀ o, (wr.alloc o).cell? ⟨b, _, none⟩ = some (.int .i64 x) := fun o => al_cell o hx
        clear hT1 hT2
        go_wp2_with (first | (go_at_call 8; (with_reducible refine (c8 _).mono ?_); rintro e w2 ⟨rfl, rfl⟩) | fail)
        go_roundw
        case rel => exact ⟨T2, i + 1, rfl, by simp, by omega, by omega, by omega, hB.alloc hB.size _⟩
        case measure => simp only [intOf]; omega
      · have hmB : ∀ V : World, Below w.heap.size w V → V.cell? ⟨0, 0, none⟩ = some (.int .i64 m) := fun V hV => (hV.cell (p := ⟨0, 0, none⟩) (lt_of_cell hm)).trans hm
        obtain ⟨T3, hT3, e3⟩ := add_some s raw (by omega)
        have HM := Aside0.mk hmB
        have hsz : s.size < 1000000 ∧ raw.size < 1000000 ∧ T3.size < 1000000 := by omega
        have HZ := Aside0.mk hsz
        clear hm hmB hT3 hsz
        generalize wr = W0 at *
        rcases (show ¬ (i : Int) < n ∨ ((i : Int) < n ∧ ¬ (i : Int) < 20) by omega) with h1 | ⟨h1, h2⟩
        · go_wp2
          go_loopw [8] (fun v8 V => ∃ j : Nat, v8 = .int .i64 j ∧ j ≤ 3 ∧ V.heap[W0.heap.size]? = some (.cells #[.string s, .string raw, .string T3] 9) ∧ Below w.heap.size w V) (fun v8 _ => 3 - (intOf v8).toNat)
          case atStart => exact ⟨0, rfl, by omega, heap_alloc_new W0 _, hB.alloc hB.size _⟩
          case round =>
            obtain ⟨j, rfl, hj, hrow, hBV⟩ := hrel
            by_cases hj3 : j < 3
            · have hj3z : (j : Int) < 3 := by omega
              have hcell : ∃ u : ByteArray, u.size < 1000000 ∧ wr.cell? ⟨W0.heap.size, j, none⟩ = some (.string u) := by
                have hc := cell_of_row wr W0.heap.size j _ 9 (0, 0) hrow
                rcases (show j = 0 ∨ j = 1 ∨ j = 2 by omega) with rfl | rfl | rfl
                · exact ⟨s, HZ.out.1, hc⟩
                · exact ⟨raw, HZ.out.2.1, hc⟩
                · exact ⟨T3, HZ.out.2.2, hc⟩
              obtain ⟨u, hu, hcu⟩ := hcell
              have hlt := lt_of_cell hcu
              have h9 := parse9 u hu m wr (HM.out wr hBV)
              have h10 := P10 u hu
              generalize parseF u.data.toList = R at h9 h10
              obtain ⟨⟨on, ca, cb, cc, cd⟩, er⟩ := R
              have heq := eq28 ⟨on, ca, cb, cc, cd⟩
              simp only [cv, cells] at h9 h10 heq
              have HR := Aside0.mk hrow
              clear hrow
              go_wp2_with (first
                | (go_at_call 9; (with_reducible refine h9.mono ?_); rintro e w3 ⟨rfl, hB3⟩; have hr3 : ∀ o, (w3.alloc o).cell? ⟨W0.heap.size, j, none⟩ = some (.string u) := fun o => al_cell o ((hB3.cell (p := ⟨W0.heap.size, j, none⟩) hlt).trans hcu))
                | (go_at_call 10; (with_reducible refine (h10 _).mono ?_); rintro e w4 ⟨rfl, hB4⟩; have k4 := keepb hB4 (heap_alloc_new w3 _); have d4 := fun o => cellrow (heap_al (o := o) k4))
                | fail)
              go_roundw
              case rel => exact ⟨j + 1, by simp, by omega, heap_al (keepb hB4 (heap_al (keepb hB3 HR.out))), (((belK hBV hB3).alloc (belK hBV hB3).size _).trans (hB4.mono (by have := (belK hBV hB3).size; simp; omega))).alloc (by have := (belK hBV hB3).size; have := hB4.size; simp at this; omega) _⟩
              case measure => simp only [intOf]; omega
            · have hj3z : ¬ (j : Int) < 3 := by omega
              go_wp2
              go_ret
              exact ⟨rfl, hBV⟩
        · go_wp2
          go_loopw [8] (fun v8 V => ∃ j : Nat, v8 = .int .i64 j ∧ j ≤ 3 ∧ V.heap[W0.heap.size]? = some (.cells #[.string s, .string raw, .string T3] 9) ∧ Below w.heap.size w V) (fun v8 _ => 3 - (intOf v8).toNat)
          case atStart => exact ⟨0, rfl, by omega, heap_alloc_new W0 _, hB.alloc hB.size _⟩
          case round =>
            obtain ⟨j, rfl, hj, hrow, hBV⟩ := hrel
            by_cases hj3 : j < 3
            · have hj3z : (j : Int) < 3 := by omega
              have hcell : ∃ u : ByteArray, u.size < 1000000 ∧ wr.cell? ⟨W0.heap.size, j, none⟩ = some (.string u) := by
                have hc := cell_of_row wr W0.heap.size j _ 9 (0, 0) hrow
                rcases (show j = 0 ∨ j = 1 ∨ j = 2 by omega) with rfl | rfl | rfl
                · exact ⟨s, HZ.out.1, hc⟩
                · exact ⟨raw, HZ.out.2.1, hc⟩
                · exact ⟨T3, HZ.out.2.2, hc⟩
              obtain ⟨u, hu, hcu⟩ := hcell
              have hlt := lt_of_cell hcu
              have h9 := parse9 u hu m wr (HM.out wr hBV)
              have h10 := P10 u hu
              generalize parseF u.data.toList = R at h9 h10
              obtain ⟨⟨on, ca, cb, cc, cd⟩, er⟩ := R
              have heq := eq28 ⟨on, ca, cb, cc, cd⟩
              simp only [cv, cells] at h9 h10 heq
              have HR := Aside0.mk hrow
              clear hrow
              go_wp2_with (first
                | (go_at_call 9; (with_reducible refine h9.mono ?_); rintro e w3 ⟨rfl, hB3⟩; have hr3 : ∀ o, (w3.alloc o).cell? ⟨W0.heap.size, j, none⟩ = some (.string u) := fun o => al_cell o ((hB3.cell (p := ⟨W0.heap.size, j, none⟩) hlt).trans hcu))
                | (go_at_call 10; (with_reducible refine (h10 _).mono ?_); rintro e w4 ⟨rfl, hB4⟩; have k4 := keepb hB4 (heap_alloc_new w3 _); have d4 := fun o => cellrow (heap_al (o := o) k4))
                | fail)
              go_roundw
              case rel => exact ⟨j + 1, by simp, by omega, heap_al (keepb hB4 (heap_al (keepb hB3 HR.out))), (((belK hBV hB3).alloc (belK hBV hB3).size _).trans (hB4.mono (by have := (belK hBV hB3).size; simp; omega))).alloc (by have := (belK hBV hB3).size; have := hB4.size; simp at this; omega) _⟩
              case measure => simp only [intOf]; omega
            · have hj3z : ¬ (j : Int) < 3 := by omega
              go_wp2
              go_ret
              exact ⟨rfl, hBV⟩
end Go.Proofs.YtcbmeklhmajglaaDoor
end
section
namespace Go.Proofs.YtcbmeklhmajglaaDoor
open Go.ChangeShapes Go.WideShapes Go.ChangeAt Go.RowKit Go.Deep
open Go.ChangeMaps (open_string shut_string)
open Go.Proofs.YtcbmeklhmajglaaDoorW.PrintWords
set_option linter.unusedVariables false
theorem intRow_of (x : Addr) (n : Nat) (zs : List Int) (w : World) (hl : n ≤ zs.length) (hc : ∀ i, i < zs.length → w.cell? (x.add i) = some (.int .i64 (zs.getD i 0))) : IntRow w (some x) n := by
  intro i hi
  obtain ⟨b, o, s⟩ := x
  cases s with
  | some s =>
    exfalso
    have h := hc 0 (by omega)
    unfold World.cell? at h
    split at h
    · simp [Addr.add] at h
    · cases h
  | none =>
    have e : (⟨b, o, none⟩ : Addr).add i = ⟨b, o + i, none⟩ := by
      by_cases h0 : i = 0
      · subst h0; rfl
      · simp [Addr.add, h0]
    have h := hc i (by omega)
    rw [e] at h
    exact ⟨b, o, zs.getD i 0, rfl, lt_of_cell h, h⟩
namespace configReads
theorem own : ownKnob Tryd.prog.godebug = none := by kernel_rfl
theorem laidOut : laidOutB Tryd.prog = true := by kernel_rfl
theorem maxLenAt {w : World} (h : w.ShapedOpen Tryd.prog) : ∃ m, w.cell? ⟨0, 0, none⟩ = some (.int .i64 m) :=
  Go.Proofs.cell_of_shapedOpen_int (zero := #[.int .i64 0]) (t := 3) h (of_decide_eq_true (by kernel_rfl)) (by kernel_rfl) rfl (by kernel_rfl) (by kernel_rfl) Tryd.underlying3
set_option maxRecDepth 100000 in
theorem lifted (os : Os) (started : os.Started) (H : Type) (enc : TypeId × Value → H) :
    ReturnsInHanded {} Tryd.checked os 3 .any (fun w args => (Rows.configReadsSpec.pre enc Tryd.prog Tryd.f3 Rows.configReadsRow.domain false w args ∧ laidMetH Tryd.prog Rows.configReadsRow.laid w) ∧ sizedMet enc Tryd.prog Tryd.f3 (OpenSpec.ofChange Rows.configReadsSpec) false w args)
      (Rows.configReadsSpec.post enc Tryd.prog Tryd.f3 false true false false) := by
  refine returnsInHanded_of_calls own started (by kernel_rfl)
    (ChangeSpec.witness_shaped (enc := enc) (C := Tryd.checked) (os := os) (X := fun w _ => laidMetH Tryd.prog Rows.configReadsRow.laid w) false (World.laidAll Tryd.prog os Rows.configReadsRow.laid) #[.slice none 0 0, .string ByteArray.empty] 8 (World.laidAll_os _ _ _)
      (World.shaped_of_ZipB (by kernel_rfl) (by kernel_rfl)) (by kernel_rfl) (by kernel_rfl) (by kernel_rfl)
      (by rw [MakeChecks.laidMetH_plain _ _ _ (by kernel_rfl)]; exact laidMet_laidAll _ (by kernel_rfl) (by kernel_rfl))) ?_
  intro w0 tape inp _ hshape _ hok hpre _
  obtain ⟨_, _, _, fn', hfn', _, _, _, _, hval1⟩ := hok
  obtain rfl : fn' = Tryd.f3 := Option.some.inj (hfn'.symm.trans Tryd.func3)
  obtain ⟨⟨⟨ds, gs, before, hw1, hc⟩, hL0⟩, hz0⟩ := hpre
  have hW0 := DataW.Whole.of_heap (w' := w0.forCall tape inp) (by rfl) hw1
  obtain ⟨m, hm⟩ := maxLenAt hshape
  clear hw1 hL0 hz0 hshape
  generalize w0.heap.size = base at hval1
  generalize w0.forCall tape inp = W at *
  generalize inp.args = args at *
  suffices hS : Calls Tryd.prog 3 args W fun e W' => ∃ v, e = .returned v ∧ Rows.configReadsSpec.post enc Tryd.prog Tryd.f3 false true false false W args v W' by
    refine hS.mono fun e W' ⟨v, he, hp⟩ => ?_
    subst he
    exact ChangeSpec.post_blind hp
  have hval : ∀ (j : Nat) t v, Tryd.f3.params[j]? = some t → args[j]? = some v → Value.okWide Tryd.prog W .any base t v := hval1
  have hW' := hW0
  obtain ⟨p, q, hA0, hV, rfl, _, _⟩ := hW0
  have hA : DataW.TrodAll enc Tryd.prog W 0 (fun _ => true) true Tryd.f3.params.toList args.toList ds p := hA0
  rw [Tryd.params3] at hA hval
  obtain ⟨v0, vs0, d0, ds0, p0, q0, hargs, rfl, rfl, h0, r0⟩ := trodAll_cons hA
  obtain ⟨v1, vs1, d1, ds1, p1, q1, rfl, rfl, rfl, h1, r1⟩ := trodAll_cons r0
  obtain ⟨rfl, rfl, rfl⟩ := trodAll_nil r1
  obtain rfl : args = #[v0, v1] := by cases args; simp_all
  obtain ⟨rfl, rfl⟩ := trodVars_none hV
  obtain ⟨a0, len0, cap0, rfl⟩ := okWide_slice Tryd.underlying22 (hval 0 22 v0 rfl rfl)
  have k0 := h0
  have lt0 : ∀ x ∈ p0, x.block < W.heap.size := by obtain ⟨m, hm⟩ := k0; exact DataW.trod_lt m _ _ _ hm
  have w0 : IntRow W a0 len0 := by
    obtain ⟨fuel, hf⟩ := h0
    rcases open_ints Tryd.underlying22 Tryd.underlying3 (by kernel_rfl) hf with ⟨hcs, _⟩ | ⟨x, l, c, zs, hcs, _, hl, hm, hz, _, hcell, hwz⟩
    · simp [Value.cells] at hcs
      obtain ⟨rfl, rfl, rfl⟩ := hcs
      exact fun i hi => absurd hi (Nat.not_lt_zero i)
    · simp [Value.cells] at hcs
      obtain ⟨rfl, rfl, rfl⟩ := hcs
      exact intRow_of x _ zs W (by rw [hz]; simpa using hl) hcell
  obtain ⟨a1, rfl, rfl, rfl, y1⟩ := open_string Tryd.underlying9 (hval 1 9 v1 rfl rfl) h1
  clear hA0 hval1
  refine (reads3 (fun s hs w => parse10 s hs w) a0 len0 cap0 a1 m W hm w0).mono fun e W' ⟨he, bel⟩ => ?_
  subst he
  exact ⟨_, rfl, _, _, _, [], _, [], hW', trodAll_mk1 (shut_bool Tryd.underlying4 _), (trodAll_cons_mk (Below.trod laidOut (by kernel_rfl) (of_decide_eq_true (by kernel_rfl)) k0 bel lt0) (trodAll_cons_mk (shut_string Tryd.underlying9 y1) trodAll_mk0)), rfl, bel.frame _, fun h => by cases h⟩
theorem over : Rows.configReadsRow.holds Tryd.pinned (OpenSpec.ofChange Rows.configReadsSpec) :=
  OpenClaim.holds_of_wide 3 Tryd.f3 rfl rfl rfl rfl rfl rfl rfl ⟨rfl, rfl, rfl, rfl, rfl⟩ rfl rfl rfl rfl rfl (by kernel_rfl) Tryd.func3 (by kernel_rfl)
    (of_decide_eq_true (by kernel_rfl)) (by unfold Func.isWrapper; first | (rw [if_pos (by decide +kernel)]; kernel_rfl) | (rw [if_neg (by decide +kernel)]; exact ⟨rfl, rfl⟩))
    (fun os started H enc _ => lifted os started H enc)
end configReads
/-- The card of ConfigReads holds. -/
theorem configReadsCard_holds : Rows.ConfigReadsCardSaid :=
  Claim7.holds_tied_plain_at .later [] [.data, .data, .data, .data, .sentinel, .sentinel, .pinned] true (true, "f46b92663623f6b3f39fdc60e263bf241bf09af023ece41d3d974f55b14c8549") true
    configReads.over (fun _ h => by cases h) (by kernel_rfl) (fun _ h => by cases h) configReads_row_tie rfl ⟨rfl, rfl⟩ (by kernel_rfl) rfl
    (fun f fn hf hfn => by
      obtain rfl : f = 3 := Option.some.inj ((show Tryd.prog.funcNamed "corrector/correctorlaw18.ConfigReads" = some 3 by kernel_rfl).symm.trans hf) |>.symm
      obtain rfl : fn = Tryd.f3 := (Option.some.inj (Tryd.func3.symm.trans hfn)).symm
      exact ⟨by kernel_rfl, fun j t ht => by
        rw [Tryd.params3] at ht
        have hm : t ∈ [22, 9] := by simpa using Array.mem_of_getElem? ht
        have hall : ([22, 9].all fun u => !Tryd.prog.wantsStandIn u) = true := by kernel_rfl
        exact (show Tryd.prog.wantsStandIn t = false by simpa using List.all_eq_true.1 hall t hm)⟩)
    (by kernel_rfl)
#print axioms configReadsCard_holds
end Go.Proofs.YtcbmeklhmajglaaDoor
end
