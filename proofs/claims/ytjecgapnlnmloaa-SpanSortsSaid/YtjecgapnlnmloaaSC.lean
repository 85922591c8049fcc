/- A part of the proof: an interpreter of the program, shown right once, and the laws that it computes. -/
import Derived.Test.YtjecgapnlnmloaaSB
import Derived.Lib.SliceRun
import Derived.Lib.SlicesCompact
namespace Go.Proofs.Ytjecgapnlnmloaa
open Go.RowKit Go.Shelf Go.Lib Go.Sort Go.SpanLaw
set_option linter.unusedVariables false
theorem cellsAt {w : World} {blk off : Nat} {d : Array Sp} (h : HoldsK encS 2 w blk off d) {i : Nat} (hi : i < d.size) :
    w.cell? ⟨blk, off + i * 2, none⟩ = some (.int .i64 d[i]!.1) ∧ w.cell? ⟨blk, off + i * 2 + 1, none⟩ = some (.int .i64 d[i]!.2) ∧ w.frozen? ⟨blk, off + i * 2, none⟩ = false ∧ w.frozen? ⟨blk, off + i * 2 + 1, none⟩ = false := by
  obtain ⟨a0, b0⟩ := h.cell (c := 0) hi (by decide)
  obtain ⟨a1, b1⟩ := h.cell (c := 1) hi (by decide)
  exact ⟨a0, a1, b0, b1⟩
theorem run_clear_spans (w : World) (b o n c : Nat) (hn : 0 < n) (hc : ∀ j, j < 2 * n → (w.cell? ⟨b, o + j, none⟩).isSome = true) (hf : ∀ j, j < 2 * n → w.frozen? ⟨b, o + j, none⟩ = false) (ty : TypeId) :
    (Builtin.clear_ #[36] ty #[.slice (some ⟨b, o, none⟩) n c]).run Try.prog w = .ok (.tuple #[]) (w.setCells b o (List.replicate (2 * n) (.int .i64 0))) := by
  have hv : ∀ w, (zeroValue 23).run Try.prog w = .ok (sp 0 0) w := fun w => by kernel_rfl
  have hzc : (Builtin.zeroCells (sp 0 0).cells n).toList = List.replicate (2 * n) (.int .i64 0) := by
    show (Builtin.zeroCells #[.int .i64 0, .int .i64 0] n).toList = _
    simp [Builtin.zeroCells]
    apply List.ext_getElem
    · simp; omega
    · intro i h1 h2
      have : i % 2 = 0 ∨ i % 2 = 1 := by omega
      rcases this with h | h <;> simp [h]
  have hst := run_storeCells_cells (P := Try.prog) b o (List.replicate (2 * n) (.int .i64 0)) 0 w (by simpa using hc) (by simpa using hf) (by intro v hv'; rw [List.eq_of_mem_replicate hv']; rfl)
  simp only [Nat.add_zero] at hst
  obtain ⟨m, rfl⟩ : ∃ m, n = m + 1 := ⟨n - 1, by omega⟩
  simp only [sp] at hv hzc
  simp [Builtin.clear_, run_underlying Try.underlying36, hv, hzc, hst]
theorem flatK_set (d : Array Sp) (i : Nat) (u : Sp) (hi : i < d.size) : setMany (flatK encS 2 d) (i * 2) (encS u) = flatK encS 2 (d.setIfInBounds i u) := by
  refine ext_get! (by simp) fun t ht => ?_
  have ht' : t < d.size * 2 := by simpa using ht
  rw [get_setMany _ _ _ t (by simpa using ht'), get_flatK _ _ _ t ht', get_flatK _ _ _ t (by simpa using ht')]
  by_cases h : t / 2 = i
  · rw [if_pos (by simp [encS]; omega), h, getElem!_pos (d.setIfInBounds i u) i (by simpa using hi), Array.getElem_setIfInBounds, if_pos rfl, show t - i * 2 = t % 2 by omega]
    exact hi
  · have hti : t / 2 < d.size := by omega
    rw [if_neg (by simp [encS]; omega), getElem!_pos (d.setIfInBounds i u) (t / 2) (by simpa using hti), Array.getElem_setIfInBounds, if_neg (Ne.symm h), getElem!_pos d (t / 2) hti]
theorem store_span {w wr : World} {n blk off : Nat} {dk : Array Sp} {i : Nat} (hi : i < dk.size) (hwr : wr = putRowK encS 2 (Sort.ahead w n) blk off dk) (u : Sp) :
    (wr.setCells blk (off + i * 2) [.int .i64 u.1, .int .i64 u.2]).drew = putRowK encS 2 (Sort.ahead w (n + 1)) blk off (dk.setIfInBounds i u) := by
  subst hwr
  show (World.setCells _ blk (off + i * 2) (encS u)).drew = _
  unfold putRowK
  rw [setCells_putRow _ _ _ _ _ _ (by simp [encS]; omega), flatK_set dk i u hi]
  rfl
/-- The first k stay, the others are nothing. -/
def cutS (d : Array Sp) (k : Nat) : Array Sp := (Array.range d.size).map fun j => if j < k then d[j]! else (0, 0)
theorem size_cutS (d : Array Sp) (k : Nat) : (cutS d k).size = d.size := by simp [cutS]
theorem get_cutS (d : Array Sp) (k j : Nat) (hj : j < d.size) : (cutS d k)[j]! = if j < k then d[j]! else (0, 0) := by
  rw [getElem!_pos (cutS d k) j (by rw [size_cutS]; exact hj)]
  simp [cutS]
theorem setMany_zeros (d : Array Sp) (k : Nat) (hk : k ≤ d.size) : setMany (flatK encS 2 d) (k * 2) (List.replicate (2 * (d.size - k)) (.int .i64 0)) = flatK encS 2 (cutS d k) := by
  refine ext_get! (by simp [size_cutS]) fun t ht => ?_
  have ht' : t < d.size * 2 := by simpa using ht
  rw [get_setMany _ _ _ t (by simpa using ht'), get_flatK _ _ _ t ht', get_flatK _ _ _ t (by rw [size_cutS]; exact ht'), get_cutS d k (t / 2) (by omega), List.length_replicate]
  by_cases h : t / 2 < k
  · rw [if_neg (by omega), if_pos h]
  · rw [if_pos (by omega), if_neg h, getElem!_pos _ _ (by rw [List.length_replicate]; omega), List.getElem_replicate]
    have : t % 2 = 0 ∨ t % 2 = 1 := by omega
    rcases this with h | h <;> rw [h] <;> rfl
theorem clear_span {w wr : World} {n blk off k : Nat} {dk : Array Sp} (hk : k ≤ dk.size) (hwr : wr = putRowK encS 2 (Sort.ahead w n) blk off dk) :
    wr.setCells blk (off + k * 2) (List.replicate (2 * (dk.size - k)) (.int .i64 0)) = putRowK encS 2 (Sort.ahead w n) blk off (cutS dk k) := by
  subst hwr
  unfold putRowK
  rw [setCells_putRow _ _ _ _ _ _ (by simp; omega), setMany_zeros dk k hk]
set_option maxRecDepth 100000 in
set_option maxHeartbeats 4000000 in
theorem compact39 (blk off cap : Nat) (d : Array Sp) (w : World) (hH : HoldsK encS 2 w blk off d) (hsz : d.size ≤ 40) (hcap : d.size ≤ cap) :
    Calls Try.prog 39 #[.slice (some ⟨blk, off, none⟩) d.size cap] w fun e w' => e = .returned (.slice (some ⟨blk, off, none⟩) (compactUpTo d d.size).length cap) ∧
      ∃ (q : Nat) (dk : Array Sp), w' = putRowK encS 2 (Sort.ahead w q) blk off dk ∧ dk.size = d.size ∧ ∀ j, j < (compactUpTo d d.size).length → (compactUpTo d d.size)[j]? = some dk[j]! := by
  have same : ∀ q, (∀ j, j < d.size → keeps d j = true) → (compactUpTo d d.size).length = d.size ∧ ∃ (q' : Nat) (dk : Array Sp), w.drewN q = putRowK encS 2 (Sort.ahead w q') blk off dk ∧ dk.size = d.size ∧ ∀ j, j < (compactUpTo d d.size).length → (compactUpTo d d.size)[j]? = some dk[j]! := by
    intro q hall
    have e : compactUpTo d d.size = d.toList := by rw [compactUpTo_all d _ hall, range_map_get]
    rw [e]
    refine ⟨by simp, q, d, (putRowK_self encS 2 (Sort.ahead w q) blk off d (holdsK_ahead encS 2 w q blk off d hH)).symm, rfl, fun j hj => ?_⟩
    have hj' : j < d.size := by simpa using hj
    rw [getElem!_pos d j hj']
    simp [hj']
  have HS : Aside (∀ q, (∀ j, j < d.size → keeps d j = true) → (compactUpTo d d.size).length = d.size ∧ ∃ (q' : Nat) (dk : Array Sp), w.drewN q = putRowK encS 2 (Sort.ahead w q') blk off dk ∧ dk.size = d.size ∧ ∀ j, j < (compactUpTo d d.size).length → (compactUpTo d d.size)[j]? = some dk[j]!) := same
  clear same
  have HH : Aside (HoldsK encS 2 w blk off d) := hH
  clear hH
  by_cases h2 : d.size < 2
  · go_enter Try.func39, Try.ntmps39
    go_wp2
    go_ret
    obtain ⟨e1, e2⟩ := HS.out 0 (fun j hj => keeps_lt_one d j (by omega))
    exact ⟨by rw [e1]; rfl, e2⟩
  · go_enter Try.func39, Try.ntmps39
    go_wp2
    go_loopw [3] (fun s3 wr => ∃ k q : Nat, s3 = .int .i64 k ∧ 1 ≤ k ∧ k ≤ d.size ∧ wr = w.drewN q ∧ ∀ j, j < k → keeps d j = true) (fun s3 _ => d.size - (intOf s3).toNat)
    case atStart => exact ⟨1, 0, rfl, Nat.le_refl _, by omega, rfl, keeps_lt_one d⟩
    case round =>
      obtain ⟨k, q, rfl, hk1, hk, rfl, hall⟩ := hrel
      have A : Aside (∀ j, j < k → keeps d j = true) := hall
      clear hall
      by_cases hlt : k < d.size
      · obtain ⟨c1, c2, _, _⟩ := cellsAt HH.out hlt
        obtain ⟨p1, p2, _, _⟩ := cellsAt HH.out (i := k - 1) (by omega)
        generalize hx : d[k]! = x at c1 c2
        generalize hy : d[k - 1]! = y at p1 p2
        have B : Aside (d[k]! = x ∧ d[k - 1]! = y) := ⟨hx, hy⟩
        clear hx hy
        obtain ⟨x1, x2⟩ := x
        obtain ⟨y1, y2⟩ := y
        dsimp only at c1 c2 p1 p2
        by_cases h1 : x1 = y1
        · by_cases h3 : x2 = y2
          · subst h1 h3
            go_wp2_with fail
            go_region
            go_wp2
            clear c1 c2 p1 p2
            go_loopw [3, 5] (fun s3 s5 wr => ∃ (kk k2 q2 : Nat) (dk : Array Sp), s3 = .int .i64 kk ∧ s5 = .int .i64 k2 ∧ 1 ≤ k2 ∧ k + k2 ≤ d.size ∧ wr = putRowK encS 2 (Sort.ahead w q2) blk off dk ∧ CompInv d (k + k2) kk dk) (fun _ s5 _ => d.size - (k + (intOf s5).toNat))
            case atStart => exact ⟨k, 1, q + 1, d, rfl, rfl, Nat.le_refl _, by omega, (putRowK_self encS 2 (Sort.ahead w (q + 1)) blk off d (holdsK_ahead encS 2 w (q + 1) blk off d HH.out)).symm, CompInv.start A.out (keeps_neg (by omega) (by rw [B.out.1, B.out.2]))⟩
            case round =>
              obtain ⟨kk, k2, q2, dk, rfl, rfl, hk2, hle, hwr, hI⟩ := hrel
              have hkk := hI.lt
              have hds := hI.size
              have hHk : HoldsK encS 2 wr blk off dk := by rw [hwr]; exact holdsK_putRowK encS 2 _ blk off d dk (holdsK_ahead encS 2 w q2 blk off d HH.out) hds
              have W2 : Aside (wr = putRowK encS 2 (Sort.ahead w q2) blk off dk) := hwr
              have I2 : Aside (CompInv d (k + k2) kk dk) := hI
              clear hwr
              by_cases hlt2 : k + k2 < d.size
              · obtain ⟨m1, m2, _, _⟩ := cellsAt hHk (i := k + k2) (by omega)
                obtain ⟨r1, r2, _, _⟩ := cellsAt hHk (i := k + k2 - 1) (by omega)
                obtain ⟨t1, t2, f1, f2⟩ := cellsAt hHk (i := kk) (by omega)
                rw [hI.high (k + k2) (by omega), show off + (k + k2) * 2 = off + k * 2 + k2 * 2 by omega] at m1 m2
                rw [hI.high (k + k2 - 1) (by omega), show off + (k + k2 - 1) * 2 = off + k * 2 + (k2 - 1) * 2 by omega] at r1 r2
                clear hHk hI
                generalize hu : d[k + k2]! = u at m1 m2
                generalize hv : d[k + k2 - 1]! = v at r1 r2
                generalize dk[kk]! = old at t1 t2
                have C : Aside (d[k + k2]! = u ∧ d[k + k2 - 1]! = v) := ⟨hu, hv⟩
                clear hu hv
                obtain ⟨u1, u2⟩ := u
                obtain ⟨v1, v2⟩ := v
                dsimp only at m1 m2 r1 r2
                by_cases g1 : u1 = v1
                · by_cases g2 : u2 = v2
                  · subst g1 g2
                    go_wp2_with fail
                    go_region
                    go_wp2
                    go_roundw
                    case measure => simp only [intOf]; omega
                    case rel => exact ⟨kk, k2 + 1, q2 + 1, dk, rfl, by simp, by omega, by omega, by rw [W2.out]; rfl, I2.out.skip (keeps_neg (by omega) (by rw [C.out.1, C.out.2]))⟩
                  · subst g1
                    go_wp2_with fail
                    go_region
                    go_wp2
                    go_roundw
                    case measure => simp only [intOf]; omega
                    case rel => exact ⟨kk + 1, k2 + 1, q2 + 1, dk.setIfInBounds kk (u1, u2), by simp, by simp, by omega, by omega, store_span (show kk < dk.size by omega) W2.out (u1, u2), by have := I2.out.keep hlt2 (keeps_pos (by rw [C.out.1, C.out.2]; intro e; cases e; exact g2 rfl)); rwa [C.out.1] at this⟩
                · go_wp2_with fail
                  go_region
                  go_wp2
                  go_roundw
                  case measure => simp only [intOf]; omega
                  case rel => exact ⟨kk + 1, k2 + 1, q2 + 1, dk.setIfInBounds kk (u1, u2), by simp, by simp, by omega, by omega, store_span (show kk < dk.size by omega) W2.out (u1, u2), by have := I2.out.keep hlt2 (keeps_pos (by rw [C.out.1, C.out.2]; intro e; cases e; exact g1 rfl)); rwa [C.out.1] at this⟩
              · have hend : k + k2 = d.size := by omega
                have hcl : ∀ ty, (Builtin.clear_ #[36] ty #[.slice (some ⟨blk, off + kk * 2, none⟩) (d.size - kk) (cap - kk)]).run Try.prog wr = .ok (.tuple #[]) (wr.setCells blk (off + kk * 2) (List.replicate (2 * (d.size - kk)) (.int .i64 0))) :=
                  fun ty => run_clear_spans wr blk (off + kk * 2) _ _ (by omega) (fun j hj => by rw [show off + kk * 2 + j = off + (kk * 2 + j) by omega, (hHk (kk * 2 + j) (by simp; omega)).1]; rfl) (fun j hj => by rw [show off + kk * 2 + j = off + (kk * 2 + j) by omega]; exact (hHk (kk * 2 + j) (by simp; omega)).2) ty
                clear hHk hI
                go_wp2
                go_ret
                have hI := I2.out
                rw [hend] at hI
                refine ⟨by rw [hI.len]; rfl, q2, cutS dk kk, ?_, by rw [size_cutS, hds], fun j hj => ?_⟩
                · rw [← clear_span (by omega) W2.out, hds]
                · rw [hI.len] at hj
                  rw [hI.low j hj, get_cutS dk kk j (by omega), if_pos hj]
          · go_wp2_with fail
            go_region
            go_wp2
            go_roundw
            case rel =>
              refine ⟨k + 1, q + 1, by simp, by omega, by omega, rfl, fun j hj => ?_⟩
              by_cases e : j = k
              · subst e
                exact keeps_pos (by rw [B.out.1, B.out.2]; intro e; cases e; exact h3 rfl)
              · exact A.out j (by omega)
            case measure => simp only [intOf]; omega
        · go_wp2_with fail
          go_region
          go_wp2
          go_roundw
          case rel =>
            refine ⟨k + 1, q + 1, by simp, by omega, by omega, rfl, fun j hj => ?_⟩
            by_cases e : j = k
            · subst e
              exact keeps_pos (by rw [B.out.1, B.out.2]; intro e; cases e; exact h1 rfl)
            · exact A.out j (by omega)
          case measure => simp only [intOf]; omega
      · have : k = d.size := by omega
        subst this
        go_wp2
        go_ret
        obtain ⟨e1, e2⟩ := HS.out q A.out
        exact ⟨by rw [e1]; rfl, e2⟩
end Go.Proofs.Ytjecgapnlnmloaa
