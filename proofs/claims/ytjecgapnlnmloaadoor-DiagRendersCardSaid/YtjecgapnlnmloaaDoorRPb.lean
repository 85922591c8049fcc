/- A part of the proof: an interpreter of the program, shown right once, and the laws that it computes. -/
import Derived.Test.YtjecgapnlnmloaaDoorRPa
import Derived.Laws.BitsLemmas
namespace Go.Proofs.YtjecgapnlnmloaaDoor.PRender
open Go.RowKit Go.Proofs.YtjecgapnlnmloaaDoorW.PrintWords Go.Proofs.YtjecgapnlnmloaaDoorW.PrintLast Go.Proofs.YtjecgapnlnmloaaDoorW.PrintMore
set_option linter.unusedVariables false
def Byt (xs : List Int) : Prop := ∀ x ∈ xs, 0 ≤ x ∧ x ≤ 255
theorem rd_byt {xs : List Int} (h : Byt xs) (i : Int) : 0 ≤ rd xs i ∧ rd xs i ≤ 255 := by
  unfold rd
  by_cases hi : i.toNat < xs.length
  · have := h _ (List.getElem_mem hi)
    simpa [List.getD, hi] using this
  · simp [List.getD, hi]
theorem Byt.drop {xs : List Int} (h : Byt xs) (n : Nat) : Byt (xs.drop n) := fun x hx => h x (List.mem_of_mem_drop hx)
theorem Byt.take {xs : List Int} (h : Byt xs) (n : Nat) : Byt (xs.take n) := fun x hx => h x (List.mem_of_mem_take hx)
theorem strOf_size (xs : List Int) : (strOfNums xs).size = xs.length := by simp [strOfNums, ByteArray.size]
theorem strOf_get {xs : List Int} (h : Byt xs) (i : Nat) (hi : i < xs.length) : rd xs (i : Int) = (((strOfNums xs).get! i).toNat : Int) := by
  have h1 := h _ (List.getElem_mem hi)
  unfold rd
  rw [Int.toNat_natCast, show xs.getD i 0 = xs[i] by simp [List.getD, hi]]
  have : (strOfNums xs).get! i = UInt8.ofNat (xs[i]).toNat := by
    unfold strOfNums ByteArray.get!
    simp [hi]
  rw [this, UInt8.toNat_ofNat', Nat.mod_eq_of_lt (by omega)]
  omega
theorem byte_lt (s : ByteArray) (i : Nat) : (s.get! i).toNat < 256 := UInt8.toNat_lt _
theorem sign_step (k : Nat) (xs : List Int) (n v least i : Int) (h1 : i < n) (h0 : 0 ≤ i) (h2 : i < xs.length) (hx : 128 ≤ rd xs i) (hx2 : rd xs i ≤ 191) (hv : 0 ≤ v) (hv2 : v < 1048576) (hi : i < 100) :
    correctorref1_sign.l0 (k + 1) xs n v least i = correctorref1_sign.l0 k xs n (v * 64 + rd xs i % 64) least (i + 1) := by
  simp only [correctorref1_sign.l0]
  rw [if_pos h1, if_pos h0, if_pos h2, if_neg (by omega), if_neg (by omega)]
  rw [u8_and63 _ (by omega) (by omega), show wrap32 (rd xs i % 64) = rd xs i % 64 by unfold wrap32; omega, show wrap32 (v * 64) = v * 64 by unfold wrap32; omega, i32_or6 _ _ (by omega) (by omega) (by omega) (by omega) (by omega), show wrap64 (i + 1) = i + 1 by unfold wrap64; omega]
theorem sign_bad (k : Nat) (xs : List Int) (n v least i : Int) (h1 : i < n) (h0 : 0 ≤ i) (h2 : i < xs.length) (hx : rd xs i < 128 ∨ 191 < rd xs i) :
    correctorref1_sign.l0 (k + 1) xs n v least i = some (-1, 1) := by
  simp only [correctorref1_sign.l0]
  rw [if_pos h1, if_pos h0, if_pos h2]
  rcases hx with hx | hx
  · rw [if_pos hx]
  · rw [if_neg (by omega), if_pos (by omega)]
theorem sign_end (k : Nat) (xs : List Int) (n v least i : Int) (h1 : ¬ i < n) :
    correctorref1_sign.l0 (k + 1) xs n v least i = some (if v < least ∨ v > 1114111 ∨ (55296 ≤ v ∧ v ≤ 57343) then (-1, 1) else (v, n)) := by
  simp only [correctorref1_sign.l0]
  rw [if_neg h1]
  by_cases a : v < least
  · rw [if_pos a, if_pos (.inl a)]
  · rw [if_neg a]
    by_cases b : v > 1114111
    · rw [if_pos b, if_pos (.inr (.inl b))]
    · rw [if_neg b]
      by_cases c : v ≥ 55296
      · rw [if_pos c]
        by_cases d : v ≤ 57343
        · rw [if_pos d, if_pos (.inr (.inr ⟨c, d⟩))]
        · rw [if_neg d, if_neg (by omega)]
      · rw [if_neg c, if_neg (by omega)]
/-- The sign with which bytes begin. -/
def nxd (d : Nat × Nat) : Int × Int := if d.1 = 65533 ∧ d.2 = 1 then (-1, 1) else ((d.1 : Int), (d.2 : Int))
theorem nxd_bad : nxd (65533, 1) = (-1, 1) := rfl
theorem next_f (k : Nat) (hk : 8 ≤ k) (xs : List Int) (hb : Byt xs) (hne : xs ≠ []) : correctorref1_Next.f k xs = some (nxd (Utf8.decode (strOfNums xs) 0)) := by
  have hl : 0 < xs.length := List.length_pos_iff.2 hne
  rw [Lib.decode_at, strOf_size, Nat.sub_zero, Nat.zero_add]
  have g0 := strOf_get hb 0 hl
  have g1 := strOf_get hb 1
  have g2 := strOf_get hb 2
  have g3 := strOf_get hb 3
  have l0 := byte_lt (strOfNums xs) 0
  have l1 := byte_lt (strOfNums xs) 1
  have l2 := byte_lt (strOfNums xs) 2
  have l3 := byte_lt (strOfNums xs) 3
  simp only [Nat.zero_add]
  generalize ((strOfNums xs).get! 0).toNat = b0 at *
  generalize ((strOfNums xs).get! 1).toNat = b1 at *
  generalize ((strOfNums xs).get! 2).toNat = b2 at *
  generalize ((strOfNums xs).get! 3).toNat = b3 at *
  obtain ⟨k, rfl⟩ : ∃ m, k = m + 8 := ⟨k - 8, by omega⟩
  simp only [correctorref1_Next.f]
  rw [if_neg (by omega), if_pos (by omega)]
  have g0' : rd xs 0 = (b0 : Int) := g0
  have g1' : 1 < xs.length → rd xs 1 = (b1 : Int) := g1
  have g2' : 2 < xs.length → rd xs 2 = (b2 : Int) := g2
  have g3' : 3 < xs.length → rd xs 3 = (b3 : Int) := g3
  clear g0 g1 g2 g3
  rw [g0']
  by_cases c0 : b0 < 128
  · rw [if_pos (by omega), Lib.decodeN, if_pos c0]
    have : wrap32 (b0 : Int) = b0 := by unfold wrap32; omega
    rw [this, nxd, if_neg (by simp; omega)]
    rfl
  · rw [if_neg (by omega)]
    by_cases c1 : b0 < 192
    · rw [if_neg (by omega)]
      simp only [correctorref1_Next.j0, Bool.false_eq_true, if_false]
      rw [if_neg (by omega)]
      simp only [correctorref1_Next.j1, Bool.false_eq_true, if_false]
      have hd : Lib.decodeN xs.length b0 b1 b2 b3 = (65533, 1) := by rw [Lib.decodeN, if_neg c0, if_neg (by omega), if_neg (by omega), if_neg (by omega)]
      rw [if_neg (by omega), hd, nxd_bad]
    · rw [if_pos (by omega)]
      by_cases c2 : b0 < 224
      · rw [show decide ((b0 : Int) < 224) = true from decide_eq_true (by omega)]
        simp only [correctorref1_Next.j0, if_true]
        rw [u8_and31 _ (by omega) (by omega), show wrap32 ((b0 : Int) % 32) = (b0 : Int) % 32 by unfold wrap32; omega]
        simp only [correctorref1_sign.f]
        by_cases d1 : xs.length < 2
        · have hd : Lib.decodeN xs.length b0 b1 b2 b3 = (65533, 1) := by rw [Lib.decodeN, if_neg c0, if_neg (by omega), if_neg (by omega), if_neg (by omega)]
          rw [if_pos (by omega), hd, nxd_bad]
          rfl
        · rw [if_neg (by omega)]
          have q1 := g1' (by omega)
          by_cases e1 : b1 / 64 = 2
          · have hd : Lib.decodeN xs.length b0 b1 b2 b3 = if b0 % 32 * 64 + b1 % 64 ≥ 128 then (b0 % 32 * 64 + b1 % 64, 2) else (65533, 1) := by rw [Lib.decodeN, if_neg c0, if_pos (by omega)]
            rw [sign_step _ _ _ _ _ _ (by omega) (by omega) (by omega) (by omega) (by omega) (by omega) (by omega) (by omega), sign_end _ _ _ _ _ _ (by omega), q1, Option.bind_some, hd]
            by_cases e2 : b0 % 32 * 64 + b1 % 64 ≥ 128
            · rw [if_pos e2, if_neg (by omega), nxd, if_neg (by simp)]
              simp
            · rw [if_neg e2, if_pos (by omega), nxd_bad]
          · have hd : Lib.decodeN xs.length b0 b1 b2 b3 = (65533, 1) := by rw [Lib.decodeN, if_neg c0, if_neg (by omega), if_neg (by omega), if_neg (by omega)]
            rw [sign_bad _ _ _ _ _ _ (by omega) (by omega) (by omega) (by omega), hd, nxd_bad]
            rfl
      · rw [show decide ((b0 : Int) < 224) = false from decide_eq_false (by omega)]
        simp only [correctorref1_Next.j0, Bool.false_eq_true, if_false]
        rw [if_pos (by omega)]
        by_cases c3 : b0 < 240
        · rw [show decide ((b0 : Int) < 240) = true from decide_eq_true (by omega)]
          simp only [correctorref1_Next.j1, if_true]
          rw [u8_and15 _ (by omega) (by omega), show wrap32 ((b0 : Int) % 16) = (b0 : Int) % 16 by unfold wrap32; omega]
          simp only [correctorref1_sign.f]
          by_cases d1 : xs.length < 3
          · have hd : Lib.decodeN xs.length b0 b1 b2 b3 = (65533, 1) := by rw [Lib.decodeN, if_neg c0, if_neg (by omega), if_neg (by omega), if_neg (by omega)]
            rw [if_pos (by omega), hd, nxd_bad]
            rfl
          · rw [if_neg (by omega)]
            have q1 := g1' (by omega)
            have q2 := g2' (by omega)
            by_cases e1 : b1 / 64 = 2
            · rw [sign_step _ _ _ _ _ _ (by omega) (by omega) (by omega) (by omega) (by omega) (by omega) (by omega) (by omega), show (1 : Int) + 1 = 2 from rfl]
              by_cases e2 : b2 / 64 = 2
              · have hd : Lib.decodeN xs.length b0 b1 b2 b3 = if b0 % 16 * 4096 + b1 % 64 * 64 + b2 % 64 ≥ 2048 ∧ (b0 % 16 * 4096 + b1 % 64 * 64 + b2 % 64 < 55296 ∨ (57344 ≤ b0 % 16 * 4096 + b1 % 64 * 64 + b2 % 64 ∧ b0 % 16 * 4096 + b1 % 64 * 64 + b2 % 64 ≤ 1114111)) then (b0 % 16 * 4096 + b1 % 64 * 64 + b2 % 64, 3) else (65533, 1) := by rw [Lib.decodeN, if_neg c0, if_neg (by omega), if_pos (by omega)]
                rw [sign_step _ _ _ _ _ _ (by omega) (by omega) (by omega) (by omega) (by omega) (by omega) (by omega) (by omega), sign_end _ _ _ _ _ _ (by omega), q1, q2, Option.bind_some, hd]
                have ev : ((b0 : Int) % 16 * 64 + b1 % 64) * 64 + b2 % 64 = ((b0 % 16 * 4096 + b1 % 64 * 64 + b2 % 64 : Nat) : Int) := by omega
                rw [ev]
                generalize b0 % 16 * 4096 + b1 % 64 * 64 + b2 % 64 = V
                by_cases e3 : V ≥ 2048 ∧ (V < 55296 ∨ 57344 ≤ V ∧ V ≤ 1114111)
                · rw [if_pos e3, if_neg (by omega), nxd, if_neg (by simp)]
                  simp
                · rw [if_neg e3, if_pos (by omega), nxd_bad]
              · have hd : Lib.decodeN xs.length b0 b1 b2 b3 = (65533, 1) := by rw [Lib.decodeN, if_neg c0, if_neg (by omega), if_neg (by omega), if_neg (by omega)]
                rw [sign_bad _ _ _ _ _ _ (by omega) (by omega) (by omega) (by omega), hd, nxd_bad]
                rfl
            · have hd : Lib.decodeN xs.length b0 b1 b2 b3 = (65533, 1) := by rw [Lib.decodeN, if_neg c0, if_neg (by omega), if_neg (by omega), if_neg (by omega)]
              rw [sign_bad _ _ _ _ _ _ (by omega) (by omega) (by omega) (by omega), hd, nxd_bad]
              rfl
        · rw [show decide ((b0 : Int) < 240) = false from decide_eq_false (by omega)]
          simp only [correctorref1_Next.j1, Bool.false_eq_true, if_false]
          rw [if_pos (by omega)]
          by_cases c4 : b0 < 248
          · rw [if_pos (by omega)]
            rw [u8_and7 _ (by omega) (by omega), show wrap32 ((b0 : Int) % 8) = (b0 : Int) % 8 by unfold wrap32; omega]
            simp only [correctorref1_sign.f]
            by_cases d1 : xs.length < 4
            · have hd : Lib.decodeN xs.length b0 b1 b2 b3 = (65533, 1) := by rw [Lib.decodeN, if_neg c0, if_neg (by omega), if_neg (by omega), if_neg (by omega)]
              rw [if_pos (by omega), hd, nxd_bad]
              rfl
            · rw [if_neg (by omega)]
              have q1 := g1' (by omega)
              have q2 := g2' (by omega)
              have q3 := g3' (by omega)
              by_cases e1 : b1 / 64 = 2
              · rw [sign_step _ _ _ _ _ _ (by omega) (by omega) (by omega) (by omega) (by omega) (by omega) (by omega) (by omega), show (1 : Int) + 1 = 2 from rfl]
                by_cases e2 : b2 / 64 = 2
                · rw [sign_step _ _ _ _ _ _ (by omega) (by omega) (by omega) (by omega) (by omega) (by omega) (by omega) (by omega), show (2 : Int) + 1 = 3 from rfl]
                  by_cases e3 : b3 / 64 = 2
                  · have hd : Lib.decodeN xs.length b0 b1 b2 b3 = if b0 % 8 * 262144 + b1 % 64 * 4096 + b2 % 64 * 64 + b3 % 64 ≥ 65536 ∧ (b0 % 8 * 262144 + b1 % 64 * 4096 + b2 % 64 * 64 + b3 % 64 < 55296 ∨ (57344 ≤ b0 % 8 * 262144 + b1 % 64 * 4096 + b2 % 64 * 64 + b3 % 64 ∧ b0 % 8 * 262144 + b1 % 64 * 4096 + b2 % 64 * 64 + b3 % 64 ≤ 1114111)) then (b0 % 8 * 262144 + b1 % 64 * 4096 + b2 % 64 * 64 + b3 % 64, 4) else (65533, 1) := by rw [Lib.decodeN, if_neg c0, if_neg (by omega), if_neg (by omega), if_pos (by omega)]
                    rw [sign_step _ _ _ _ _ _ (by omega) (by omega) (by omega) (by omega) (by omega) (by omega) (by omega) (by omega), sign_end _ _ _ _ _ _ (by omega), q1, q2, q3, Option.bind_some, hd]
                    have ev : (((b0 : Int) % 8 * 64 + b1 % 64) * 64 + b2 % 64) * 64 + b3 % 64 = ((b0 % 8 * 262144 + b1 % 64 * 4096 + b2 % 64 * 64 + b3 % 64 : Nat) : Int) := by omega
                    rw [ev]
                    generalize b0 % 8 * 262144 + b1 % 64 * 4096 + b2 % 64 * 64 + b3 % 64 = V
                    by_cases e3 : V ≥ 65536 ∧ (V < 55296 ∨ 57344 ≤ V ∧ V ≤ 1114111)
                    · rw [if_pos e3, if_neg (by omega), nxd, if_neg (by simp)]
                      simp
                    · rw [if_neg e3, if_pos (by omega), nxd_bad]
                  · have hd : Lib.decodeN xs.length b0 b1 b2 b3 = (65533, 1) := by rw [Lib.decodeN, if_neg c0, if_neg (by omega), if_neg (by omega), if_neg (by omega)]
                    rw [sign_bad _ _ _ _ _ _ (by omega) (by omega) (by omega) (by omega), hd, nxd_bad]
                    rfl
                · have hd : Lib.decodeN xs.length b0 b1 b2 b3 = (65533, 1) := by rw [Lib.decodeN, if_neg c0, if_neg (by omega), if_neg (by omega), if_neg (by omega)]
                  rw [sign_bad _ _ _ _ _ _ (by omega) (by omega) (by omega) (by omega), hd, nxd_bad]
                  rfl
              · have hd : Lib.decodeN xs.length b0 b1 b2 b3 = (65533, 1) := by rw [Lib.decodeN, if_neg c0, if_neg (by omega), if_neg (by omega), if_neg (by omega)]
                rw [sign_bad _ _ _ _ _ _ (by omega) (by omega) (by omega) (by omega), hd, nxd_bad]
                rfl
          · have hd : Lib.decodeN xs.length b0 b1 b2 b3 = (65533, 1) := by rw [Lib.decodeN, if_neg c0, if_neg (by omega), if_neg (by omega), if_neg (by omega)]
            rw [if_neg (by omega), hd, nxd_bad]
end Go.Proofs.YtjecgapnlnmloaaDoor.PRender
