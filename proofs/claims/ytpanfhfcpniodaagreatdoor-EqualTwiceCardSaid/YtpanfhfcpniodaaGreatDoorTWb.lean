/- A part of the proof: an interpreter of the program, shown right once, and the laws that it computes. -/
import Derived.Test.YtpanfhfcpniodaaGreatDoorTWa
set_option linter.unusedVariables false
namespace Go.Proofs.YtpanfhfcpniodaaGreatDoor
open Go.Eng Go.RowKit
/-- The letters. -/
def gamK (K : Nat → Nat) : Gam := fun j => match j / 1000 with
  | 1 => .int .u8 (K (j - 1500))
  | 2 => .int .i64 (K (j - 2500))
  | 3 => .int .i32 (K (j - 3500))
  | _ => .int .i64 0
theorem letK {K : Nat → Nat} {i : Nat} (hi : i < 100) (h1 : 97 ≤ K i) (h2 : K i ≤ 102) : LetOk (gamK K) (500 + i) := by
  refine ⟨K i, h1, ?_, ?_, ?_, ?_⟩
  · have : hiL (500 + i) = 102 := by
      unfold hiL
      cases h : Nat.blt (500 + i) 500 with
      | true => exact absurd (show 500 + i < 500 by simpa using h) (by omega)
      | false => rfl
    omega
  · unfold gamK
    rw [show (1000 + (500 + i)) / 1000 = 1 by omega, show 1000 + (500 + i) - 1500 = i by omega]
    rfl
  · unfold gamK
    rw [show (2000 + (500 + i)) / 1000 = 2 by omega, show 2000 + (500 + i) - 2500 = i by omega]
    rfl
  · unfold gamK
    rw [show (3000 + (500 + i)) / 1000 = 3 by omega, show 3000 + (500 + i) - 3500 = i by omega]
    rfl
theorem denK {K : Nat → Nat} (i : Nat) (hi : i < 100) : den (gamK K) (756 + i) = K i := by
  unfold den denL gamK
  rw [if_neg (by omega), show (1000 + (756 + i - 256)) / 1000 = 1 by omega, show 1000 + (756 + i - 256) - 1500 = i by omega]
  simp
/-- The bytes of the text. -/
def byteF (K : Nat → Nat) : Nat → List Nat
  | 0 => []
  | i + 1 => byteF K i ++ [107, K i, 58, 32, 48 + i % 10, 10]
theorem byteF_eq (K : Nat → Nat) : ∀ n, n ≤ 100 → (txtF n).map (den (gamK K)) = byteF K n
  | 0, _ => rfl
  | n + 1, h => by
    rw [txtF, byteF, List.map_append, byteF_eq K n (by omega)]
    simp only [List.map_cons, List.map_nil]
    rw [denK n (by omega), den_small (by omega : 107 < 256), den_small (by omega : 58 < 256), den_small (by omega : 32 < 256), den_small (by omega : 48 + n % 10 < 256), den_small (by omega : 10 < 256)]
theorem txtF_ok {K : Nat → Nat} : ∀ n, n ≤ 100 → (∀ i, i < n → 97 ≤ K i ∧ K i ≤ 102) → ∀ c ∈ txtF n, CodeOk (gamK K) c
  | 0, _, _, c, hc => by simp [txtF] at hc
  | n + 1, h, hK, c, hc => by
    rw [txtF, List.mem_append] at hc
    rcases hc with hc | hc
    · exact txtF_ok n (by omega) (fun i hi => hK i (by omega)) c hc
    · have hl := hK n (by omega)
      simp only [List.mem_cons, List.not_mem_nil, or_false] at hc
      rcases hc with rfl | rfl | rfl | rfl | rfl | rfl
      · exact .inl (by omega)
      · refine .inr ⟨by omega, by omega, ?_⟩
        rw [show 756 + n - 256 = 500 + n by omega]
        exact letK (by omega) hl.1 hl.2
      · exact .inl (by omega)
      · exact .inl (by omega)
      · exact .inl (by omega)
      · exact .inl (by omega)
theorem txtF_len : ∀ n, (txtF n).length = 6 * n
  | 0 => rfl
  | n + 1 => by rw [txtF, List.length_append, txtF_len n]; simp; omega
theorem byteF_len (K : Nat → Nat) : ∀ n, (byteF K n).length = 6 * n
  | 0 => rfl
  | n + 1 => by rw [byteF, List.length_append, byteF_len K n]; simp; omega
theorem valF_len : ∀ n, (valF n).length = 8 * n
  | 0 => rfl
  | n + 1 => by rw [valF, List.length_append, valF_len n]; simp; omega
theorem kidF_len : ∀ n, (kidF n).length = 2 * n
  | 0 => rfl
  | n + 1 => by rw [kidF, List.length_append, kidF_len n]; simp; omega
theorem valF_get : ∀ n i r, i < n → r < 8 → (valF n)[8 * i + r]? = ([.int .i64 5, .sstr [107, 756 + i], .str [], .nilsl, .int .i64 3, .str [48 + i % 10], .str [], .nilsl] : List IV)[r]?
  | 0, i, r, h, _ => by omega
  | n + 1, i, r, h, hr => by
    rw [valF]
    by_cases e : i = n
    · subst e
      rw [List.getElem?_append_right (by rw [valF_len]; omega), valF_len]
      congr 1; omega
    · rw [List.getElem?_append_left (by rw [valF_len]; omega)]
      exact valF_get n i r (by omega) hr
theorem kidF_get : ∀ n j, j < 2 * n → (kidF n)[j]? = some (.int .i64 (Int.ofNat j))
  | 0, j, h => by omega
  | n + 1, j, h => by
    rw [kidF]
    by_cases e : j < 2 * n
    · rw [List.getElem?_append_left (by rw [kidF_len]; omega)]
      exact kidF_get n j e
    · rw [List.getElem?_append_right (by rw [kidF_len]; omega), kidF_len]
      rcases (show j = 2 * n ∨ j = 2 * n + 1 by omega) with rfl | rfl
      · simp
      · rw [show 2 * n + 1 - 2 * n = 1 by omega]; rfl

section
variable {P : Program} {γ : Gam}
theorem vrs_get {ρ : Rho} {γ : Gam} : ∀ {l : List IV} {l' : List Value}, VRs ρ γ l l' → ∀ (j : Nat) (a : IV) (a' : Value), l[j]? = some a → l'[j]? = some a' → VR ρ γ a a'
  | _, _, .nil, j, a, a', h, _ => by simp at h
  | _, _, .cons v v' l l' h hl, 0, a, a', h1, h2 => by simp at h1 h2; subst h1; subst h2; exact h
  | _, _, .cons v v' l l' h hl, j + 1, a, a', h1, h2 => vrs_get hl j a a' (by simpa using h1) (by simpa using h2)
/-- What lies in a row. -/
theorem row_facts {ρ : Rho} {s : St} {w : World} (h : Rel P γ ρ s w) {b n elem fz tag : Nat} {v : Value} {f : Nat → Nat} {cs : List IV} {c : PT IV} (hn : 0 < n)
    (hv : VR ρ γ (.sl b 0 n n false) v) (hs : s.get b = .cells c cs.length elem fz tag) (hc : rens f cs = rdC c cs.length 0) :
    ∃ blk off cap, v = .slice (some ⟨blk, off, none⟩) n cap ∧ n ≤ cap ∧ blk < w.heap.size ∧ ∀ j q, cs[j]? = some q → ∃ x, w.cell? ⟨blk, off + j, none⟩ = some x ∧ VR ρ γ (ren f q) x := by
  cases hv with
  | sli _ _ _ _ c' off p hb hle hcc ho hl =>
    obtain ⟨o, q1, q2⟩ := h.live b p hb (by rw [hs]; exact id)
    rw [hs] at q2
    cases q2 with
    | cells _ _ _ _ _ arr fr h1 ha hce hf hss ht hz =>
      have hoff : off = p.shift := by rcases ho with ho | ho <;> omega
      subst hoff
      refine ⟨p.blk, p.shift, c', rfl, hcc, (h.bound b p hb).2, fun j q hj => ?_⟩
      have hlt : j < cs.length := by
        rcases Nat.lt_or_ge j cs.length with h | h
        · exact h
        · rw [List.getElem?_eq_none h] at hj; cases hj
      obtain ⟨x, x1, x2⟩ := hce j hlt
      refine ⟨x, by rw [cell_eq q1]; exact x1, ?_⟩
      have f1 : some (PT.get undefI c j) = (rens f cs)[j]? := by rw [hc, get_rdC _ _ _ _ hlt]; simp
      rw [rens_get, hj] at f1
      rw [Option.some.inj f1] at x2
      exact x2
end
theorem vr_int {ρ : Rho} {γ : Gam} {f : Nat → Nat} {k : IntKind} {n : Int} {x : Value} (h : VR ρ γ (ren f (.int k n)) x) : x = .int k n := by simp only [ren] at h; cases h; rfl
theorem vr_nilsl {ρ : Rho} {γ : Gam} {f : Nat → Nat} {x : Value} (h : VR ρ γ (ren f .nilsl) x) : x = .slice none 0 0 := by simp only [ren] at h; cases h; rfl
theorem vr_str {ρ : Rho} {γ : Gam} {f : Nat → Nat} {l : List Nat} {x : Value} (h : VR ρ γ (ren f (.str l)) x) : ∃ s : ByteArray, x = .string s ∧ s.data.toList.map UInt8.toNat = l := by
  simp only [ren] at h
  cases h with
  | str s _ h => exact ⟨s, rfl, h⟩
theorem vr_sstr {ρ : Rho} {γ : Gam} {f : Nat → Nat} {l : List Nat} {x : Value} (h : VR ρ γ (ren f (.sstr l)) x) : ∃ s : ByteArray, x = .string s ∧ s.data.toList.map UInt8.toNat = l.map (den γ) := by
  simp only [ren] at h
  cases h with
  | sstr s _ h hc => exact ⟨s, rfl, h⟩
/-- A text, of numbers. -/
def strN (l : List Nat) : ByteArray := ⟨(l.map UInt8.ofNat).toArray⟩
theorem strN_of {s : ByteArray} {l : List Nat} (h : s.data.toList.map UInt8.toNat = l) : s = strN l := by
  apply ByteArray.ext
  apply Array.ext'
  show s.data.toList = l.map UInt8.ofNat
  rw [← h, List.map_map]
  conv => lhs; rw [← List.map_id s.data.toList]
  exact List.map_congr_left fun c _ => by simp
/-- A graph of n rows, whose keys are so. -/
structure GraphW (w : World) (n : Nat) (K : Nat → Nat) (bv ov bk ok ck : Nat) : Prop where
  key0 : ∀ i, i < n → w.cell? ⟨bv, ov + (8 * i + 0), none⟩ = some (.int .i64 5)
  key1 : ∀ i, i < n → w.cell? ⟨bv, ov + (8 * i + 1), none⟩ = some (.string (strN [107, K i]))
  key2 : ∀ i, i < n → w.cell? ⟨bv, ov + (8 * i + 2), none⟩ = some (.string (strN []))
  key3 : ∀ i, i < n → w.cell? ⟨bv, ov + (8 * i + 3), none⟩ = some (.slice none 0 0)
  val0 : ∀ i, i < n → w.cell? ⟨bv, ov + (8 * i + 4), none⟩ = some (.int .i64 3)
  val1 : ∀ i, i < n → w.cell? ⟨bv, ov + (8 * i + 5), none⟩ = some (.string (strN [48 + i % 10]))
  val2 : ∀ i, i < n → w.cell? ⟨bv, ov + (8 * i + 6), none⟩ = some (.string (strN []))
  val3 : ∀ i, i < n → w.cell? ⟨bv, ov + (8 * i + 7), none⟩ = some (.slice none 0 0)
  top0 : w.cell? ⟨bv, ov + (8 * n + 0), none⟩ = some (.int .i64 7)
  top1 : w.cell? ⟨bv, ov + (8 * n + 1), none⟩ = some (.string (strN []))
  top2 : w.cell? ⟨bv, ov + (8 * n + 2), none⟩ = some (.string (strN []))
  top3 : w.cell? ⟨bv, ov + (8 * n + 3), none⟩ = some (.slice (some ⟨bk, ok, none⟩) (2 * n) ck)
  kid : ∀ j, j < 2 * n → w.cell? ⟨bk, ok + j, none⟩ = some (.int .i64 j)
theorem follows : Tryz.prog.follows .mixedOrders = true := by kernel_rfl
theorem byte5 : Eng.size Tryz.prog 5 = some 1 := by kernel_rfl
/-- What 'compose' hands back. -/
theorem compose_of {n : Nat} (hn : 0 < n) (hn2 : n ≤ 15) (hg : gRun n = true) {K : Nat → Nat} (hK : ∀ i, i < n → 97 ≤ K i ∧ K i ≤ 102) {w : World} {b c : Nat} {arr : Array Value} (hb : w.heap[b]? = some (.cells arr 5 (arr.size, arr.size + 1))) (hc : c = arr.size) (hlen : 6 * n ≤ c)
    (hcell : ∀ (j x : Nat), (byteF K n)[j]? = some x → arr[j]? = some (.int .u8 x)) :
    Calls Tryz.prog 7 #[.slice (some ⟨b, 0, none⟩) (6 * n) c] w fun e w' => ∃ bv ov cv bd od cd bk ok ck x, e = .returned (.agg #[.slice (some ⟨bv, ov, none⟩) (2 * n + 1) cv, .slice (some ⟨bd, od, none⟩) 1 cd, x]) ∧
      (∀ B, B ≤ b → Below B w w') ∧ GraphW w' n K bv ov bk ok ck ∧ w'.cell? ⟨bd, od, none⟩ = some (.int .i64 (2 * n : Nat)) ∧ bv < w'.heap.size ∧ bd < w'.heap.size ∧ bk < w'.heap.size ∧ ∃ xa xn xc, x = .slice xa xn xc := by
  subst hc
  have hlt : b < w.heap.size := (Array.getElem?_eq_some_iff.1 hb).1
  let ρ : Rho := fun k => if k = 0 then some ⟨b, 0, arr.size, 1⟩ else none
  have hin : (entG n).ins[0]? = some ⟨bytesS (txtF n), 5, 0, 1⟩ := rfl
  have hget : (subSt (entG n)).get 0 = .cells (wrC (bytesS (txtF n)) .e 0) (bytesS (txtF n)).length 5 0 1 := by
    rw [sub_get hin]; unfold rowAs; rw [rens_id]
  have hrel : Rel Tryz.prog (gamK K) ρ (subSt (entG n)) w := by
    refine ⟨fun k p hk _ => ?_, fun k p hk => ?_, fun k hk => ?_, fun k k' p p' hk hk' _ _ hne => ?_⟩
    · by_cases h : k = 0
      · subst h
        have hp : p = ⟨b, 0, arr.size, 1⟩ := by simpa [ρ] using hk.symm
        subst hp
        refine ⟨_, hb, ?_⟩
        rw [hget]
        refine .cells _ _ _ _ _ arr _ (by show 0 + _ ≤ arr.size; rw [length_bytesS, txtF_len]; omega) (Nat.le_refl _) (fun j hj => ?_) (fun j _ h2 => by show ¬ (arr.size ≤ j ∧ _); have : j < arr.size := h2; omega) (fun h => absurd rfl h) (fun h => by cases h) byte5
        have hbs := bytesS_sim (γ := gamK K) (ρ := ρ) (l := txtF n) (bs := (byteF K n).map UInt8.ofNat) (by
          rw [byteF_eq K n (by omega), List.map_map]
          conv => rhs; rw [← List.map_id (byteF K n)]
          refine List.map_congr_left fun x hx => ?_
          have hx2 : x < 256 := by
            rw [← byteF_eq K n (by omega)] at hx
            obtain ⟨c, c1, c2⟩ := List.mem_map.1 hx
            rcases txtF_ok n (by omega) hK c c1 with h | ⟨h1, _, h3⟩
            · rw [den_small h] at c2; omega
            · have := den_let h1 h3
              have h4 : hiL (c - 256) ≤ 122 := by
                unfold hiL; split <;> omega
              omega
          simp; omega) (txtF_ok n (by omega) hK)
        have hj' : j < (byteF K n).length := by rw [byteF_len]; rw [length_bytesS, txtF_len] at hj; exact hj
        have e0 : (byteF K n)[j]? = some (byteF K n)[j] := List.getElem?_eq_getElem hj'
        refine ⟨.int .u8 (byteF K n)[j], by rw [Nat.zero_add]; exact hcell j _ e0, vrs_get hbs j _ _ ?_ ?_⟩
        · rw [← wrC_at hj]
        · rw [List.map_map, List.getElem?_map, e0]
          simp only [Option.map_some, Function.comp, Option.some.injEq, Value.int.injEq, true_and]
          have hx2 : (byteF K n)[j] < 256 := by
            have hx : (byteF K n)[j] ∈ byteF K n := List.getElem_mem _
            generalize (byteF K n)[j] = x at hx
            rw [← byteF_eq K n (by omega)] at hx
            obtain ⟨c, c1, c2⟩ := List.mem_map.1 hx
            rcases txtF_ok n (by omega) hK c c1 with h | ⟨h1, _, h3⟩
            · rw [den_small h] at c2; omega
            · have := den_let h1 h3
              have h4 : hiL (c - 256) ≤ 122 := by
                unfold hiL; split <;> omega
              omega
          simp; omega
      · exact absurd hk (by simp [ρ, h])
    · by_cases h : k = 0
      · subst h
        have hp : p = ⟨b, 0, arr.size, 1⟩ := by simpa [ρ] using hk.symm
        subst hp
        exact ⟨by rw [sub_next]; exact Nat.zero_lt_one, hlt⟩
      · exact absurd hk (by simp [ρ, h])
    · exact sub_far (by rw [sub_next] at hk; exact hk)
    · by_cases h : k = 0
      · by_cases h' : k' = 0
        · omega
        · exact absurd hk' (by simp [ρ, h'])
      · exact absurd hk (by simp [ρ, h])
  have hargs : VRs ρ (gamK K) (entG n).args [.slice (some ⟨b, 0, none⟩) (6 * n) arr.size] :=
    .cons _ _ _ _ (.sli 0 0 (6 * n) (6 * n) arr.size 0 ⟨b, 0, arr.size, 1⟩ rfl (Nat.le_refl _) hlen (.inl rfl) (by show 0 + arr.size * 1 ≤ arr.size; omega)) .nil
  obtain ⟨v1, s1, hp, hcall⟩ := gOk_of (γ := gamK K) follows (noExt_ok) hg _ ρ w hrel trivial hargs
  refine Calls.mono hcall ?_
  rintro e w' ⟨v', ρ1, rfl, g, h1, hv⟩
  unfold packOkG at hp
  simp only [Bool.and_eq_true] at hp
  obtain ⟨⟨⟨k1, _⟩, k3⟩, _⟩ := hp
  have k1 := ieq_eq k1
  obtain ⟨r1, r2⟩ := rowsOk_inv k3
  rw [← k1] at hv
  generalize htau : tauG (entG n).ins.length (entG n).at_ s1.next = τ at *
  have hvv : VR ρ1 (gamK K) (.agg [.sl (τ 3) 0 (2 * n + 1) (2 * n + 1) false, .sl (τ 4) 0 1 1 false, .sl (τ 1) 0 (3 * n + 3) (3 * n + 3) false]) v' := hv
  have tau_at : ∀ k, τ (k + 1) = (entG n).at_.getD k s1.next := fun k => by
    rw [← htau, tauG_ge (by show 1 ≤ k + 1; omega), phi_eq, List.getD_eq_getElem?_getD]; rfl
  have rowk : ∀ (k : Nat) (r : RowP), (entG n).rows[k]? = some r → ∃ c, s1.get (τ (k + 1)) = .cells c r.cs.length r.elem r.fz r.tag ∧ rens τ r.cs = rdC c r.cs.length 0 := fun k r hr => by
    have := checkRow_inv (r2 k r hr)
    have hk : k < (entG n).at_.length := by
      rw [← r1]
      rcases Nat.lt_or_ge k (entG n).rows.length with h | h
      · exact h
      · rw [List.getElem?_eq_none h] at hr; cases hr
    rw [tau_at k, ← getD_of_lt 0 s1.next hk]
    exact this
  obtain ⟨c2, q2, q2'⟩ := rowk 1 ⟨kidF n, 3, 0, kTag n⟩ rfl
  obtain ⟨c3, q3, q3'⟩ := rowk 2 ⟨valF n ++ [.int .i64 7, .str [], .str [], .sl 2 0 (2 * n) (2 * n) false], 62, 0, 2⟩ rfl
  obtain ⟨c4, q4, q4'⟩ := rowk 3 ⟨[.int .i64 (Int.ofNat (2 * n))], 3, 0, 0⟩ rfl
  dsimp only at q2 q2' q3 q3' q4 q4'
  cases hvv with
  | agg _ a ha =>
    obtain ⟨a⟩ := a
    cases ha with
    | cons _ y1 _ l1 h11 hl1 =>
    cases hl1 with
    | cons _ y2 _ l2 h12 hl2 =>
    cases hl2 with
    | cons _ y3 _ l3 h13 hl3 =>
    cases hl3
    obtain ⟨bv, ov, cv, rfl, hcv, hbv, fv⟩ := row_facts h1 (by omega) h11 q3 q3'
    obtain ⟨bd, od, cd, rfl, hcd, hbd, fd⟩ := row_facts h1 (by omega) h12 q4 q4'
    obtain ⟨xk, hk1, hk2⟩ := fv (8 * n + 3) (.sl 2 0 (2 * n) (2 * n) false) (by rw [List.getElem?_append_right (by rw [valF_len]; omega), valF_len, show 8 * n + 3 - 8 * n = 3 by omega]; rfl)
    have hk2 : VR ρ1 (gamK K) (.sl (τ 2) 0 (2 * n) (2 * n) false) xk := hk2
    obtain ⟨bk, ok, ck, rfl, hck, hbk, fk⟩ := row_facts h1 (by omega) hk2 q2 q2'
    have top : ∀ r q, r < 4 → ([.int .i64 7, .str [], .str [], .sl 2 0 (2 * n) (2 * n) false] : List IV)[r]? = some q → ∃ x, w'.cell? ⟨bv, ov + (8 * n + r), none⟩ = some x ∧ VR ρ1 (gamK K) (ren τ q) x := fun r q hr hq =>
      fv (8 * n + r) q (by rw [List.getElem?_append_right (by rw [valF_len]; omega), valF_len, show 8 * n + r - 8 * n = r by omega]; exact hq)
    have mid : ∀ i r q, i < n → r < 8 → ([.int .i64 5, .sstr [107, 756 + i], .str [], .nilsl, .int .i64 3, .str [48 + i % 10], .str [], .nilsl] : List IV)[r]? = some q → ∃ x, w'.cell? ⟨bv, ov + (8 * i + r), none⟩ = some x ∧ VR ρ1 (gamK K) (ren τ q) x := fun i r q hi hr hq =>
      fv (8 * i + r) q (by rw [List.getElem?_append_left (by rw [valF_len]; omega), valF_get n i r hi hr]; exact hq)
    refine ⟨bv, ov, cv, bd, od, cd, bk, ok, ck, y3, rfl, fun B hB => ⟨g.os, g.tape, g.output, g.size, fun k hk => g.others k (by omega) fun b' p' hb' _ => ?_⟩, ⟨?_, ?_, ?_, ?_, ?_, ?_, ?_, ?_, ?_, ?_, ?_, ?_, ?_⟩, ?_, hbv, hbd, hbk, ?_⟩
    · by_cases h : b' = 0
      · subst h
        have hp : p' = ⟨b, 0, arr.size, 1⟩ := by simpa [ρ] using hb'.symm
        subst hp
        show b ≠ k
        omega
      · exact absurd hb' (by simp [ρ, h])
    · intro i hi; obtain ⟨x, e1, e2⟩ := mid i 0 _ hi (by omega) rfl; rw [e1, vr_int e2]
    · intro i hi
      obtain ⟨x, e1, e2⟩ := mid i 1 _ hi (by omega) rfl
      obtain ⟨s, rfl, e3⟩ := vr_sstr e2
      rw [e1, strN_of e3]
      simp only [List.map_cons, List.map_nil]
      rw [denK i (by omega), den_small (by omega : 107 < 256)]
    · intro i hi; obtain ⟨x, e1, e2⟩ := mid i 2 _ hi (by omega) rfl; obtain ⟨s, rfl, e3⟩ := vr_str e2; rw [e1, strN_of e3]
    · intro i hi; obtain ⟨x, e1, e2⟩ := mid i 3 _ hi (by omega) rfl; rw [e1, vr_nilsl e2]
    · intro i hi; obtain ⟨x, e1, e2⟩ := mid i 4 _ hi (by omega) rfl; rw [e1, vr_int e2]
    · intro i hi; obtain ⟨x, e1, e2⟩ := mid i 5 _ hi (by omega) rfl; obtain ⟨s, rfl, e3⟩ := vr_str e2; rw [e1, strN_of e3]
    · intro i hi; obtain ⟨x, e1, e2⟩ := mid i 6 _ hi (by omega) rfl; obtain ⟨s, rfl, e3⟩ := vr_str e2; rw [e1, strN_of e3]
    · intro i hi; obtain ⟨x, e1, e2⟩ := mid i 7 _ hi (by omega) rfl; rw [e1, vr_nilsl e2]
    · obtain ⟨x, e1, e2⟩ := top 0 _ (by omega) rfl; rw [e1, vr_int e2]
    · obtain ⟨x, e1, e2⟩ := top 1 _ (by omega) rfl; obtain ⟨s, rfl, e3⟩ := vr_str e2; rw [e1, strN_of e3]
    · obtain ⟨x, e1, e2⟩ := top 2 _ (by omega) rfl; obtain ⟨s, rfl, e3⟩ := vr_str e2; rw [e1, strN_of e3]
    · exact hk1
    · intro j hj; obtain ⟨x, e1, e2⟩ := fk j _ (kidF_get n j hj); rw [e1, vr_int e2]; rfl
    · obtain ⟨x, e1, e2⟩ := fd 0 _ rfl; rw [vr_int e2] at e1; exact e1
    · cases h13 with
      | sli _ _ _ _ c' off p hb hle hcc ho hl => exact ⟨_, _, _, rfl⟩
end Go.Proofs.YtpanfhfcpniodaaGreatDoor
