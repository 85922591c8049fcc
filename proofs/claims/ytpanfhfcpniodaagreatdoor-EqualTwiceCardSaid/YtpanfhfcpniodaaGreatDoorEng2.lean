/- A part of the proof: an interpreter of the program, shown right once, and the laws that it computes. -/
import Derived.Test.YtpanfhfcpniodaaGreatDoorEng1
import Derived.Laws.Sem
import Derived.Orders
import Derived.Scope
set_option linter.constructorNameAsVariable false
set_option linter.unusedVariables false
namespace Go.Eng

/-- Where an ideal row lies: its block, at which cell it begins, up to which cell all is its own, how many cells an element has. -/
structure Pl where
  blk : Nat
  shift : Nat
  lim : Nat
  sz : Nat

abbrev Rho := Nat → Option Pl
abbrev Gam := Nat → Value

/-- A letter's three symbols: a byte, a number, a sign; from 97 to the greatest. -/
def LetOk (γ : Gam) (j : Nat) : Prop := ∃ n : Nat, 97 ≤ n ∧ n ≤ hiL j ∧ γ (1000 + j) = .int .u8 n ∧ γ (2000 + j) = .int .i64 n ∧ γ (3000 + j) = .int .i32 n
/-- A code's byte: itself, or a letter's. -/
def denL (γ : Gam) (j : Nat) : Nat := match γ (1000 + j) with
  | .int _ n => n.toNat
  | _ => 0
def den (γ : Gam) (c : Nat) : Nat := if c < 256 then c else denL γ (c - 256)
def CodeOk (γ : Gam) (c : Nat) : Prop := c < 256 ∨ (256 ≤ c ∧ c < 1256 ∧ LetOk γ (c - 256))
mutual
/-- What an ideal value stands for. -/
inductive VR (ρ : Rho) (γ : Gam) : IV → Value → Prop where
  | bool (b : Bool) : VR ρ γ (.bool b) (.bool b)
  | int (k : IntKind) (n : Int) : VR ρ γ (.int k n) (.int k n)
  | str (s : ByteArray) (l : List Nat) (h : s.data.toList.map UInt8.toNat = l) : VR ρ γ (.str l) (.string s)
  | nilptr : VR ρ γ .nilptr (.pointer none)
  | ptr (b o : Nat) (p : Pl) (h : ρ b = some p) : VR ρ γ (.ptr b o) (.pointer (some ⟨p.blk, p.shift + o, none⟩))
  | nilsl : VR ρ γ .nilsl (.slice none 0 0)
  | slx (b o n c : Nat) (p : Pl) (h : ρ b = some p) : VR ρ γ (.sl b o n c true) (.slice (some ⟨p.blk, p.shift + o, none⟩) n c)
  | sli (b o n c c' off : Nat) (p : Pl) (h : ρ b = some p) (hn : n ≤ c) (hc : c ≤ c') (ho : off = p.shift + o ∨ (c = 0 ∧ p.shift ≤ off)) (hl : off + c' * p.sz ≤ p.lim) :
      VR ρ γ (.sl b o n c false) (.slice (some ⟨p.blk, off, none⟩) n c')
  | nilmap : VR ρ γ .nilmap (.map none)
  | map (b : Nat) (p : Pl) (h : ρ b = some p) : VR ρ γ (.map b) (.map (some p.blk))
  | fn (f : Fn) (a c : List IV) (a' c' : Array Value) (hy : notYield f = true) (ha : VRs ρ γ a a'.toList) (hc : VRs ρ γ c c'.toList) : VR ρ γ (.fn f a c) (.func f a' c')
  | nilfn : VR ρ γ .nilfn .nilFunc
  | niliface : VR ρ γ .niliface .nilIface
  | iface (t : Nat) (v : IV) (v' : Value) (h : VR ρ γ v v') : VR ρ γ (.iface t v) (.iface t v')
  | agg (l : List IV) (a : Array Value) (h : VRs ρ γ l a.toList) : VR ρ γ (.agg l) (.agg a)
  | tup (l : List IV) (a : Array Value) (h : VRs ρ γ l a.toList) : VR ρ γ (.tup l) (.tuple a)
  | sym (k : Nat) (h : (γ k).oneCell' = true) (hi : k < 500 → ∃ n, γ k = .int .i64 n) (hs : 300 ≤ k → k < 400 → ∃ n : Int, γ k = .int .i64 n ∧ γ (k + 100) = .int .i64 (n + 1) ∧ -1000000 < n ∧ n < 1000000) (hl : 1000 ≤ k → k < 4000 → LetOk γ (k % 1000)) : VR ρ γ (.sym k) (γ k)
  | sstr (s : ByteArray) (l : List Nat) (h : s.data.toList.map UInt8.toNat = l.map (den γ)) (hc : ∀ c ∈ l, CodeOk γ c) : VR ρ γ (.sstr l) (.string s)
inductive VRs (ρ : Rho) (γ : Gam) : List IV → List Value → Prop where
  | nil : VRs ρ γ [] []
  | cons (v : IV) (v' : Value) (l : List IV) (l' : List Value) (h : VR ρ γ v v') (hl : VRs ρ γ l l') : VRs ρ γ (v :: l) (v' :: l')
end

def Le (ρ ρ' : Rho) : Prop := ∀ b p, ρ b = some p → ρ' b = some p
theorem Le.refl (ρ : Rho) : Le ρ ρ := fun _ _ h => h
theorem Le.trans {a b c : Rho} (h : Le a b) (k : Le b c) : Le a c := fun x p hx => k x p (h x p hx)

mutual
theorem VR.mono {ρ ρ' : Rho} {γ : Gam} (hl : Le ρ ρ') : ∀ {v : IV} {v' : Value}, VR ρ γ v v' → VR ρ' γ v v'
  | _, _, .bool b => .bool b
  | _, _, .int k n => .int k n
  | _, _, .str s l h => .str s l h
  | _, _, .nilptr => .nilptr
  | _, _, .ptr b o p h => .ptr b o p (hl _ _ h)
  | _, _, .nilsl => .nilsl
  | _, _, .slx b o n c p h => .slx b o n c p (hl _ _ h)
  | _, _, .sli b o n c c' off p h hn hc ho hm => .sli b o n c c' off p (hl _ _ h) hn hc ho hm
  | _, _, .nilmap => .nilmap
  | _, _, .map b p h => .map b p (hl _ _ h)
  | _, _, .fn f a c a' c' hy ha hc => .fn f a c a' c' hy (VRs.mono hl ha) (VRs.mono hl hc)
  | _, _, .nilfn => .nilfn
  | _, _, .niliface => .niliface
  | _, _, .iface t v v' h => .iface t v v' (VR.mono hl h)
  | _, _, .agg l a h => .agg l a (VRs.mono hl h)
  | _, _, .tup l a h => .tup l a (VRs.mono hl h)
  | _, _, .sym k h hi hs hl => .sym k h hi hs hl
  | _, _, .sstr s l h hc => .sstr s l h hc
theorem VRs.mono {ρ ρ' : Rho} {γ : Gam} (hl : Le ρ ρ') : ∀ {l : List IV} {l' : List Value}, VRs ρ γ l l' → VRs ρ' γ l l'
  | _, _, .nil => .nil
  | _, _, .cons v v' l l' h hs => .cons v v' l l' (VR.mono hl h) (VRs.mono hl hs)
end

theorem VRs.length {ρ : Rho} {γ : Gam} : ∀ {l : List IV} {l' : List Value}, VRs ρ γ l l' → l.length = l'.length
  | _, _, .nil => rfl
  | _, _, .cons _ _ _ _ _ h => by simp [VRs.length h]

theorem VRs.append {ρ : Rho} {γ : Gam} : ∀ {l m : List IV} {l' m' : List Value}, VRs ρ γ l l' → VRs ρ γ m m' → VRs ρ γ (l ++ m) (l' ++ m')
  | _, _, _, _, .nil, h => h
  | _, _, _, _, .cons v v' l l' h hs, hm => .cons v v' _ _ h (VRs.append hs hm)

theorem VRs.nth {ρ : Rho} {γ : Gam} : ∀ {l : List IV} {l' : List Value}, VRs ρ γ l l' → ∀ {k : Nat} {v : IV}, nth l k = some v → ∃ v', l'[k]? = some v' ∧ VR ρ γ v v'
  | _, _, .nil, k, v, h => by simp [Eng.nth] at h
  | _, _, .cons a a' l l' h hs, k, v, hk => by
    cases k with
    | zero => simp [Eng.nth] at hk; subst hk; exact ⟨a', rfl, h⟩
    | succ k => simp only [Eng.nth] at hk; simpa using VRs.nth hs hk

theorem VRs.drop {ρ : Rho} {γ : Gam} : ∀ {n : Nat} {l r : List IV} {l' : List Value}, VRs ρ γ l l' → dropN n l = some r → n ≤ l'.length ∧ VRs ρ γ r (l'.drop n)
  | 0, l, r, l', h, hd => by simp [dropN] at hd; subst hd; simpa using h
  | n + 1, [], r, l', h, hd => by simp [dropN] at hd
  | n + 1, x :: l, r, l', h, hd => by
    cases h with
    | cons v v' _ l'' h hs =>
      simp only [dropN] at hd
      have := VRs.drop hs hd
      simp; exact this

theorem VRs.take {ρ : Rho} {γ : Gam} : ∀ {n : Nat} {l r : List IV} {l' : List Value}, VRs ρ γ l l' → takeN n l = some r → n ≤ l'.length ∧ VRs ρ γ r (l'.take n)
  | 0, l, r, l', h, hd => by simp [takeN] at hd; subst hd; simpa using VRs.nil
  | n + 1, [], r, l', h, hd => by simp [takeN] at hd
  | n + 1, x :: l, r, l', h, hd => by
    cases h with
    | cons v v' _ l'' h hs =>
      simp only [takeN] at hd
      cases ht : takeN n l with
      | none => simp [ht] at hd
      | some q =>
        simp [ht] at hd; subst hd
        have := VRs.take hs ht
        exact ⟨by simp; exact this.1, by simpa using VRs.cons _ _ _ _ h this.2⟩

/-- The cells of a value. -/
theorem cells_of_one {v : Value} (h : v.oneCell' = true) : v.cells = #[v] := by
  cases v <;> first | rfl | cases h
theorem VR.cells {ρ : Rho} {γ : Gam} {v : IV} {v' : Value} (h : VR ρ γ v v') : VRs ρ γ v.cells v'.cells.toList := by
  cases h <;> first
    | assumption
    | (rename_i k hk hki hks hkl; show VRs ρ γ [IV.sym k] (γ k).cells.toList; rw [cells_of_one hk]; exact .cons _ _ _ _ (.sym k hk hki hks hkl) .nil)
    | (refine VRs.cons _ _ _ _ ?_ .nil; constructor <;> assumption)

mutual
theorem VR.ofValue {ρ : Rho} {γ : Gam} : ∀ {v' : Value} {v : IV}, ofValue v' = some v → VR ρ γ v v'
  | .bool b, v, h => by simp [Eng.ofValue] at h; subst h; exact .bool b
  | .int k n, v, h => by simp [Eng.ofValue] at h; subst h; exact .int k n
  | .string s, v, h => by simp [Eng.ofValue] at h; subst h; exact .str s _ rfl
  | .pointer none, v, h => by simp [Eng.ofValue] at h; subst h; exact .nilptr
  | .slice none 0 0, v, h => by simp [Eng.ofValue] at h; subst h; exact .nilsl
  | .map none, v, h => by simp [Eng.ofValue] at h; subst h; exact .nilmap
  | .func f ⟨[]⟩ ⟨[]⟩, v, h => by
    cases f <;> simp [Eng.ofValue] at h <;> (subst h; exact .fn _ _ _ _ _ rfl .nil .nil)
  | .nilFunc, v, h => by simp [Eng.ofValue] at h; subst h; exact .nilfn
  | .nilIface, v, h => by simp [Eng.ofValue] at h; subst h; exact .niliface
  | .iface t x, v, h => by
    simp only [Eng.ofValue] at h
    cases hx : Eng.ofValue x with
    | none => simp [hx] at h
    | some y => simp [hx] at h; subst h; exact .iface t y x (VR.ofValue hx)
  | .agg ⟨cs⟩, v, h => by
    simp only [Eng.ofValue] at h
    cases hx : Eng.ofValues cs with
    | none => simp [hx] at h
    | some y => simp [hx] at h; subst h; exact .agg y _ (VRs.ofValues hx)
  | .tuple ⟨cs⟩, v, h => by
    simp only [Eng.ofValue] at h
    cases hx : Eng.ofValues cs with
    | none => simp [hx] at h
    | some y => simp [hx] at h; subst h; exact .tup y _ (VRs.ofValues hx)
  | .float .., v, h => by simp [Eng.ofValue] at h
  | .complex .., v, h => by simp [Eng.ofValue] at h
  | .pointer (some _), v, h => by simp [Eng.ofValue] at h
  | .slice (some _) _ _, v, h => by simp [Eng.ofValue] at h
  | .slice none (_ + 1) _, v, h => by simp [Eng.ofValue] at h
  | .slice none 0 (_ + 1), v, h => by simp [Eng.ofValue] at h
  | .map (some _), v, h => by simp [Eng.ofValue] at h
  | .chan _, v, h => by simp [Eng.ofValue] at h
  | .func f ⟨_ :: _⟩ _, v, h => by simp [Eng.ofValue] at h
  | .func f ⟨[]⟩ ⟨_ :: _⟩, v, h => by simp [Eng.ofValue] at h
theorem VRs.ofValues {ρ : Rho} {γ : Gam} : ∀ {l' : List Value} {l : List IV}, ofValues l' = some l → VRs ρ γ l l'
  | [], l, h => by simp [Eng.ofValues] at h; subst h; exact .nil
  | v :: vs, l, h => by
    simp only [Eng.ofValues] at h
    cases hx : Eng.ofValue v with
    | none => simp [hx] at h
    | some y =>
      simp only [hx] at h
      cases hy : Eng.ofValues vs with
      | none => simp [hy] at h
      | some z => simp [hy] at h; subst h; exact .cons _ _ _ _ (VR.ofValue hx) (VRs.ofValues hy)
end

/- tables -/
theorem PT.get_e {α : Type} (d : α) (k : Nat) : PT.get d .e k = d := rfl
theorem PT.get_zero {α : Type} (d : α) (l : PT α) (v : α) (r : PT α) : PT.get d (.n l v r) 0 = v := rfl
theorem PT.get_succ {α : Type} (d : α) (l : PT α) (v : α) (r : PT α) (k : Nat) :
    PT.get d (.n l v r) (k + 1) = if k % 2 = 0 then PT.get d l (k / 2) else PT.get d r (k / 2) := by
  show Nat.rec (motive := fun _ => α) (PT.get d l (k / 2)) (fun _ _ => PT.get d r (k / 2)) (k % 2) = _
  rcases Nat.mod_two_eq_zero_or_one k with h | h <;> rw [h] <;> rfl

theorem PT.get_setIn {α : Type} (d v : α) : ∀ (f : Nat) (t : PT α) (k j : Nat), k < f → PT.get d (PT.setIn d v f t k) j = if j = k then v else PT.get d t j := by
  intro f
  induction f with
  | zero => intro t k j h; omega
  | succ f ih =>
    intro t k j h
    have key : ∀ (l : PT α) (x : α) (r : PT α), PT.get d (Nat.rec (motive := fun _ => PT α) (.n l v r)
        (fun k' _ => Nat.rec (motive := fun _ => PT α) (.n (PT.setIn d v f l (Nat.div k' 2)) x r) (fun _ _ => .n l x (PT.setIn d v f r (Nat.div k' 2))) (Nat.mod k' 2)) k : PT α) j = if j = k then v else PT.get d (.n l x r) j := by
      intro l x r
      cases k with
      | zero =>
        cases j with
        | zero => rfl
        | succ j => show PT.get d (.n l v r) (j + 1) = _; rw [if_neg (by omega), PT.get_succ, PT.get_succ]
      | succ k =>
        show PT.get d (Nat.rec (motive := fun _ => PT α) (.n (PT.setIn d v f l (k / 2)) x r) (fun _ _ => .n l x (PT.setIn d v f r (k / 2))) (k % 2)) j = _
        rcases Nat.mod_two_eq_zero_or_one k with hk | hk <;> rw [hk]
        · show PT.get d (.n (PT.setIn d v f l (k / 2)) x r) j = _
          cases j with
          | zero => rw [if_neg (by omega)]; rfl
          | succ j =>
            rw [PT.get_succ, PT.get_succ]
            by_cases hj : j % 2 = 0
            · rw [if_pos hj, if_pos hj, ih _ _ _ (by omega)]
              by_cases e : j = k
              · subst e; simp
              · rw [if_neg (by omega), if_neg (by omega)]
            · rw [if_neg hj, if_neg hj, if_neg (by omega)]
        · show PT.get d (.n l x (PT.setIn d v f r (k / 2))) j = _
          cases j with
          | zero => rw [if_neg (by omega)]; rfl
          | succ j =>
            rw [PT.get_succ, PT.get_succ]
            by_cases hj : j % 2 = 0
            · rw [if_pos hj, if_pos hj, if_neg (by omega)]
            · rw [if_neg hj, if_neg hj, ih _ _ _ (by omega)]
              by_cases e : j = k
              · subst e; simp
              · rw [if_neg (by omega), if_neg (by omega)]
    cases t with
    | e =>
      have := key .e d .e
      refine Eq.trans this ?_
      congr 1
      cases j with
      | zero => rfl
      | succ j => rw [PT.get_succ]; split <;> rfl
    | n l x r => exact key l x r

theorem PT.get_set {α : Type} (d : α) (t : PT α) (k : Nat) (v : α) (j : Nat) : PT.get d (PT.set d t k v) j = if j = k then v else PT.get d t j :=
  PT.get_setIn d v _ t k j (Nat.lt_succ_self k)

end Go.Eng
