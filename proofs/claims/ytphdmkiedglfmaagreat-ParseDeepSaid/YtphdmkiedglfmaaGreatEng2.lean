/- A part of the proof: an interpreter of the program, shown right once, and the laws that it computes. -/
import Derived.Test.YtphdmkiedglfmaaGreatEng1
import Derived.Laws.Sem
import Derived.Orders
import Derived.Scope
set_option linter.constructorNameAsVariable false
set_option linter.unusedVariables false
namespace Go.Eng

/-- Where an ideal row lies: its block, at which cell it begins, up to which cell all is its own, how many cells an element has. -/
structure Pl where
  blk : Nat
  shift : Nat
  lim : Nat
  sz : Nat

abbrev Rho := Nat → Option Pl
abbrev Gam := Nat → Value

/-- A letter's three symbols: a byte, a number, a sign; from 97 to the greatest. -/
def LetOk (γ : Gam) (j : Nat) : Prop := ∃ n : Nat, 97 ≤ n ∧ n ≤ hiL j ∧ γ (1000 + j) = .int .u8 n ∧ γ (2000 + j) = .int .i64 n ∧ γ (3000 + j) = .int .i32 n
/-- A code's byte: itself, or a letter's. -/
def denL (γ : Gam) (j : Nat) : Nat := match γ (1000 + j) with
  | .int _ n => n.toNat
  | _ => 0
def den (γ : Gam) (c : Nat) : Nat := if c < 256 then c else denL γ (c - 256)
def CodeOk (γ : Gam) (c : Nat) : Prop := c < 256 ∨ (256 ≤ c ∧ c < 1256 ∧ LetOk γ (c - 256))
/-- The symbol of a number between two bounds; its family: the number, so much less or more. -/
def encR (q lo hi : Nat) : Nat := 10000000 + q * 1000000 + lo * 1000 + hi
def RngOk (γ : Gam) (j : Nat) : Prop := ∃ q lo hi n, j = encR q lo hi ∧ lo ≤ n ∧ n ≤ hi ∧ hi < 1000 ∧
  ∀ lo' hi' n', lo' ≤ n' → n' ≤ hi' → hi' < 1000 → lo' + n = lo + n' → hi' + n = hi + n' → γ (encR q lo' hi') = .int .i64 (n' : Int)
mutual
/-- What an ideal value stands for. -/
inductive VR (ρ : Rho) (γ : Gam) : IV → Value → Prop where
  | bool (b : Bool) : VR ρ γ (.bool b) (.bool b)
  | int (k : IntKind) (n : Int) : VR ρ γ (.int k n) (.int k n)
  | str (s : ByteArray) (l : List Nat) (h : s.data.toList.map UInt8.toNat = l) : VR ρ γ (.str l) (.string s)
  | nilptr : VR ρ γ .nilptr (.pointer none)
  | ptr (b o : Nat) (p : Pl) (h : ρ b = some p) : VR ρ γ (.ptr b o) (.pointer (some ⟨p.blk, p.shift + o, none⟩))
  | nilsl : VR ρ γ .nilsl (.slice none 0 0)
  | slx (b o n c : Nat) (p : Pl) (h : ρ b = some p) : VR ρ γ (.sl b o n c true) (.slice (some ⟨p.blk, p.shift + o, none⟩) n c)
  | sli (b o n c c' off : Nat) (p : Pl) (h : ρ b = some p) (hn : n ≤ c) (hc : c ≤ c') (ho : off = p.shift + o ∨ (c = 0 ∧ p.shift ≤ off)) (hl : off + c' * p.sz ≤ p.lim) :
      VR ρ γ (.sl b o n c false) (.slice (some ⟨p.blk, off, none⟩) n c')
  | nilmap : VR ρ γ .nilmap (.map none)
  | map (b : Nat) (p : Pl) (h : ρ b = some p) : VR ρ γ (.map b) (.map (some p.blk))
  | fn (f : Fn) (a c : List IV) (a' c' : Array Value) (hy : notYield f = true) (ha : VRs ρ γ a a'.toList) (hc : VRs ρ γ c c'.toList) : VR ρ γ (.fn f a c) (.func f a' c')
  | nilfn : VR ρ γ .nilfn .nilFunc
  | niliface : VR ρ γ .niliface .nilIface
  | iface (t : Nat) (v : IV) (v' : Value) (h : VR ρ γ v v') : VR ρ γ (.iface t v) (.iface t v')
  | agg (l : List IV) (a : Array Value) (h : VRs ρ γ l a.toList) : VR ρ γ (.agg l) (.agg a)
  | tup (l : List IV) (a : Array Value) (h : VRs ρ γ l a.toList) : VR ρ γ (.tup l) (.tuple a)
  | sym (k : Nat) (h : (γ k).oneCell' = true) (hi : k < 500 → ∃ n, γ k = .int .i64 n) (hs : 300 ≤ k → k < 400 → ∃ n : Int, γ k = .int .i64 n ∧ γ (k + 100) = .int .i64 (n + 1) ∧ -1000000 < n ∧ n < 1000000) (hl : 1000 ≤ k → k < 4000 → LetOk γ (k % 1000)) (hr : 10000000 ≤ k → RngOk γ k) : VR ρ γ (.sym k) (γ k)
  | sstr (s : ByteArray) (l : List Nat) (h : s.data.toList.map UInt8.toNat = l.map (den γ)) (hc : ∀ c ∈ l, CodeOk γ c) : VR ρ γ (.sstr l) (.string s)
inductive VRs (ρ : Rho) (γ : Gam) : List IV → List Value → Prop where
  | nil : VRs ρ γ [] []
  | cons (v : IV) (v' : Value) (l : List IV) (l' : List Value) (h : VR ρ γ v v') (hl : VRs ρ γ l l') : VRs ρ γ (v :: l) (v' :: l')
end

def Le (ρ ρ' : Rho) : Prop := ∀ b p, ρ b = some p → ρ' b = some p
theorem Le.refl (ρ : Rho) : Le ρ ρ := fun _ _ h => h
theorem Le.trans {a b c : Rho} (h : Le a b) (k : Le b c) : Le a c := fun x p hx => k x p (h x p hx)

mutual
theorem VR.mono {ρ ρ' : Rho} {γ : Gam} (hl : Le ρ ρ') : ∀ {v : IV} {v' : Value}, VR ρ γ v v' → VR ρ' γ v v'
  | _, _, .bool b => .bool b
  | _, _, .int k n => .int k n
  | _, _, .str s l h => .str s l h
  | _, _, .nilptr => .nilptr
  | _, _, .ptr b o p h => .ptr b o p (hl _ _ h)
  | _, _, .nilsl => .nilsl
  | _, _, .slx b o n c p h => .slx b o n c p (hl _ _ h)
  | _, _, .sli b o n c c' off p h hn hc ho hm => .sli b o n c c' off p (hl _ _ h) hn hc ho hm
  | _, _, .nilmap => .nilmap
  | _, _, .map b p h => .map b p (hl _ _ h)
  | _, _, .fn f a c a' c' hy ha hc => .fn f a c a' c' hy (VRs.mono hl ha) (VRs.mono hl hc)
  | _, _, .nilfn => .nilfn
  | _, _, .niliface => .niliface
  | _, _, .iface t v v' h => .iface t v v' (VR.mono hl h)
  | _, _, .agg l a h => .agg l a (VRs.mono hl h)
  | _, _, .tup l a h => .tup l a (VRs.mono hl h)
  | _, _, .sym k h hi hs hl hr => .sym k h hi hs hl hr
  | _, _, .sstr s l h hc => .sstr s l h hc
theorem VRs.mono {ρ ρ' : Rho} {γ : Gam} (hl : Le ρ ρ') : ∀ {l : List IV} {l' : List Value}, VRs ρ γ l l' → VRs ρ' γ l l'
  | _, _, .nil => .nil
  | _, _, .cons v v' l l' h hs => .cons v v' l l' (VR.mono hl h) (VRs.mono hl hs)
end

theorem VRs.length {ρ : Rho} {γ : Gam} : ∀ {l : List IV} {l' : List Value}, VRs ρ γ l l' → l.length = l'.length
  | _, _, .nil => rfl
  | _, _, .cons _ _ _ _ _ h => by simp [VRs.length h]

theorem VRs.append {ρ : Rho} {γ : Gam} : ∀ {l m : List IV} {l' m' : List Value}, VRs ρ γ l l' → VRs ρ γ m m' → VRs ρ γ (l ++ m) (l' ++ m')
  | _, _, _, _, .nil, h => h
  | _, _, _, _, .cons v v' l l' h hs, hm => .cons v v' _ _ h (VRs.append hs hm)

theorem VRs.nth {ρ : Rho} {γ : Gam} : ∀ {l : List IV} {l' : List Value}, VRs ρ γ l l' → ∀ {k : Nat} {v : IV}, nth l k = some v → ∃ v', l'[k]? = some v' ∧ VR ρ γ v v'
  | _, _, .nil, k, v, h => by simp [Eng.nth] at h
  | _, _, .cons a a' l l' h hs, k, v, hk => by
    cases k with
    | zero => simp [Eng.nth] at hk; subst hk; exact ⟨a', rfl, h⟩
    | succ k => simp only [Eng.nth] at hk; simpa using VRs.nth hs hk

theorem VRs.drop {ρ : Rho} {γ : Gam} : ∀ {n : Nat} {l r : List IV} {l' : List Value}, VRs ρ γ l l' → dropN n l = some r → n ≤ l'.length ∧ VRs ρ γ r (l'.drop n)
  | 0, l, r, l', h, hd => by simp [dropN] at hd; subst hd; simpa using h
  | n + 1, [], r, l', h, hd => by simp [dropN] at hd
  | n + 1, x :: l, r, l', h, hd => by
    cases h with
    | cons v v' _ l'' h hs =>
      simp only [dropN] at hd
      have := VRs.drop hs hd
      simp; exact this

theorem VRs.take {ρ : Rho} {γ : Gam} : ∀ {n : Nat} {l r : List IV} {l' : List Value}, VRs ρ γ l l' → takeN n l = some r → n ≤ l'.length ∧ VRs ρ γ r (l'.take n)
  | 0, l, r, l', h, hd => by simp [takeN] at hd; subst hd; simpa using VRs.nil
  | n + 1, [], r, l', h, hd => by simp [takeN] at hd
  | n + 1, x :: l, r, l', h, hd => by
    cases h with
    | cons v v' _ l'' h hs =>
      simp only [takeN] at hd
      cases ht : takeN n l with
      | none => simp [ht] at hd
      | some q =>
        simp [ht] at hd; subst hd
        have := VRs.take hs ht
        exact ⟨by simp; exact this.1, by simpa using VRs.cons _ _ _ _ h this.2⟩

/-- The cells of a value. -/
theorem cells_of_one {v : Value} (h : v.oneCell' = true) : v.cells = #[v] := by
  cases v <;> first | rfl | cases h
theorem VR.cells {ρ : Rho} {γ : Gam} {v : IV} {v' : Value} (h : VR ρ γ v v') : VRs ρ γ v.cells v'.cells.toList := by
  cases h <;> first
    | assumption
    | (rename_i k hk hki hks hkl hkr; show VRs ρ γ [IV.sym k] (γ k).cells.toList; rw [cells_of_one hk]; exact .cons _ _ _ _ (.sym k hk hki hks hkl hkr) .nil)
    | (refine VRs.cons _ _ _ _ ?_ .nil; constructor <;> assumption)

mutual
theorem VR.ofValue {ρ : Rho} {γ : Gam} : ∀ {v' : Value} {v : IV}, ofValue v' = some v → VR ρ γ v v'
  | .bool b, v, h => by simp [Eng.ofValue] at h; subst h; exact .bool b
  | .int k n, v, h => by simp [Eng.ofValue] at h; subst h; exact .int k n
  | .string s, v, h => by simp [Eng.ofValue] at h; subst h; exact .str s _ rfl
  | .pointer none, v, h => by simp [Eng.ofValue] at h; subst h; exact .nilptr
  | .slice none 0 0, v, h => by simp [Eng.ofValue] at h; subst h; exact .nilsl
  | .map none, v, h => by simp [Eng.ofValue] at h; subst h; exact .nilmap
  | .func f ⟨[]⟩ ⟨[]⟩, v, h => by
    cases f <;> simp [Eng.ofValue] at h <;> (subst h; exact .fn _ _ _ _ _ rfl .nil .nil)
  | .nilFunc, v, h => by simp [Eng.ofValue] at h; subst h; exact .nilfn
  | .nilIface, v, h => by simp [Eng.ofValue] at h; subst h; exact .niliface
  | .iface t x, v, h => by
    simp only [Eng.ofValue] at h
    cases hx : Eng.ofValue x with
    | none => simp [hx] at h
    | some y => simp [hx] at h; subst h; exact .iface t y x (VR.ofValue hx)
  | .agg ⟨cs⟩, v, h => by
    simp only [Eng.ofValue] at h
    cases hx : Eng.ofValues cs with
    | none => simp [hx] at h
    | some y => simp [hx] at h; subst h; exact .agg y _ (VRs.ofValues hx)
  | .tuple ⟨cs⟩, v, h => by
    simp only [Eng.ofValue] at h
    cases hx : Eng.ofValues cs with
    | none => simp [hx] at h
    | some y => simp [hx] at h; subst h; exact .tup y _ (VRs.ofValues hx)
  | .float .., v, h => by simp [Eng.ofValue] at h
  | .complex .., v, h => by simp [Eng.ofValue] at h
  | .pointer (some _), v, h => by simp [Eng.ofValue] at h
  | .slice (some _) _ _, v, h => by simp [Eng.ofValue] at h
  | .slice none (_ + 1) _, v, h => by simp [Eng.ofValue] at h
  | .slice none 0 (_ + 1), v, h => by simp [Eng.ofValue] at h
  | .map (some _), v, h => by simp [Eng.ofValue] at h
  | .chan _, v, h => by simp [Eng.ofValue] at h
  | .func f ⟨_ :: _⟩ _, v, h => by simp [Eng.ofValue] at h
  | .func f ⟨[]⟩ ⟨_ :: _⟩, v, h => by simp [Eng.ofValue] at h
theorem VRs.ofValues {ρ : Rho} {γ : Gam} : ∀ {l' : List Value} {l : List IV}, ofValues l' = some l → VRs ρ γ l l'
  | [], l, h => by simp [Eng.ofValues] at h; subst h; exact .nil
  | v :: vs, l, h => by
    simp only [Eng.ofValues] at h
    cases hx : Eng.ofValue v with
    | none => simp [hx] at h
    | some y =>
      simp only [hx] at h
      cases hy : Eng.ofValues vs with
      | none => simp [hy] at h
      | some z => simp [hy] at h; subst h; exact .cons _ _ _ _ (VR.ofValue hx) (VRs.ofValues hy)
end

/- tables -/
theorem PT.get_e {α : Type} (d : α) (k : Nat) : PT.get d .e k = d := rfl
theorem PT.get_zero {α : Type} (d : α) (l : PT α) (v : α) (r : PT α) : PT.get d (.n l v r) 0 = v := rfl
theorem PT.get_succ {α : Type} (d : α) (l : PT α) (v : α) (r : PT α) (k : Nat) :
    PT.get d (.n l v r) (k + 1) = if k % 2 = 0 then PT.get d l (k / 2) else PT.get d r (k / 2) := by
  show Nat.rec (motive := fun _ => α) (PT.get d l (k / 2)) (fun _ _ => PT.get d r (k / 2)) (k % 2) = _
  rcases Nat.mod_two_eq_zero_or_one k with h | h <;> rw [h] <;> rfl

theorem PT.get_setIn {α : Type} (d v : α) : ∀ (f : Nat) (t : PT α) (k j : Nat), k < f → PT.get d (PT.setIn d v f t k) j = if j = k then v else PT.get d t j := by
  intro f
  induction f with
  | zero => intro t k j h; omega
  | succ f ih =>
    intro t k j h
    have key : ∀ (l : PT α) (x : α) (r : PT α), PT.get d (Nat.rec (motive := fun _ => PT α) (.n l v r)
        (fun k' _ => Nat.rec (motive := fun _ => PT α) (.n (PT.setIn d v f l (Nat.div k' 2)) x r) (fun _ _ => .n l x (PT.setIn d v f r (Nat.div k' 2))) (Nat.mod k' 2)) k : PT α) j = if j = k then v else PT.get d (.n l x r) j := by
      intro l x r
      cases k with
      | zero =>
        cases j with
        | zero => rfl
        | succ j => show PT.get d (.n l v r) (j + 1) = _; rw [if_neg (by omega), PT.get_succ, PT.get_succ]
      | succ k =>
        show PT.get d (Nat.rec (motive := fun _ => PT α) (.n (PT.setIn d v f l (k / 2)) x r) (fun _ _ => .n l x (PT.setIn d v f r (k / 2))) (k % 2)) j = _
        rcases Nat.mod_two_eq_zero_or_one k with hk | hk <;> rw [hk]
        · show PT.get d (.n (PT.setIn d v f l (k / 2)) x r) j = _
          cases j with
          | zero => rw [if_neg (by omega)]; rfl
          | succ j =>
            rw [PT.get_succ, PT.get_succ]
            by_cases hj : j % 2 = 0
            · rw [if_pos hj, if_pos hj, ih _ _ _ (by omega)]
              by_cases e : j = k
              · subst e; simp
              · rw [if_neg (by omega), if_neg (by omega)]
            · rw [if_neg hj, if_neg hj, if_neg (by omega)]
        · show PT.get d (.n l x (PT.setIn d v f r (k / 2))) j = _
          cases j with
          | zero => rw [if_neg (by omega)]; rfl
          | succ j =>
            rw [PT.get_succ, PT.get_succ]
            by_cases hj : j % 2 = 0
            · rw [if_pos hj, if_pos hj, if_neg (by omega)]
            · rw [if_neg hj, if_neg hj, ih _ _ _ (by omega)]
              by_cases e : j = k
              · subst e; simp
              · rw [if_neg (by omega), if_neg (by omega)]
    cases t with
    | e =>
      have := key .e d .e
      refine Eq.trans this ?_
      congr 1
      cases j with
      | zero => rfl
      | succ j => rw [PT.get_succ]; split <;> rfl
    | n l x r => exact key l x r

theorem PT.get_set {α : Type} (d : α) (t : PT α) (k : Nat) (v : α) (j : Nat) : PT.get d (PT.set d t k v) j = if j = k then v else PT.get d t j :=
  PT.get_setIn d v _ t k j (Nat.lt_succ_self k)

end Go.Eng

set_option linter.constructorNameAsVariable false
set_option linter.unusedVariables false
namespace Go.Eng

/- lists as tables -/
theorem tabOf_cons {α : Type} (x : α) (l : List α) (i : Nat) (t : PT (Option α)) : tabOf (x :: l) i t = tabOf l (i + 1) (PT.set none t i (some x)) := rfl
theorem get_tabOf {α : Type} : ∀ (l : List α) (i : Nat) (t : PT (Option α)) (k : Nat), PT.get none (tabOf l i t) k = if i ≤ k ∧ k < i + l.length then l[k - i]? else PT.get none t k := by
  intro l
  induction l with
  | nil => intro i t k; rw [if_neg (by simp)]; rfl
  | cons x l ih =>
    intro i t k
    rw [tabOf_cons, ih, PT.get_set]
    by_cases h1 : k = i
    · subst h1
      rw [if_neg (by omega), if_pos rfl, if_pos (by simp)]
      simp
    · by_cases h2 : i ≤ k ∧ k < i + (x :: l).length
      · have h3 : i + 1 ≤ k ∧ k < i + 1 + l.length := by simp at h2; omega
        rw [if_pos h2, if_pos h3]
        have : k - i = (k - (i + 1)) + 1 := by omega
        rw [this]; rfl
      · have h3 : ¬ (i + 1 ≤ k ∧ k < i + 1 + l.length) := by simp at h2; omega
        rw [if_neg h2, if_neg h3, if_neg h1]

variable {P : Program}

theorem infoI_eq {t : Nat} {i : TypeInfo} (h : infoI P t = some i) : P.info? t = some i := by
  unfold infoI infoTab at h
  rw [get_tabOf] at h
  split at h
  · rename_i hk
    have hlt : t < P.types.size := by simpa using hk.2
    unfold Tables.info?
    rw [if_pos hlt]
    simpa using h
  · simp [PT.get_e] at h

theorem undI_eq {t : Nat} {d : TypeDesc} (h : undI P t = some d) : P.underlying t = some d := by
  unfold undI at h
  unfold Program.underlying
  cases hi : infoI P t with
  | none => simp [hi] at h
  | some i =>
    rw [infoI_eq hi]
    simp only [hi] at h
    obtain ⟨desc, str, sz, by_, hp, al, fa, z, cm, ms⟩ := i
    cases desc <;> simp at h ⊢ <;> (try exact h)
    rename_i nm u
    cases hj : infoI P u with
    | none => simp [hj] at h
    | some j => simp [hj] at h; exact ⟨j, infoI_eq hj, h⟩

theorem funI_eq {f : Nat} {fn : Func} (h : funI P f = some fn) : P.funcs[f]? = some fn := by
  unfold funI funTab at h
  rw [get_tabOf] at h
  split at h
  · simpa using h
  · simp [PT.get_e] at h

theorem size_eq {t n : Nat} (h : size P t = some n) : ∃ i, P.info? t = some i ∧ i.size = n := by
  unfold size at h
  cases hi : infoI P t with
  | none => simp [hi] at h
  | some i => simp [hi] at h; exact ⟨i, infoI_eq hi, h⟩

theorem zero_eq {t : Nat} {z : IV} (h : zero P t = some z) : ∃ i v, P.info? t = some i ∧ i.zero = some v ∧ ofValue v = some z := by
  unfold zero at h
  cases hi : infoI P t with
  | none => simp [hi] at h
  | some i =>
    simp only [hi] at h
    cases hz : i.zero with
    | none => simp [hz] at h
    | some v => simp only [hz] at h; exact ⟨i, v, infoI_eq hi, hz, h⟩

/- the model's own looks at types -/
theorem run_typeInfo {t : Nat} {i : TypeInfo} (h : P.info? t = some i) (w : World) : (typeInfo t).run P w = .ok i w := by
  unfold typeInfo; simp [h]
theorem run_underlying {t : Nat} {d : TypeDesc} (h : P.underlying t = some d) (w : World) : (underlying t).run P w = .ok d w := by
  unfold underlying; simp [h]
theorem run_sizeOf {t n : Nat} (h : size P t = some n) (w : World) : (sizeOf t).run P w = .ok n w := by
  obtain ⟨i, hi, hn⟩ := size_eq h
  unfold sizeOf; simp [run_typeInfo hi, hn]
theorem run_zeroValue {t : Nat} {z : IV} (h : zero P t = some z) : ∃ v, ofValue v = some z ∧ ∀ w, (zeroValue t).run P w = .ok v w := by
  obtain ⟨i, v, hi, hv, hz⟩ := zero_eq h
  exact ⟨v, hz, fun w => by unfold zeroValue; simp [run_typeInfo hi, hv]⟩
theorem run_isAgg {t : Nat} {b : Bool} (h : aggT P t = some b) (w : World) : (isAgg t).run P w = .ok b w := by
  unfold aggT at h
  unfold isAgg
  cases hu : undI P t with
  | none => simp [hu] at h
  | some d =>
    simp only [Sem.run_bind, run_underlying (undI_eq hu), Result.andThen_ok]
    cases d <;> simp [hu] at h <;> subst h <;> rfl

/- slots -/
def T8.top (t : T8) : IV := match t with
  | .v x => x
  | _ => undefI
noncomputable def kidF (i : Nat) (t : T8) : T8 := match kidT i with
  | .mk f => f t
noncomputable def updF (i : Nat) (u : T8 → T8) (t : T8) : T8 := match updT i with
  | .mk f => f u t
theorem kid_upd (i j : Nat) (hi : i < 8) (hj : j < 8) (u : T8 → T8) (t : T8) : kidF i (updF j u t) = if i = j then u (kidF j t) else kidF i t := by
  match i, hi, j, hj with
  | 0, _, 0, _ | 0, _, 1, _ | 0, _, 2, _ | 0, _, 3, _ | 0, _, 4, _ | 0, _, 5, _ | 0, _, 6, _ | 0, _, 7, _
  | 1, _, 0, _ | 1, _, 1, _ | 1, _, 2, _ | 1, _, 3, _ | 1, _, 4, _ | 1, _, 5, _ | 1, _, 6, _ | 1, _, 7, _
  | 2, _, 0, _ | 2, _, 1, _ | 2, _, 2, _ | 2, _, 3, _ | 2, _, 4, _ | 2, _, 5, _ | 2, _, 6, _ | 2, _, 7, _
  | 3, _, 0, _ | 3, _, 1, _ | 3, _, 2, _ | 3, _, 3, _ | 3, _, 4, _ | 3, _, 5, _ | 3, _, 6, _ | 3, _, 7, _
  | 4, _, 0, _ | 4, _, 1, _ | 4, _, 2, _ | 4, _, 3, _ | 4, _, 4, _ | 4, _, 5, _ | 4, _, 6, _ | 4, _, 7, _
  | 5, _, 0, _ | 5, _, 1, _ | 5, _, 2, _ | 5, _, 3, _ | 5, _, 4, _ | 5, _, 5, _ | 5, _, 6, _ | 5, _, 7, _
  | 6, _, 0, _ | 6, _, 1, _ | 6, _, 2, _ | 6, _, 3, _ | 6, _, 4, _ | 6, _, 5, _ | 6, _, 6, _ | 6, _, 7, _
  | 7, _, 0, _ | 7, _, 1, _ | 7, _, 2, _ | 7, _, 3, _ | 7, _, 4, _ | 7, _, 5, _ | 7, _, 6, _ | 7, _, 7, _ => cases t <;> rfl
  | i + 8, h, _, _ => omega
  | _, _, j + 8, h => omega

theorem slot2_eq (i j : Nat) : slot2 i j = .mk (fun env => T8.top (kidF j (kidF i env))) (fun x env => updF i (updF j fun _ => .v x) env) := by
  unfold slot2 kidF updF
  cases kidT i with
  | mk f => cases kidT j with
    | mk g => cases updT i with
      | mk u => cases updT j with
        | mk v =>
          simp only
          congr 1
          funext env
          cases g (f env) <;> rfl
theorem slot3_eq (i j k : Nat) : slot3 i j k = .mk (fun env => T8.top (kidF k (kidF j (kidF i env)))) (fun x env => updF i (updF j (updF k fun _ => .v x)) env) := by
  unfold slot3 kidF updF
  cases kidT i with
  | mk f => cases kidT j with
    | mk g => cases kidT k with
      | mk h => cases updT i with
        | mk u => cases updT j with
          | mk v => cases updT k with
            | mk w =>
              simp only
              congr 1
              funext env
              cases h (g (f env)) <;> rfl

theorem slot_lt {n t : Nat} {f : T8 → IV} {g : IV → T8 → T8} (h : slotT n t = .mk f g) : t < n := by
  unfold slotT at h
  cases hb : Nat.blt t n with
  | false => simp [hb] at h
  | true => simpa [Nat.blt_eq] using hb

theorem slot_put {n t t' : Nat} {f f' : T8 → IV} {g g' : IV → T8 → T8} (h : slotT n t = .mk f g) (h' : slotT n t' = .mk f' g') (x : IV) (env : T8) :
    f' (g x env) = if t' = t then x else f' env := by
  have ht := slot_lt h
  have ht' := slot_lt h'
  unfold slotT at h h'
  rw [show Nat.blt t n = true from by simpa [Nat.blt_eq] using ht] at h
  rw [show Nat.blt t' n = true from by simpa [Nat.blt_eq] using ht'] at h'
  simp only at h h'
  cases h1 : Nat.ble n 64 with
  | true =>
    have hn : n ≤ 64 := Nat.le_of_ble_eq_true h1
    simp only [h1] at h h'
    rw [slot2_eq] at h h'
    injection h with hf hg
    injection h' with hf' hg'
    subst hf hg hf' hg'
    simp only
    rw [kid_upd _ _ (by omega) (by omega)]
    by_cases e : t' / 8 = t / 8
    · rw [if_pos e, kid_upd _ _ (by omega) (by omega)]
      by_cases e2 : t' % 8 = t % 8
      · rw [if_pos e2, if_pos (by omega)]; rfl
      · rw [if_neg e2, if_neg (by omega), e]
    · rw [if_neg e, if_neg (by intro h; subst h; exact e rfl)]
  | false =>
    simp only [h1] at h h'
    cases h2 : Nat.ble n 512 with
    | false => simp [h2] at h
    | true =>
      have hn : n ≤ 512 := Nat.le_of_ble_eq_true h2
      simp only [h2] at h h'
      rw [slot3_eq] at h h'
      injection h with hf hg
      injection h' with hf' hg'
      subst hf hg hf' hg'
      simp only
      rw [kid_upd _ _ (by omega) (by omega)]
      by_cases e : t' / 64 = t / 64
      · rw [if_pos e, kid_upd _ _ (by omega) (by omega)]
        by_cases e1 : t' / 8 % 8 = t / 8 % 8
        · rw [if_pos e1, kid_upd _ _ (by omega) (by omega)]
          by_cases e2 : t' % 8 = t % 8
          · rw [if_pos e2, if_pos (by omega)]; rfl
          · rw [if_neg e2, if_neg (by omega), e, e1]
        · rw [if_neg e1, if_neg (by intro h; subst h; exact e1 rfl), e]
      · rw [if_neg e, if_neg (by intro h; subst h; exact e rfl)]

/-- Nothing stands in an empty one. -/
theorem slot_e {n t : Nat} {f : T8 → IV} {g : IV → T8 → T8} (h : slotT n t = .mk f g) : f .e = undefI := by
  have key : ∀ i, kidF i .e = .e := by
    intro i
    match i with
    | 0 | 1 | 2 | 3 | 4 | 5 | 6 => rfl
    | i + 7 => rfl
  unfold slotT at h
  split at h
  · split at h
    · rw [slot2_eq] at h
      injection h with hf hg
      subst hf
      simp only [key]; rfl
    · split at h
      · rw [slot3_eq] at h
        injection h with hf hg
        subst hf
        simp only [key]; rfl
      · simp at h
  · simp at h

/- rows of cells -/
theorem rdC_zero (c : PT IV) (o : Nat) : rdC c 0 o = [] := rfl
theorem rdC_succ (c : PT IV) (n o : Nat) : rdC c (n + 1) o = PT.get undefI c o :: rdC c n (o + 1) := rfl
theorem length_rdC (c : PT IV) : ∀ (n o : Nat), (rdC c n o).length = n
  | 0, _ => rfl
  | n + 1, o => by rw [rdC_succ, List.length_cons, length_rdC c n]
theorem get_rdC (c : PT IV) : ∀ (n o k : Nat), k < n → (rdC c n o)[k]? = some (PT.get undefI c (o + k))
  | 0, _, _, h => by omega
  | n + 1, o, 0, _ => by rw [rdC_succ]; rfl
  | n + 1, o, k + 1, h => by
    rw [rdC_succ, List.getElem?_cons_succ, get_rdC c n (o + 1) k (by omega)]
    congr 2; omega
theorem wrC_nil (c : PT IV) (o : Nat) : wrC [] c o = c := rfl
theorem wrC_cons (v : IV) (vs : List IV) (c : PT IV) (o : Nat) : wrC (v :: vs) c o = wrC vs (PT.set undefI c o v) (o + 1) := rfl
theorem get_wrC : ∀ (vs : List IV) (c : PT IV) (o k : Nat), PT.get undefI (wrC vs c o) k = if h : o ≤ k ∧ k < o + vs.length then vs[k - o]'(by omega) else PT.get undefI c k
  | [], c, o, k => by rw [dif_neg (by simp), wrC_nil]
  | v :: vs, c, o, k => by
    rw [wrC_cons, get_wrC vs, PT.get_set]
    by_cases h1 : k = o
    · subst h1
      rw [dif_neg (by omega), if_pos rfl, dif_pos (by simp)]
      simp
    · by_cases h2 : o ≤ k ∧ k < o + (v :: vs).length
      · have h3 : o + 1 ≤ k ∧ k < o + 1 + vs.length := by simp at h2; omega
        rw [dif_pos h2, dif_pos h3]
        have e : k - o = (k - (o + 1)) + 1 := by omega
        simp only [e, List.getElem_cons_succ]
      · have h3 : ¬ (o + 1 ≤ k ∧ k < o + 1 + vs.length) := by simp at h2; omega
        rw [dif_neg h2, dif_neg h3, if_neg h1]
end Go.Eng

set_option linter.constructorNameAsVariable false
set_option linter.unusedVariables false
namespace Go.Eng
variable {P : Program}

theorem allB_iff {α : Type} (f : α → Bool) : ∀ (l : List α), allB f l = true ↔ ∀ x ∈ l, f x = true
  | [] => by simp [allB]
  | x :: l => by
    show Bool.rec (motive := fun _ => Bool) false (allB f l) (f x) = true ↔ _
    cases h : f x
    · simp [h]
    · simp [h]; exact allB_iff f l

/- places -/
theorem add_none (b o n : Nat) : Addr.add ⟨b, o, none⟩ n = ⟨b, o + n, none⟩ := by
  unfold Addr.add; split
  · rename_i h; subst h; rfl
  · rfl

/-- A block's row, put in another one's place. -/
def setRow (w : World) (b : Nat) (o : Obj) : World := { w with heap := w.heap.setIfInBounds b o }

theorem cell_eq {w : World} {b off : Nat} {arr : Array Value} {e : Nat} {fr : Nat × Nat} (h : w.heap[b]? = some (.cells arr e fr)) : w.cell? ⟨b, off, none⟩ = arr[off]? := by
  unfold World.cell?; simp [h]
theorem frozen_eq {w : World} {b off : Nat} {arr : Array Value} {e : Nat} {fr : Nat × Nat} (h : w.heap[b]? = some (.cells arr e fr)) : w.frozen? ⟨b, off, none⟩ = (decide (fr.1 ≤ off) && decide (off < fr.2)) := by
  unfold World.frozen?; simp [h]
theorem shape_eq {w : World} {b : Nat} {arr : Array Value} {e : Nat} {fr : Nat × Nat} (h : w.heap[b]? = some (.cells arr e fr)) : w.shape? b = some (e, arr.size) := by
  unfold World.shape?; simp [h]
theorem setCell_eq {w : World} {b off : Nat} {arr : Array Value} {e : Nat} {fr : Nat × Nat} (h : w.heap[b]? = some (.cells arr e fr)) (v : Value) :
    w.setCell ⟨b, off, none⟩ v = setRow w b (.cells (arr.setIfInBounds off v) e fr) := by
  unfold World.setCell setRow
  congr 1
  apply Array.ext_getElem?
  intro i
  rw [Array.getElem?_modify, Array.getElem?_setIfInBounds]
  by_cases hi : b = i
  · subst hi
    have hlt : b < w.heap.size := by
      rcases Nat.lt_or_ge b w.heap.size with h' | h'
      · exact h'
      · simp [Array.getElem?_eq_none h'] at h
    have hg : w.heap[b] = .cells arr e fr := by simpa [Array.getElem?_eq_getElem hlt] using h
    simp [hlt, hg]
  · simp [hi]
theorem setRow_get {w : World} {b : Nat} {o : Obj} (h : b < w.heap.size) : (setRow w b o).heap[b]? = some o := by
  unfold setRow; simp [h]
theorem setRow_other {w : World} {b x : Nat} {o : Obj} (h : x ≠ b) : (setRow w b o).heap[x]? = w.heap[x]? := by
  unfold setRow; simp [Ne.symm h]
theorem setRow_size {w : World} {b : Nat} {o : Obj} : (setRow w b o).heap.size = w.heap.size := by
  unfold setRow; simp
theorem setRow_setRow {w : World} {b : Nat} {o o' : Obj} : setRow (setRow w b o) b o' = setRow w b o' := by
  unfold setRow
  congr 1
  simp
theorem lt_of_get {w : World} {b : Nat} {o : Obj} (h : w.heap[b]? = some o) : b < w.heap.size := by
  rcases Nat.lt_or_ge b w.heap.size with h' | h'
  · exact h'
  · simp [Array.getElem?_eq_none h'] at h

/-- Values, written into a row from a cell on. -/
def wrArr (arr : Array Value) (off : Nat) : List Value → Array Value
  | [] => arr
  | v :: vs => wrArr (arr.setIfInBounds off v) (off + 1) vs
theorem size_wrArr : ∀ (vs : List Value) (arr : Array Value) (off : Nat), (wrArr arr off vs).size = arr.size
  | [], _, _ => rfl
  | v :: vs, arr, off => by unfold wrArr; rw [size_wrArr vs]; simp
theorem get_wrArr : ∀ (vs : List Value) (arr : Array Value) (off k : Nat), off + vs.length ≤ arr.size →
    (wrArr arr off vs)[k]? = if off ≤ k ∧ k < off + vs.length then vs[k - off]? else arr[k]?
  | [], arr, off, k, _ => by rw [if_neg (by simp)]; rfl
  | v :: vs, arr, off, k, h => by
    unfold wrArr
    simp only [List.length_cons] at h
    rw [get_wrArr vs _ _ _ (by simp; omega)]
    by_cases h1 : k = off
    · subst h1
      rw [if_neg (by omega), if_pos (by simp)]
      rw [Array.getElem?_setIfInBounds_self_of_lt (by omega)]; simp
    · by_cases h2 : off ≤ k ∧ k < off + (v :: vs).length
      · have h3 : off + 1 ≤ k ∧ k < off + 1 + vs.length := by simp at h2; omega
        rw [if_pos h2, if_pos h3]
        have e : k - off = (k - (off + 1)) + 1 := by omega
        rw [e, List.getElem?_cons_succ]
      · have h3 : ¬ (off + 1 ≤ k ∧ k < off + 1 + vs.length) := by simp at h2; omega
        rw [if_neg h2, if_neg h3]
        simp [Ne.symm h1]

theorem run_storeCells : ∀ (vs : List Value) (w : World) (b off i : Nat) (arr : Array Value) (e : Nat) (fr : Nat × Nat), w.heap[b]? = some (.cells arr e fr) →
    off + i + vs.length ≤ arr.size → (∀ v ∈ vs, v.oneCell' = true) → (∀ j, off + i ≤ j → j < off + i + vs.length → ¬ (fr.1 ≤ j ∧ j < fr.2)) →
    (storeCells ⟨b, off, none⟩ vs i).run P w = .ok () (setRow w b (.cells (wrArr arr (off + i) vs) e fr))
  | [], w, b, off, i, arr, e, fr, h, _, _, _ => by
    unfold storeCells wrArr
    simp only [Sem.run_pure]
    congr 1
    unfold setRow
    have hlt := lt_of_get h
    have : w.heap.setIfInBounds b (.cells arr e fr) = w.heap := by
      apply Array.ext_getElem?
      intro j
      rw [Array.getElem?_setIfInBounds]
      by_cases hj : b = j
      · subst hj
        have hg : w.heap[b] = .cells arr e fr := by simpa [Array.getElem?_eq_getElem hlt] using h
        simp [hlt, hg]
      · simp [hj]
    rw [this]
  | v :: vs, w, b, off, i, arr, e, fr, h, hl, h1, hf => by
    unfold storeCells
    simp only [List.length_cons] at hl hf
    have hfr : w.frozen? (Addr.add ⟨b, off, none⟩ i) = false := by
      rw [add_none, frozen_eq h]
      have := hf (off + i) (by omega) (by omega)
      simp only [Bool.and_eq_false_iff, decide_eq_false_iff_not]
      omega
    have hcell : ∃ x, w.cell? (Addr.add ⟨b, off, none⟩ i) = some x := by
      rw [add_none, cell_eq h]
      exact ⟨arr[off + i]'(by omega), Array.getElem?_eq_getElem (by omega)⟩
    obtain ⟨x, hx⟩ := hcell
    simp only [Sem.run_bind]
    rw [run_store P w _ _ _ (h1 v (by simp)), hx]
    simp only [hfr]
    simp only [Bool.false_eq_true, if_false, Result.andThen_ok]
    rw [add_none, setCell_eq h]
    have hlt := lt_of_get h
    rw [run_storeCells vs _ b off (i + 1) _ e fr (setRow_get hlt) (by simp; omega) (fun u hu => h1 u (by simp [hu])) (fun j hj hj' => hf j (by omega) (by omega))]
    rw [setRow_setRow]
    congr 3

theorem run_loadCellsFrom : ∀ (n : Nat) (w : World) (b off i : Nat) (arr : Array Value) (e : Nat) (fr : Nat × Nat) (acc : Array Value), w.heap[b]? = some (.cells arr e fr) →
    off + i + n ≤ arr.size → (loadCellsFrom ⟨b, off, none⟩ i n acc).run P w = .ok (acc ++ arr.extract (off + i) (off + i + n)) w
  | 0, w, b, off, i, arr, e, fr, acc, h, hl => by
    unfold loadCellsFrom
    simp only [Sem.run_pure]
    simp; omega
  | n + 1, w, b, off, i, arr, e, fr, acc, h, hl => by
    unfold loadCellsFrom
    simp only [Sem.run_bind, run_load]
    rw [add_none, cell_eq h, Array.getElem?_eq_getElem (show off + i < arr.size by omega)]
    simp only [Result.andThen_ok]
    rw [run_loadCellsFrom n w b off (i + 1) arr e fr _ h (by omega)]
    congr 1
    apply Array.ext'
    simp only [Array.toList_append, Array.toList_push, Array.toList_extract, List.append_assoc]
    congr 1
    rw [List.extract_eq_take_drop, List.extract_eq_take_drop]
    have : arr.toList.drop (off + i) = arr[off + i] :: arr.toList.drop (off + i + 1) := by
      have hlt : off + i < arr.toList.length := by simp; omega
      rw [List.drop_eq_getElem_cons hlt]; simp
    rw [this]
    have e1 : off + i + (n + 1) - (off + i) = n + 1 := by omega
    have e2 : off + (i + 1) + n - (off + (i + 1)) = n := by omega
    have e3 : off + (i + 1) = off + i + 1 := by omega
    rw [e1, e2, List.take_succ_cons, e3]
    rfl

theorem run_loadCells {n : Nat} {w : World} {b off : Nat} {arr : Array Value} {e : Nat} {fr : Nat × Nat} (h : w.heap[b]? = some (.cells arr e fr)) (hl : off + n ≤ arr.size) :
    (loadCells ⟨b, off, none⟩ n).run P w = .ok (arr.extract off (off + n)) w := by
  unfold loadCells
  have := run_loadCellsFrom (P := P) n w b off 0 arr e fr #[] h (by omega)
  simpa using this
end Go.Eng
