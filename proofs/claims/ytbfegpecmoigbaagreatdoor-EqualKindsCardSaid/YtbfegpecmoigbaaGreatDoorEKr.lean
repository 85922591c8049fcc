/- A part of the proof: an interpreter of the program, shown right once, and the laws that it computes. -/
import Derived.Test.YtbfegpecmoigbaaGreatDoorEngLast
import Derived.Test.YtbfegpecmoigbaaGreatDoorEngS
import Derived.KernelRfl
import Derived.Test.YtbfegpecmoigbaaGreatDoorProg
set_option linter.constructorNameAsVariable false
namespace Go.Proofs.YtbfegpecmoigbaaGreatDoor
open Go.Eng
/-- What is known beside the text: 'known' is true, and 'within' at the law's argument is k. -/
def rowsK (n k : Nat) (f : Nat) (args : List IV) : Option IV := match Nat.beq f 4 with
  | true => match args with
    | [] => some (.bool true)
    | _ => none
  | false => match Nat.beq f 5 with
    | true => match args with
      | [.sym 0, .int .i64 (.ofNat m)] => match Nat.beq m n with
        | true => some (.int .i64 (.ofNat k))
        | false => none
      | _ => none
    | false => none
def same : List Nat → List Nat → Bool
  | [], [] => true
  | a :: l, b :: m => match Nat.beq a b with
    | true => same l m
    | false => false
  | _, _ => false
def look : List (List Nat × Pack) → List Nat → Option Pack
  | [], _ => none
  | (t, p) :: ps, l => match same t l with
    | true => some p
    | false => look ps l
/-- 'compose', at the texts that are listed. -/
def rowsP (ps : List (List Nat × Pack)) (f : Nat) (l : List Nat) : Option Pack := match Nat.beq f 6 with
  | true => look ps l
  | false => none
theorem same_eq : ∀ {l m : List Nat}, same l m = true → l = m
  | [], [], _ => rfl
  | [], _ :: _, h => by cases h
  | _ :: _, [], h => by cases h
  | a :: l, b :: m, h => by
    unfold same at h
    split at h
    · rename_i hb
      rw [Nat.eq_of_beq_eq_true hb, same_eq h]
    · cases h
theorem look_mem : ∀ {ps : List (List Nat × Pack)} {l : List Nat} {p : Pack}, look ps l = some p → (l, p) ∈ ps
  | [], _, _, h => by cases h
  | (t, q) :: ps, l, p, h => by
    unfold look at h
    split at h
    · rename_i hs
      cases h
      rw [same_eq hs]
      exact List.mem_cons_self
    · exact List.mem_cons_of_mem _ (look_mem h)
/-- 'compose' hands that back. -/
def Packed (l : List Nat) (p : Pack) : Prop := packOk 5 l p ((run Tryz.prog noExt 10000).f 6 [.sl 0 0 l.length l.length false] (s₀.new (rowOf (bytesI l) 5 1)) .ok) = true
theorem rowsP_ok {ps : List (List Nat × Pack)} (h : ∀ l p, (l, p) ∈ ps → Packed l p) (f : Nat) (l : List Nat) (p : Pack) (hl : rowsP ps f l = some p) :
    packOk 5 l p ((run Tryz.prog noExt 10000).f f [.sl 0 0 l.length l.length false] (s₀.new (rowOf (bytesI l) 5 1)) .ok) = true := by
  unfold rowsP at hl
  split at hl
  · rename_i hf
    rw [Nat.eq_of_beq_eq_true hf]
    exact h l p (look_mem hl)
  · cases hl
end Go.Proofs.YtbfegpecmoigbaaGreatDoor
