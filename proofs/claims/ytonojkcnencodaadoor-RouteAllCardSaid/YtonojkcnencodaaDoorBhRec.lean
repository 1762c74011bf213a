/-
  BH: recursion by the recursors themselves (the kernel goes through them far faster than through compiled recursion).
-/
namespace Go.Proofs.YtonojkcnencodaaDoor.BH
noncomputable section

def lrec {α β : Type} (n : β) (c : α → List α → β → β) (l : List α) : β := List.rec (motive := fun _ => β) n c l
def nrec {β : Type} (z : β) (s : Nat → β → β) (n : Nat) : β := Nat.rec (motive := fun _ => β) z s n
def lcase {α β : Type} (l : List α) (n : β) (c : α → List α → β) : β := List.casesOn (motive := fun _ => β) l n c
def cnd {β : Type} (b : Bool) (t e : β) : β := Bool.casesOn (motive := fun _ => β) b e t
def bnd {α β : Type} (o : Option α) (f : α → Option β) : Option β := Option.casesOn (motive := fun _ => Option β) o none f
def ocase {α β : Type} (o : Option α) (n : β) (f : α → β) : β := Option.casesOn (motive := fun _ => β) o n f

end

section
variable {α β : Type}
@[simp] theorem lrec_nil (n : β) (c : α → List α → β → β) : lrec n c [] = n := rfl
@[simp] theorem lrec_cons (n : β) (c : α → List α → β → β) (a : α) (r : List α) : lrec n c (a :: r) = c a r (lrec n c r) := rfl
@[simp] theorem nrec_zero (z : β) (s : Nat → β → β) : nrec z s 0 = z := rfl
@[simp] theorem nrec_succ (z : β) (s : Nat → β → β) (n : Nat) : nrec z s (n + 1) = s n (nrec z s n) := rfl
@[simp] theorem lcase_nil (n : β) (c : α → List α → β) : lcase [] n c = n := rfl
@[simp] theorem lcase_cons (a : α) (r : List α) (n : β) (c : α → List α → β) : lcase (a :: r) n c = c a r := rfl
@[simp] theorem cnd_true (t e : β) : cnd true t e = t := rfl
@[simp] theorem cnd_false (t e : β) : cnd false t e = e := rfl
@[simp] theorem bnd_none (f : α → Option β) : bnd none f = none := rfl
@[simp] theorem bnd_some (a : α) (f : α → Option β) : bnd (some a) f = f a := rfl
@[simp] theorem ocase_none (n : β) (f : α → β) : ocase none n f = n := rfl
@[simp] theorem ocase_some (a : α) (n : β) (f : α → β) : ocase (some a) n f = f a := rfl
theorem bnd_eq_some {o : Option α} {f : α → Option β} {b : β} : bnd o f = some b ↔ ∃ a, o = some a ∧ f a = some b := by
  cases o <;> simp
theorem beqN (a b : Nat) : (Nat.beq a b = true) ↔ a = b := ⟨Nat.eq_of_beq_eq_true, fun h => by subst h; exact Nat.beq_refl a⟩
theorem bleN (a b : Nat) : (Nat.ble a b = true) ↔ a ≤ b := by rw [Nat.ble_eq]
theorem cnd_eq {b : Bool} {t e : β} : cnd b t e = if b = true then t else e := by cases b <;> rfl
end
end Go.Proofs.YtonojkcnencodaaDoor.BH
