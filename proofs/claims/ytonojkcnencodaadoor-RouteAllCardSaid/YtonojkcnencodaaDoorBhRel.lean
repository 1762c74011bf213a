/-
  BH: how an abstract heap stands for a world: values, objects, the whole; what a step keeps.
-/
import Derived.Test.YtonojkcnencodaaDoorBhEval
import Derived.Laws.Sem
import Derived.Laws.World
namespace Go.Proofs.YtonojkcnencodaaDoor.BH

/-! ### the tree -/
namespace T
variable {α : Type}
@[simp] theorem get_leaf (n : Nat) : get (.leaf : T α) n = none := rfl
theorem get_node (l : T α) (v : Option α) (r : T α) (n : Nat) :
    get (.node l v r) n = if n = 0 then v else if n % 2 = 0 then get r (n / 2 - 1) else get l (n / 2) := by
  show cnd (Nat.beq n 0) v (cnd (Nat.beq (n % 2) 0) (get r (n / 2 - 1)) (get l (n / 2))) = _
  simp only [cnd_eq, beqN]
theorem put_leaf (f : Nat) (n : Nat) (x : Option α) : put (f + 1) .leaf n x =
    if n = 0 then T.node .leaf x .leaf else if n % 2 = 0 then T.node .leaf none (put f .leaf (n / 2 - 1) x) else T.node (put f .leaf (n / 2) x) none .leaf := by
  show cnd (Nat.beq n 0) (T.node .leaf x .leaf) (cnd (Nat.beq (n % 2) 0) (T.node .leaf none (put f .leaf (n / 2 - 1) x)) (T.node (put f .leaf (n / 2) x) none .leaf)) = _
  simp only [cnd_eq, beqN]
theorem put_node (f : Nat) (l : T α) (v : Option α) (r : T α) (n : Nat) (x : Option α) : put (f + 1) (T.node l v r) n x =
    if n = 0 then T.node l x r else if n % 2 = 0 then T.node l v (put f r (n / 2 - 1) x) else T.node (put f l (n / 2) x) v r := by
  show cnd (Nat.beq n 0) (T.node l x r) (cnd (Nat.beq (n % 2) 0) (T.node l v (put f r (n / 2 - 1) x)) (T.node (put f l (n / 2) x) v r)) = _
  simp only [cnd_eq, beqN]

theorem get_put (f : Nat) : ∀ (t : T α) (n : Nat) (x : Option α) (m : Nat), n < f → get (put f t n x) m = if m = n then x else get t m := by
  induction f with
  | zero => intro t n x m h; omega
  | succ f ih =>
    intro t n x m h
    by_cases h0 : n = 0
    · subst h0
      cases t <;> by_cases hm : m = 0 <;> simp [put_leaf, put_node, get_node, hm]
    · by_cases h2 : n % 2 = 0
      · have ih' := fun t x => ih t (n / 2 - 1) x (m / 2 - 1) (by omega)
        by_cases hm : m = 0
        · subst hm
          have hn : ¬ (0 = n) := by omega
          cases t <;> simp [put_leaf, put_node, get_node, h0, h2, hn]
        · by_cases hm2 : m % 2 = 0
          · have he : (m / 2 - 1 = n / 2 - 1) ↔ (m = n) := by omega
            cases t <;> simp [put_leaf, put_node, get_node, h0, h2, hm, hm2, ih', he]
          · have hn : ¬ (m = n) := by omega
            cases t <;> simp [put_leaf, put_node, get_node, h0, h2, hm, hm2, hn]
      · have ih' := fun t x => ih t (n / 2) x (m / 2) (by omega)
        by_cases hm : m = 0
        · subst hm
          have hn : ¬ (0 = n) := by omega
          cases t <;> simp [put_leaf, put_node, get_node, h0, h2, hn]
        · by_cases hm2 : m % 2 = 0
          · have hn : ¬ (m = n) := by omega
            cases t <;> simp [put_leaf, put_node, get_node, h0, h2, hm, hm2, hn]
          · have he : (m / 2 = n / 2) ↔ (m = n) := by omega
            cases t <;> simp [put_leaf, put_node, get_node, h0, h2, hm, hm2, ih', he]

theorem get_set (t : T α) (n : Nat) (x : Option α) (m : Nat) : get (set t n x) m = if m = n then x else get t m :=
  get_put (n + 1) t n x m (Nat.lt_succ_self n)
end T

theorem AHeap.get_set (h : AHeap) (o : Nat) (x : AObj) (m : Nat) : (h.set o x).get m = if m = o then some x else h.get m := T.get_set _ _ _ _
theorem AHeap.get_del (h : AHeap) (o m : Nat) : (h.del o).get m = if m = o then none else h.get m := T.get_set _ _ _ _
theorem AHeap.get_push (h : AHeap) (x : AObj) (m : Nat) : (h.push x).get m = if m = h.next then some x else h.get m := T.get_set _ _ _ _
@[simp] theorem AHeap.next_set (h : AHeap) (o : Nat) (x : AObj) : (h.set o x).next = h.next := rfl
@[simp] theorem AHeap.next_del (h : AHeap) (o : Nat) : (h.del o).next = h.next := rfl
@[simp] theorem AHeap.next_push (h : AHeap) (x : AObj) : (h.push x).next = h.next + 1 := rfl

/-! ### lists by the recursors, in the words of the library -/
@[simp] theorem lenA_eq {α : Type} (l : List α) : lenA l = l.length := by
  induction l with
  | nil => rfl
  | cons a r ih => show Nat.succ (lenA r) = _; rw [ih]; rfl
@[simp] theorem app_eq (a b : List AV) : app a b = a ++ b := by
  induction a with
  | nil => rfl
  | cons x r ih => show x :: app r b = _; rw [ih]; rfl
@[simp] theorem appB_eq (a b : List UInt8) : appB a b = a ++ b := by
  induction a with
  | nil => rfl
  | cons x r ih => show x :: appB r b = _; rw [ih]; rfl
theorem allA_cons (p : AV → Bool) (a : AV) (r : List AV) : allA p (a :: r) = (p a && allA p r) := by
  show cnd (p a) (allA p r) false = _
  cases p a <;> rfl
@[simp] theorem allA_eq (p : AV → Bool) (l : List AV) : allA p l = l.all p := by
  induction l with
  | nil => rfl
  | cons a r ih => rw [allA_cons, ih]; rfl
@[simp] theorem cellAt_eq (l : List AV) (n : Nat) : cellAt l n = l[n]? := by
  induction n generalizing l with
  | zero => cases l <;> rfl
  | succ n ih => cases l with
    | nil => rfl
    | cons a r => show cellAt r n = _; rw [ih]; rfl
@[simp] theorem pairAt_eq (l : List (Nat × Nat)) (n : Nat) : pairAt l n = l[n]? := by
  induction n generalizing l with
  | zero => cases l <;> rfl
  | succ n ih => cases l with
    | nil => rfl
    | cons a r => show pairAt r n = _; rw [ih]; rfl
@[simp] theorem byteAt_eq (l : List UInt8) (n : Nat) : byteAt l n = l[n]? := by
  induction n generalizing l with
  | zero => cases l <;> rfl
  | succ n ih => cases l with
    | nil => rfl
    | cons a r => show byteAt r n = _; rw [ih]; rfl
@[simp] theorem takeB_eq (l : List UInt8) (n : Nat) : takeB l n = l.take n := by
  induction n generalizing l with
  | zero => cases l <;> rfl
  | succ n ih => cases l with
    | nil => rfl
    | cons a r => show a :: takeB r n = _; rw [ih]; rfl
@[simp] theorem dropB_eq (l : List UInt8) (n : Nat) : dropB l n = l.drop n := by
  induction n generalizing l with
  | zero => cases l <;> rfl
  | succ n ih => cases l with
    | nil => rfl
    | cons a r => show dropB r n = _; rw [ih]; rfl
theorem nth_eq (l : List AV) (n : Nat) : nth l n = l.getD n .undef := by
  induction n generalizing l with
  | zero => cases l <;> rfl
  | succ n ih => cases l with
    | nil => rfl
    | cons a r => show nth r n = _; rw [ih]; rfl
@[simp] theorem setN_eq (l : List AV) (n : Nat) (v : AV) : setN l n v = l.set n v := by
  induction n generalizing l with
  | zero => cases l <;> rfl
  | succ n ih => cases l with
    | nil => rfl
    | cons a r => show a :: setN r n v = _; rw [ih]; rfl
theorem takeN_eq_some {n : Nat} {l r : List AV} (h : takeN n l = some r) : n ≤ l.length ∧ r = l.take n := by
  induction n generalizing l r with
  | zero => cases h; exact ⟨Nat.zero_le _, rfl⟩
  | succ n ih => cases l with
    | nil => cases h
    | cons a t =>
      have h : bnd (takeN n t) (fun l => some (a :: l)) = some r := h
      obtain ⟨x, hx, hr⟩ := bnd_eq_some.mp h
      cases hr
      obtain ⟨h1, h2⟩ := ih hx
      exact ⟨by simp; omega, by rw [h2]; rfl⟩
theorem slots_eq_some {l r : List AV} {off n : Nat} (h : slots l off n = some r) : (n = 0 ∨ off + n ≤ l.length) ∧ r = (l.drop off).take n := by
  induction off generalizing l with
  | zero => obtain ⟨h1, h2⟩ := takeN_eq_some (l := l) h; exact ⟨.inr (by omega), h2⟩
  | succ o ih => cases l with
    | nil =>
      have h : takeN n [] = some r := h
      obtain ⟨h1, h2⟩ := takeN_eq_some h
      exact ⟨.inl (by simpa using h1), by rw [h2]; simp⟩
    | cons a t =>
      have h : slots t o n = some r := h
      obtain ⟨h1, h2⟩ := ih h
      exact ⟨by simp; omega, by rw [h2]; rfl⟩
theorem overHere_eq_some {vs l r : List AV} (h : overHere vs l = some r) : vs.length ≤ l.length ∧ r = vs ++ l.drop vs.length := by
  induction vs generalizing l r with
  | nil => cases h; exact ⟨Nat.zero_le _, rfl⟩
  | cons v t ih => cases l with
    | nil => cases h
    | cons a s =>
      have h : bnd (overHere t s) (fun l => some (v :: l)) = some r := h
      obtain ⟨x, hx, hr⟩ := bnd_eq_some.mp h
      cases hr
      obtain ⟨h1, h2⟩ := ih hx
      exact ⟨by simp; omega, by rw [h2]; rfl⟩
theorem over_eq_some {l r vs : List AV} {off : Nat} (h : over l off vs = some r) :
    (vs = [] ∨ off + vs.length ≤ l.length) ∧ r.length = l.length ∧ ∀ i : Nat, r[i]? = if off ≤ i ∧ i < off + vs.length then vs[i - off]? else l[i]? := by
  induction off generalizing l r with
  | zero =>
    obtain ⟨h1, h2⟩ := overHere_eq_some (l := l) h
    subst h2
    refine ⟨.inr (by omega), by simp; omega, fun i => ?_⟩
    by_cases hi : i < vs.length
    · rw [if_pos ⟨Nat.zero_le _, by omega⟩, List.getElem?_append_left hi]; simp
    · rw [if_neg (by omega), List.getElem?_append_right (by omega), List.getElem?_drop]; congr 1; omega
  | succ o ih => cases l with
    | nil =>
      have h : overHere vs [] = some r := h
      obtain ⟨h1, h2⟩ := overHere_eq_some h
      have : vs = [] := by cases vs with
        | nil => rfl
        | cons => simp at h1
      subst this; subst h2
      exact ⟨.inl rfl, rfl, fun i => by simp⟩
    | cons a t =>
      have h : bnd (over t o vs) (fun l => some (a :: l)) = some r := h
      obtain ⟨x, hx, hr⟩ := bnd_eq_some.mp h
      cases hr
      obtain ⟨h1, h2, h3⟩ := ih hx
      refine ⟨h1.imp id (by simp; omega), by simp [h2], fun i => ?_⟩
      cases i with
      | zero => rw [if_neg (by omega)]; rfl
      | succ i =>
        rw [List.getElem?_cons_succ, List.getElem?_cons_succ, h3]
        by_cases hi : o ≤ i ∧ i < o + vs.length
        · rw [if_pos hi, if_pos (by omega)]; congr 1; omega
        · rw [if_neg hi, if_neg (by omega)]
theorem repl_length (n : Nat) (z : List AV) : (repl n z).length = n * z.length := by
  induction n with
  | zero => simp [repl]
  | succ n ih => show (app z (repl n z)).length = _; rw [app_eq, List.length_append, ih]; rw [Nat.succ_mul]; omega
theorem repl_succ (n : Nat) (z : List AV) : repl (n + 1) z = z ++ repl n z := by show app z (repl n z) = _; rw [app_eq]

/-! ### places -/
structure CLoc where
  blk : Nat
  base : Nat
  cap : Nat

/-- Where objects lie; what blocks hold that nobody writes any more; and those that nobody writes for the time being. -/
structure Rho where
  loc : Nat → Option CLoc
  ret : Nat → Option (Array Value)
  view : Nat → Option (Array Value)
instance : CoeFun Rho (fun _ => Nat → Option CLoc) := ⟨Rho.loc⟩
def Rho.noloc (ρ : Rho) : Rho := ⟨fun _ => none, ρ.ret, ρ.view⟩
/-- Without what is only looked at. -/
def Rho.noview (ρ : Rho) : Rho := ⟨fun _ => none, ρ.ret, fun _ => none⟩
def Rho.inner (ρ : Rho) (pf : Bool) : Rho := cnd pf ρ.noview ρ.noloc
def Rho.zero : Rho := ⟨fun _ => none, fun _ => none, fun _ => none⟩

def CLoc.at (c : CLoc) (off : Nat) : Addr := ⟨c.blk, c.base + off, none⟩
def ACap.val (c : CLoc) : ACap → Nat
  | .exact n => n
  | .op d => c.cap - d

structure Ext (ρ ρ' : Rho) : Prop where
  loc : ∀ o c, ρ o = some c → ρ' o = some c
  ret : ∀ b x, ρ.ret b = some x → ρ'.ret b = some x
  view : ∀ b x, ρ.view b = some x → ρ'.view b = some x
theorem Ext.refl (ρ : Rho) : Ext ρ ρ := ⟨fun _ _ h => h, fun _ _ h => h, fun _ _ h => h⟩
theorem Ext.trans {ρ ρ' ρ'' : Rho} (h : Ext ρ ρ') (h' : Ext ρ' ρ'') : Ext ρ ρ'' := ⟨fun o c e => h'.loc o c (h.loc o c e), fun o c e => h'.ret o c (h.ret o c e), fun o c e => h'.view o c (h.view o c e)⟩
theorem Ext.noview {ρ ρ' : Rho} (h : Ext ρ ρ') : Ext ρ.noview ρ'.noview := ⟨fun _ _ h => (by cases h), h.ret, fun _ _ h => (by cases h)⟩
theorem Ext.noloc {ρ ρ' : Rho} (h : Ext ρ ρ') : Ext ρ.noloc ρ'.noloc := ⟨fun _ _ h => (by cases h), h.ret, h.view⟩

theorem Ext.inner {ρ ρ' : Rho} (h : Ext ρ ρ') (pf : Bool) : Ext (ρ.inner pf) (ρ'.inner pf) := by
  cases pf
  · exact h.noloc
  · exact h.noview

/-! ### values -/
mutual
def VR : Rho → AV → Value → Prop
  | ρ, .bool b, v => v = .bool b
  | ρ, .int k n, v => v = .int k n
  | ρ, .str s, v => v = .string ⟨s.toArray⟩
  | ρ, .ptr none, v => v = .pointer none
  | ρ, .ptr (some a), v => ∃ c, ρ a.obj = some c ∧ v = .pointer (some (c.at a.off))
  | ρ, .slice none n c, v => n = 0 ∧ c = .exact 0 ∧ v = .slice none 0 0
  | ρ, .slice (some a) n k, v => ∃ c ad, ρ a.obj = some c ∧ v = .slice (some ad) n (k.val c) ∧ n ≤ k.val c ∧ (k.val c ≠ 0 → ad = c.at a.off)
  | ρ, .map none, v => v = .map none
  | ρ, .map (some r), v => ∃ c, ρ r = some c ∧ v = .map (some c.blk)
  | ρ, .chan none, v => v = .chan none
  | ρ, .chan (some r), v => ∃ c, ρ r = some c ∧ v = .chan (some c.blk)
  | ρ, .func fn a b, v => ∃ x y, v = .func fn x y ∧ VRL ρ a x.toList ∧ VRL ρ b y.toList
  | ρ, .nilFunc, v => v = .nilFunc
  | ρ, .iface t x, v => ∃ y, v = .iface t y ∧ VR ρ x y
  | ρ, .nilIface, v => v = .nilIface
  | ρ, .agg cs, v => ∃ vs, v = .agg vs ∧ VRL ρ cs vs.toList
  | ρ, .tuple cs, v => ∃ vs, v = .tuple vs ∧ VRL ρ cs vs.toList
  | ρ, .lst cs n f pf, v => ∃ ao cap, v = .slice ao n cap ∧ n ≤ cap ∧ (f = true → cap = n) ∧ cs.all AV.scalar = true ∧ (ao = none → cap = 0) ∧
      ((n = 0 ∧ cs = [] ∧ (pf = false → ao ≠ none)) ∨ ∃ b off x us, ao = some ⟨b, off, none⟩ ∧ ρ.ret b = some x ∧ VRL (ρ.inner pf) cs us ∧ ∀ (i : Nat) (u : Value), us[i]? = some u → x[off + i]? = some u)
  | ρ, .cptr cs o, v => ∃ b base x us, v = .pointer (some ⟨b, base + o, none⟩) ∧ (ρ.view b = some x ∨ ρ.ret b = some x) ∧ cs.all AV.scalar = true ∧
      VRL ρ.noloc cs us ∧ ∀ (i : Nat) (u : Value), us[i]? = some u → x[base + i]? = some u
def VRL : Rho → List AV → List Value → Prop
  | ρ, [], l => l = []
  | ρ, a :: r, l => ∃ v l', l = v :: l' ∧ VR ρ a v ∧ VRL ρ r l'
end

mutual
theorem VR.mono {ρ ρ' : Rho} (he : Ext ρ ρ') : ∀ (a : AV) (v : Value), VR ρ a v → VR ρ' a v
  | .lst cs _ _ pf, _, h => by
    simp only [VR] at h ⊢
    obtain ⟨ao, cap, h1, h2, h3, h4, h6, h5⟩ := h
    exact ⟨ao, cap, h1, h2, h3, h4, h6, h5.imp id fun ⟨b, off, x, us, k1, k2, k3, k4⟩ => ⟨b, off, x, us, k1, he.ret _ _ k2, VRL.mono (he.inner pf) cs _ k3, k4⟩⟩
  | .cptr cs _, _, h => by
    simp only [VR] at h ⊢
    obtain ⟨b, base, x, us, k1, k2, k3, k4, k5⟩ := h
    exact ⟨b, base, x, us, k1, k2.imp (he.view _ _) (he.ret _ _), k3, VRL.mono he.noloc cs _ k4, k5⟩
  | .bool _, _, h => by simp only [VR] at h ⊢; exact h
  | .int _ _, _, h => by simp only [VR] at h ⊢; exact h
  | .str _, _, h => by simp only [VR] at h ⊢; exact h
  | .ptr none, _, h => by simp only [VR] at h ⊢; exact h
  | .ptr (some a), _, h => by simp only [VR] at h ⊢; obtain ⟨c, h1, h2⟩ := h; exact ⟨c, he.loc _ _ h1, h2⟩
  | .slice none _ _, _, h => by simp only [VR] at h ⊢; exact h
  | .slice (some a) _ _, _, h => by simp only [VR] at h ⊢; obtain ⟨c, ad, h1, h2⟩ := h; exact ⟨c, ad, he.loc _ _ h1, h2⟩
  | .map none, _, h => by simp only [VR] at h ⊢; exact h
  | .map (some r), _, h => by simp only [VR] at h ⊢; obtain ⟨c, h1, h2⟩ := h; exact ⟨c, he.loc _ _ h1, h2⟩
  | .chan none, _, h => by simp only [VR] at h ⊢; exact h
  | .chan (some r), _, h => by simp only [VR] at h ⊢; obtain ⟨c, h1, h2⟩ := h; exact ⟨c, he.loc _ _ h1, h2⟩
  | .func _ a b, _, h => by simp only [VR] at h ⊢; obtain ⟨x, y, h1, h2, h3⟩ := h; exact ⟨x, y, h1, VRL.mono he a _ h2, VRL.mono he b _ h3⟩
  | .nilFunc, _, h => by simp only [VR] at h ⊢; exact h
  | .iface _ x, _, h => by simp only [VR] at h ⊢; obtain ⟨y, h1, h2⟩ := h; exact ⟨y, h1, VR.mono he x y h2⟩
  | .nilIface, _, h => by simp only [VR] at h ⊢; exact h
  | .agg cs, _, h => by simp only [VR] at h ⊢; obtain ⟨x, h1, h2⟩ := h; exact ⟨x, h1, VRL.mono he cs _ h2⟩
  | .tuple cs, _, h => by simp only [VR] at h ⊢; obtain ⟨x, h1, h2⟩ := h; exact ⟨x, h1, VRL.mono he cs _ h2⟩
theorem VRL.mono {ρ ρ' : Rho} (he : Ext ρ ρ') : ∀ (l : List AV) (m : List Value), VRL ρ l m → VRL ρ' l m
  | [], _, h => by simp only [VRL] at h ⊢; exact h
  | a :: r, _, h => by simp only [VRL] at h ⊢; obtain ⟨v, l', h1, h2, h3⟩ := h; exact ⟨v, l', h1, VR.mono he a v h2, VRL.mono he r l' h3⟩
end

section
variable {ρ : Rho}
theorem VRL.length : ∀ {l : List AV} {m : List Value}, VRL ρ l m → m.length = l.length
  | [], _, h => by simp only [VRL] at h; subst h; rfl
  | _ :: r, _, h => by simp only [VRL] at h; obtain ⟨v, l', rfl, _, h3⟩ := h; simp [VRL.length h3]
theorem VRL.get : ∀ {l : List AV} {m : List Value} {i : Nat} {a : AV}, VRL ρ l m → l[i]? = some a → ∃ v, m[i]? = some v ∧ VR ρ a v
  | [], _, _, _, _, hi => by simp at hi
  | b :: r, _, i, a, h, hi => by
    simp only [VRL] at h
    obtain ⟨v, l', rfl, h2, h3⟩ := h
    cases i with
    | zero => simp at hi; subst hi; exact ⟨v, rfl, h2⟩
    | succ i =>
      simp at hi
      obtain ⟨v', g1, g2⟩ := VRL.get h3 hi
      exact ⟨v', by simpa using g1, g2⟩
theorem VRL.nil : VRL ρ [] [] := by simp [VRL]
theorem VRL.cons {a : AV} {v : Value} {l : List AV} {m : List Value} (h : VR ρ a v) (h' : VRL ρ l m) : VRL ρ (a :: l) (v :: m) := by
  simp only [VRL]; exact ⟨v, m, rfl, h, h'⟩
theorem VRL.append : ∀ {l l' : List AV} {m m' : List Value}, VRL ρ l m → VRL ρ l' m' → VRL ρ (l ++ l') (m ++ m')
  | [], _, _, _, h, h' => by simp only [VRL] at h; subst h; exact h'
  | _ :: _, _, _, _, h, h' => by
    simp only [VRL] at h
    obtain ⟨v, l', rfl, h2, h3⟩ := h
    exact VRL.cons h2 (VRL.append h3 h')
theorem VRL.of_get : ∀ {l : List AV} {m : List Value}, m.length = l.length → (∀ (i : Nat) (a : AV), l[i]? = some a → ∃ v, m[i]? = some v ∧ VR ρ a v) → VRL ρ l m
  | [], m, hl, _ => by
    have : m = [] := List.length_eq_zero_iff.mp hl
    subst this; exact VRL.nil
  | a :: r, m, hl, h => by
    cases m with
    | nil => simp at hl
    | cons v t =>
      refine VRL.cons ?_ (VRL.of_get (by simpa using hl) fun i b hb => ?_)
      · obtain ⟨v', h1, h2⟩ := h 0 a rfl
        simp at h1; subst h1; exact h2
      · obtain ⟨v', h1, h2⟩ := h (i + 1) b (by simpa using hb)
        exact ⟨v', by simpa using h1, h2⟩
theorem VRL.drop {l : List AV} {m : List Value} (n : Nat) (h : VRL ρ l m) : VRL ρ (l.drop n) (m.drop n) := by
  refine VRL.of_get (by simp [h.length]) fun i a ha => ?_
  rw [List.getElem?_drop] at ha ⊢
  exact h.get ha
theorem VRL.take {l : List AV} {m : List Value} (n : Nat) (h : VRL ρ l m) : VRL ρ (l.take n) (m.take n) := by
  refine VRL.of_get (by simp [h.length]) fun i a ha => ?_
  rw [List.getElem?_take] at ha ⊢
  split at ha
  · rename_i hi
    rw [if_pos hi]; exact h.get ha
  · simp at ha
theorem VRL.set {l : List AV} {m : List Value} {a : AV} {v : Value} (n : Nat) (h : VRL ρ l m) (hv : VR ρ a v) : VRL ρ (l.set n a) (m.set n v) := by
  refine VRL.of_get (by simp [h.length]) fun i b hb => ?_
  rw [List.getElem?_set] at hb ⊢
  by_cases hn : n = i
  · subst hn
    simp only [if_true] at hb ⊢
    by_cases hl : n < l.length
    · rw [if_pos hl] at hb; cases hb
      rw [if_pos (by rw [h.length]; exact hl)]; exact ⟨v, rfl, hv⟩
    · rw [if_neg hl] at hb; cases hb
  · rw [if_neg hn] at hb; rw [if_neg hn]
    exact h.get hb
theorem VRL.undefs (n : Nat) : VRL ρ (undefs n) (List.replicate n Go.undef) := by
  induction n with
  | zero => exact VRL.nil
  | succ n ih =>
    show VRL ρ (.undef :: BH.undefs n) _
    rw [List.replicate_succ]
    exact VRL.cons (by simp only [AV.undef, VR]; exact ⟨#[], rfl, VRL.nil⟩) ih
theorem VR.undef : VR ρ .undef Go.undef := by simp only [AV.undef, VR]; exact ⟨#[], rfl, VRL.nil⟩
end

/-- A cell of memory: a value that is no struct and no tuple. -/
theorem VR.oneCell {ρ : Rho} {a : AV} {v : Value} (h : VR ρ a v) (hs : a.scalar = true) : v.oneCell' = true := by
  cases a with
  | ptr a => cases a <;> simp only [VR] at h
             · subst h; rfl
             · obtain ⟨_, _, rfl⟩ := h; rfl
  | slice a n c => cases a <;> simp only [VR] at h
                   · obtain ⟨_, _, rfl⟩ := h; rfl
                   · obtain ⟨_, _, _, rfl, _⟩ := h; rfl
  | map a => cases a <;> simp only [VR] at h
             · subst h; rfl
             · obtain ⟨_, _, rfl⟩ := h; rfl
  | chan a => cases a <;> simp only [VR] at h
              · subst h; rfl
              · obtain ⟨_, _, rfl⟩ := h; rfl
  | func _ _ _ => simp only [VR] at h; obtain ⟨_, _, rfl, _⟩ := h; rfl
  | iface _ _ => simp only [VR] at h; obtain ⟨_, rfl, _⟩ := h; rfl
  | agg _ => simp [AV.scalar] at hs
  | tuple _ => simp [AV.scalar] at hs
  | lst _ _ _ _ => simp only [VR] at h; obtain ⟨_, _, rfl, _⟩ := h; rfl
  | cptr _ _ => simp only [VR] at h; obtain ⟨_, _, _, _, rfl, _⟩ := h; rfl
  | _ => simp only [VR] at h; subst h; rfl

/-- The cells of a value. -/
theorem VR.cells {ρ : Rho} {a : AV} {v : Value} (h : VR ρ a v) (hs : a.cells.all AV.scalar = true) : VRL ρ a.cells v.cells.toList := by
  cases a with
  | agg cs => simp only [VR] at h; obtain ⟨vs, rfl, h2⟩ := h; exact h2
  | tuple cs => simp [AV.cells, AV.scalar] at hs
  | ptr a =>
    have e : v.cells = #[v] := by
      cases a <;> simp only [VR] at h
      · subst h; rfl
      · obtain ⟨_, _, rfl⟩ := h; rfl
    rw [e]; exact VRL.cons h VRL.nil
  | slice a n c =>
    have e : v.cells = #[v] := by
      cases a <;> simp only [VR] at h
      · obtain ⟨_, _, rfl⟩ := h; rfl
      · obtain ⟨_, _, _, rfl, _⟩ := h; rfl
    rw [e]; exact VRL.cons h VRL.nil
  | map a =>
    have e : v.cells = #[v] := by
      cases a <;> simp only [VR] at h
      · subst h; rfl
      · obtain ⟨_, _, rfl⟩ := h; rfl
    rw [e]; exact VRL.cons h VRL.nil
  | chan a =>
    have e : v.cells = #[v] := by
      cases a <;> simp only [VR] at h
      · subst h; rfl
      · obtain ⟨_, _, rfl⟩ := h; rfl
    rw [e]; exact VRL.cons h VRL.nil
  | lst _ _ _ _ =>
    have e : v.cells = #[v] := by simp only [VR] at h; obtain ⟨_, _, rfl, _⟩ := h; rfl
    rw [e]; exact VRL.cons h VRL.nil
  | cptr _ _ =>
    have e : v.cells = #[v] := by simp only [VR] at h; obtain ⟨_, _, _, _, rfl, _⟩ := h; rfl
    rw [e]; exact VRL.cons h VRL.nil
  | func _ _ _ =>
    have e : v.cells = #[v] := by simp only [VR] at h; obtain ⟨_, _, rfl, _⟩ := h; rfl
    rw [e]; exact VRL.cons h VRL.nil
  | iface _ _ =>
    have e : v.cells = #[v] := by simp only [VR] at h; obtain ⟨_, rfl, _⟩ := h; rfl
    rw [e]; exact VRL.cons h VRL.nil
  | bool b => have e : v.cells = #[v] := by simp only [VR] at h; subst h; rfl
              rw [e]; exact VRL.cons h VRL.nil
  | int k n => have e : v.cells = #[v] := by simp only [VR] at h; subst h; rfl
               rw [e]; exact VRL.cons h VRL.nil
  | str s => have e : v.cells = #[v] := by simp only [VR] at h; subst h; rfl
             rw [e]; exact VRL.cons h VRL.nil
  | nilFunc => have e : v.cells = #[v] := by simp only [VR] at h; subst h; rfl
               rw [e]; exact VRL.cons h VRL.nil
  | nilIface => have e : v.cells = #[v] := by simp only [VR] at h; subst h; rfl
                rw [e]; exact VRL.cons h VRL.nil

/-! ### objects, heaps -/
def ERL (ρ : Rho) : List AEnt → List MapEntry → Prop
  | [], l => l = []
  | a :: r, l => ∃ e l', l = e :: l' ∧ VR ρ a.key e.key ∧ VR ρ a.val e.val ∧ e.born = a.born ∧ ERL ρ r l'

theorem ERL.mono {ρ ρ' : Rho} (he : Ext ρ ρ') : ∀ (l : List AEnt) (m : List MapEntry), ERL ρ l m → ERL ρ' l m
  | [], _, h => h
  | _ :: r, _, ⟨e, l', h1, h2, h3, h4, h5⟩ => ⟨e, l', h1, VR.mono he _ _ h2, VR.mono he _ _ h3, h4, ERL.mono he r l' h5⟩

def ORel (ρ : Rho) (c : CLoc) : AObj → Obj → Prop
  | .row e s f cells, y => ∃ cs fr, y = .cells cs e fr ∧ c.base + cells.length ≤ cs.size ∧
      (∀ (i : Nat) (a : AV), cells[i]? = some a → a.scalar = true ∧ ∃ v, cs[c.base + i]? = some v ∧ VR ρ a v) ∧ cells.length ≤ c.cap * s ∧ c.base + c.cap * s ≤ cs.size ∧
      (f = false → ∀ i, i < cs.size → ¬ (fr.1 ≤ i ∧ i < fr.2)) ∧ (s ≠ 1 → ¬ (fr.1 ≤ cs.size ∧ cs.size < fr.2))
  | .map es k, y => ∃ en, y = .map en k ∧ ERL ρ es en.toList
  | .chan n buf s r, y => ∃ b, y = .chan n b false s r false ∧ VRL ρ buf b.toList
  | .mapIter none since seen st, y => ∃ sn, y = .mapIter none since sn st ∧ sn.toList = seen
  | .mapIter (some m) since seen st, y => ∃ sn d, ρ m = some d ∧ y = .mapIter (some d.blk) since sn st ∧ sn.toList = seen

theorem ORel.mono {ρ ρ' : Rho} (he : Ext ρ ρ') {c : CLoc} : ∀ (x : AObj) (y : Obj), ORel ρ c x y → ORel ρ' c x y
  | .row _ _ _ _, _, ⟨cs, fr, h1, h2, h3, h4⟩ => ⟨cs, fr, h1, h2, fun i a ha => let ⟨hs, v, hv, hr⟩ := h3 i a ha; ⟨hs, v, hv, VR.mono he _ _ hr⟩, h4⟩
  | .map _ _, _, ⟨en, h1, h2⟩ => ⟨en, h1, ERL.mono he _ _ h2⟩
  | .chan _ _ _ _, _, ⟨b, h1, h2⟩ => ⟨b, h1, VRL.mono he _ _ h2⟩
  | .mapIter none _ _ _, _, h => h
  | .mapIter (some _) _ _ _, _, ⟨sn, d, h1, h2⟩ => ⟨sn, d, he.loc _ _ h1, h2⟩

/-- Memory that stays as it is: several objects may lie in one block. -/
def AObj.fix : AObj → Bool
  | .row _ _ f _ => f
  | _ => false

structure HRel (ρ : Rho) (h : AHeap) (w : World) : Prop where
  objs : ∀ o x, h.get o = some x → ∃ c y, ρ o = some c ∧ w.heap[c.blk]? = some y ∧ ORel ρ c x y
  inj : ∀ o o' x x' c c', h.get o = some x → h.get o' = some x' → ρ o = some c → ρ o' = some c' → c.blk = c'.blk → o = o' ∨ (x.fix = true ∧ x'.fix = true)
  fresh : ∀ o, h.next ≤ o → ρ o = none
  rets : ∀ b x, (ρ.ret b = some x ∨ ρ.view b = some x) → (∃ e fr, w.heap[b]? = some (.cells x e fr)) ∧ ∀ o y c, h.get o = some y → y.fix = false → ρ o = some c → c.blk ≠ b
  fixed : ∀ o x c, h.get o = some x → x.fix = true → ρ o = some c → ρ.ret c.blk ≠ none

theorem HRel.lt {ρ : Rho} {h : AHeap} {w : World} (H : HRel ρ h w) {o : Nat} {x : AObj} (hx : h.get o = some x) : o < h.next := by
  obtain ⟨c, y, h1, _⟩ := H.objs o x hx
  rcases Nat.lt_or_ge o h.next with hl | hl
  · exact hl
  · rw [H.fresh o hl] at h1; cases h1
theorem HRel.blk {ρ : Rho} {h : AHeap} {w : World} (H : HRel ρ h w) {o : Nat} {x : AObj} {c : CLoc} (hx : h.get o = some x) (hc : ρ o = some c) : c.blk < w.heap.size := by
  obtain ⟨c', y, h1, h2, _⟩ := H.objs o x hx
  rw [hc] at h1; cases h1
  exact (Array.getElem?_eq_some_iff.mp h2).1

/-- What a step from (ρ, h, w) to (ρ', h', w') keeps. -/
structure Trans (ρ : Rho) (h : AHeap) (w : World) (ρ' : Rho) (h' : AHeap) (w' : World) : Prop where
  ext : Ext ρ ρ'
  rel : HRel ρ' h' w'
  kept : ∀ b, b < w.heap.size → (∀ o x c, h.get o = some x → x.fix = false → ρ o = some c → c.blk ≠ b) → w'.heap[b]? = w.heap[b]?
  size : w.heap.size ≤ w'.heap.size
  outp : w'.output = w.output
  os : w'.os = w.os
  blks : ∀ o x c, h'.get o = some x → x.fix = false → ρ' o = some c → (∃ o₀ x₀ c₀, h.get o₀ = some x₀ ∧ x₀.fix = false ∧ ρ o₀ = some c₀ ∧ c₀.blk = c.blk) ∨ w.heap.size ≤ c.blk
  ids : ∀ o, ρ' o ≠ none → ρ o ≠ none ∨ (h.next ≤ o ∧ o < h'.next)
  next : h.next ≤ h'.next
  rids : ∀ b, ρ'.ret b ≠ none → ρ.ret b ≠ none ∨ w.heap.size ≤ b ∨ ∃ o x c, h.get o = some x ∧ x.fix = false ∧ ρ o = some c ∧ c.blk = b
  views : ρ'.view = ρ.view

theorem Trans.refl {ρ : Rho} {h : AHeap} {w : World} (H : HRel ρ h w) : Trans ρ h w ρ h w :=
  ⟨.refl ρ, H, fun _ _ _ => rfl, Nat.le_refl _, rfl, rfl, fun o x c hx hf hc => .inl ⟨o, x, c, hx, hf, hc, rfl⟩, fun _ ho => .inl ho, Nat.le_refl _, fun _ hb => .inl hb, rfl⟩

theorem Trans.trans {ρ ρ' ρ'' : Rho} {h h' h'' : AHeap} {w w' w'' : World} (A : Trans ρ h w ρ' h' w') (B : Trans ρ' h' w' ρ'' h'' w'') :
    Trans ρ h w ρ'' h'' w'' where
  ext := A.ext.trans B.ext
  rel := B.rel
  kept := by
    intro b hb hn
    rw [B.kept b (Nat.lt_of_lt_of_le hb A.size) ?_, A.kept b hb hn]
    intro o x c hx hf hc hbb
    rcases A.blks o x c hx hf hc with ⟨o₀, x₀, c₀, h1, hf', h2, h3⟩ | hge
    · exact hn o₀ x₀ c₀ h1 hf' h2 (h3.trans hbb)
    · omega
  size := Nat.le_trans A.size B.size
  outp := B.outp.trans A.outp
  os := B.os.trans A.os
  blks := by
    intro o x c hx hf hc
    rcases B.blks o x c hx hf hc with ⟨o₁, x₁, c₁, h1, hf', h2, h3⟩ | hge
    · rcases A.blks o₁ x₁ c₁ h1 hf' h2 with ⟨o₀, x₀, c₀, g1, hf'', g2, g3⟩ | hge
      · exact .inl ⟨o₀, x₀, c₀, g1, hf'', g2, g3.trans h3⟩
      · exact .inr (by omega)
    · exact .inr (Nat.le_trans A.size hge)
  ids := by
    intro o ho
    have h1 := A.next; have h2 := B.next
    rcases B.ids o ho with h | ⟨ha, hb⟩
    · rcases A.ids o h with h | ⟨ha, hb⟩
      · exact .inl h
      · exact .inr ⟨ha, by omega⟩
    · exact .inr ⟨by omega, hb⟩
  next := Nat.le_trans A.next B.next
  rids := by
    intro b hb
    rcases B.rids b hb with h | h | ⟨o, x, c, hx, hf, hc, e⟩
    · exact A.rids b h
    · exact .inr (.inl (Nat.le_trans A.size h))
    · rcases A.blks o x c hx hf hc with ⟨o₀, x₀, c₀, g1, hf', g2, g3⟩ | hge
      · exact .inr (.inr ⟨o₀, x₀, c₀, g1, hf', g2, g3.trans e⟩)
      · exact .inr (.inl (by omega))
  views := B.views.trans A.views

end Go.Proofs.YtonojkcnencodaaDoor.BH
