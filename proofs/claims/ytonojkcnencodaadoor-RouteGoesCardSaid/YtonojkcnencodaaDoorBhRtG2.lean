/-
  Words, matchers, trees of routes: what the calls come to (no program in sight).
-/
import Derived.Test.YtonojkcnencodaaDoorBhW16
import Derived.Test.YtonojkcnencodaaDoorBhDkL
import Derived.KernelRfl
namespace Go.Proofs.YtonojkcnencodaaDoor.BH.Rt
/-- Letters; what a name may have within. -/
def small : List UInt8 := [97, 98, 99, 100, 101, 102, 103, 104, 105, 106, 107, 108, 109, 110, 111, 112, 113, 114, 115, 116, 117, 118, 119, 120, 121, 122]
def inner : List UInt8 := [97, 98, 99, 100, 101, 102, 103, 104, 105, 106, 107, 108, 109, 110, 111, 112, 113, 114, 115, 116, 117, 118, 119, 120, 121, 122, 48, 49, 50, 51, 52, 53, 54, 55, 56, 57, 95]
def isIn (i : Nat) : Bool := (inner.map UInt8.toNat).any fun j => Nat.beq j i
def SET : List AV := tab 256 isIn
def trimL (l : List UInt8) : List UInt8 := l.dropWhile fun b => isIn b.toNat
def trimR (l : List UInt8) : List UInt8 := (l.reverse.dropWhile fun b => isIn b.toNat).reverse
theorem trimL_in {b : UInt8} {l : List UInt8} (h : isIn b.toNat = true) : trimL (b :: l) = trimL l := by simp [trimL, h]
theorem trimL_out {b : UInt8} {l : List UInt8} (h : isIn b.toNat = false) : trimL (b :: l) = b :: l := by simp [trimL, h]
theorem trimR_in {b : UInt8} {l : List UInt8} (h : isIn b.toNat = true) : trimR (l ++ [b]) = trimR l := by simp [trimR, h]
theorem trimR_out {b : UInt8} {l : List UInt8} (h : isIn b.toNat = false) : trimR (l ++ [b]) = l ++ [b] := by simp [trimR, h]
theorem drop_head {p : UInt8 → Bool} {m r : List UInt8} {a : UInt8} (h : m.dropWhile p = a :: r) : p a = false := by
  induction m with
  | nil => cases h
  | cons b t ih =>
    rw [List.dropWhile_cons] at h
    by_cases hb : p b = true
    · rw [if_pos hb] at h; exact ih h
    · rw [if_neg hb] at h; cases h; simpa using hb
theorem trim_nil (l : List UInt8) : trimL (trimR l) = [] ↔ l.all (fun b => isIn b.toNat) = true := by
  have h : ∀ m : List UInt8, (m.dropWhile fun b => isIn b.toNat) = [] ↔ m.all (fun b => isIn b.toNat) = true := by
    intro m
    induction m with
    | nil => simp
    | cons a r ih =>
      rw [List.dropWhile_cons, List.all_cons]
      by_cases ha : isIn a.toNat = true
      · rw [if_pos ha, ih, ha]; simp
      · rw [if_neg ha]; simp [ha]
  unfold trimL trimR
  rw [h, List.all_reverse]
  constructor
  · intro hd
    have : (l.reverse.dropWhile fun b => isIn b.toNat) = [] := by
      cases hx : l.reverse.dropWhile fun b => isIn b.toNat with
      | nil => rfl
      | cons a r =>
        rw [hx] at hd
        have h1 : isIn a.toNat = true := by simp at hd; exact hd.1
        have h2 := drop_head hx
        rw [h1] at h2; cases h2
    rw [h, List.all_reverse] at this; exact this
  · intro ha
    have : (l.reverse.dropWhile fun b => isIn b.toNat) = [] := by rw [h, List.all_reverse]; exact ha
    rw [this]; rfl
/-- May a text be a name? -/
noncomputable def wordV (s : List UInt8) : Bool := match s with
  | [] => false
  | b :: _ => decide (s.length ≤ 24) && decide (0 ≤ indexByteV b.toNat small 0) && s.all (fun b => isIn b.toNat)
theorem word_long {b : UInt8} {r : List UInt8} (h : 24 < ((b :: r).length : Int)) : wordV (b :: r) = false := by
  unfold wordV; rw [decide_eq_false (by omega)]; rfl
theorem word_first {b : UInt8} {r : List UInt8} (h : indexByteV b.toNat small 0 < 0) : wordV (b :: r) = false := by
  unfold wordV; simp only []; rw [show decide (0 ≤ indexByteV b.toNat small 0) = false from decide_eq_false (by omega), Bool.and_false]; rfl
theorem word_ok {b : UInt8} {r : List UInt8} (h : ((b :: r).length : Int) ≤ 24) (h1 : ¬ indexByteV b.toNat small 0 < 0) : decide (trimL (trimR (b :: r)) = []) = wordV (b :: r) := by
  unfold wordV; simp only []
  rw [decide_eq_true (show (b :: r).length ≤ 24 by omega), decide_eq_true (show 0 ≤ indexByteV b.toNat small 0 by omega), Bool.true_and, Bool.true_and]
  rw [Bool.eq_iff_iff, decide_eq_true_eq]; exact trim_nil _
theorem last_of {l : List UInt8} {k : Nat} (h : l.length = k + 1) : ∃ b m, l = m ++ [b] ∧ m.length = k := by
  have hne : l ≠ [] := by rintro rfl; cases h
  exact ⟨l.getLast hne, l.dropLast, (List.dropLast_concat_getLast hne).symm, by simp [h]⟩
/-- Labels, matchers. -/
structure LD where
  name : List UInt8
  value : List UInt8
  deriving DecidableEq
structure MD where
  name : List UInt8
  value : List UInt8
  kind : Int
  deriving DecidableEq
def eL (x : LD) : List AV := [.str x.name, .str x.value]
def eM (m : MD) : List AV := [.str m.name, .str m.value, .int .i64 m.kind]
def signV (k : Int) : List UInt8 := if k = 1 then [61] else if k = 2 then [33, 61] else if k = 3 then [94, 61] else if k = 4 then [33, 94] else []
def prefV (s p : List UInt8) : Bool := decide (p.length ≤ s.length) && decide (s.take p.length = p)
def getV : List LD → List UInt8 → List UInt8
  | [], _ => []
  | a :: r, n => if a.name = n then a.value else getV r n
theorem getV_cons (a : LD) (r : List LD) (n : List UInt8) : getV (a :: r) n = if a.name = n then a.value else getV r n := rfl
def holdsV (l : List LD) (m : MD) : Bool :=
  if m.kind = 1 then decide (getV l m.name = m.value) else if m.kind = 2 then decide (¬ getV l m.name = m.value) else if m.kind = 3 then prefV (getV l m.name) m.value else if m.kind = 4 then !prefV (getV l m.name) m.value else false
def allV (l : List LD) (ms : List MD) : Bool := ms.all (holdsV l)
noncomputable def okM (m : MD) : Bool := wordV m.name && decide (m.value.length ≤ 24) && decide (signV m.kind ≠ [])
noncomputable def msV (ms : List MD) : Bool := ms.all okM && decide (ms.length ≤ 6)
theorem all_take {α : Type} {p : α → Bool} {l : List α} {k : Nat} {x : α} (hx : l[k]? = some x) (h : (l.take k).all p = true) (hp : p x = true) : (l.take (k + 1)).all p = true := by
  rw [take_one hx, List.all_append, h]; simpa using hp
theorem all_not {α : Type} {p : α → Bool} {l : List α} {k : Nat} {x : α} (hx : l[k]? = some x) (hp : p x = false) : l.all p = false := by
  rw [List.all_eq_false]; exact ⟨x, List.mem_of_getElem? hx, by rw [hp]; simp⟩
theorem all_end {α : Type} {p : α → Bool} {l : List α} {k : Nat} (hk : l.length ≤ k) (h : (l.take k).all p = true) : l.all p = true := by rw [List.take_of_length_le hk] at h; exact h
theorem natOr_of {d : Nat} {k : IntKind} {z : Int} {j : Nat} (h : z = j) : natOr d (some (.int k z)) = some j := by subst h; rfl
end Go.Proofs.YtonojkcnencodaaDoor.BH.Rt
namespace Go.Proofs.YtonojkcnencodaaDoor.BH.Rt
inductive Rt where
  | mk (ms : List MD) (to : List UInt8) (goes : Bool) (kids : List Rt)
def Rt.ms : Rt → List MD | mk a _ _ _ => a
def Rt.to : Rt → List UInt8 | mk _ b _ _ => b
def Rt.goes : Rt → Bool | mk _ _ c _ => c
def Rt.kids : Rt → List Rt | mk _ _ _ d => d
theorem kid_lt {r x : Rt} (h : x ∈ r.kids) : SizeOf.sizeOf x < SizeOf.sizeOf r := by
  cases r
  have := List.sizeOf_lt_of_mem h
  simp only [Rt.kids] at this
  simp only [Rt.mk.sizeOf_spec]; omega
theorem kids_lt (a : Rt) (r : List Rt) : SizeOf.sizeOf a.kids < SizeOf.sizeOf (a :: r) := by
  cases a
  simp only [Rt.kids, List.cons.sizeOf_spec, Rt.mk.sizeOf_spec]; omega
theorem rest_lt (a : Rt) (r : List Rt) : SizeOf.sizeOf r < SizeOf.sizeOf (a :: r) := by
  simp only [List.cons.sizeOf_spec]; omega
def kidsL : List Rt → List AV
  | [] => []
  | a :: r => [AL eM a.ms, .str a.to, .bool a.goes, .lst (kidsL a.kids) a.kids.length false true] ++ kidsL r
termination_by l => SizeOf.sizeOf l
decreasing_by all_goals first | exact kids_lt _ _ | exact rest_lt _ _
def eR (r : Rt) : List AV := [AL eM r.ms, .str r.to, .bool r.goes, .lst (kidsL r.kids) r.kids.length false true]
abbrev agR (r : Rt) : AV := .agg (eR r)
theorem kidsL_eq : ∀ l : List Rt, kidsL l = l.flatMap eR
  | [] => by unfold kidsL; rfl
  | a :: r => by rw [kidsL, kidsL_eq r]; rfl
theorem kids_al (l : List Rt) : AV.lst (kidsL l) l.length false true = AL eR l := by rw [kidsL_eq]; rfl
/-- How many routes there are; how much of all. -/
def cntL : List Rt → Nat
  | [] => 0
  | a :: r => 1 + cntL a.kids + cntL r
termination_by l => SizeOf.sizeOf l
decreasing_by all_goals first | exact kids_lt _ _ | exact rest_lt _ _
def cnt (r : Rt) : Nat := 1 + cntL r.kids
def blkL : List Rt → Nat
  | [] => 0
  | a :: r => 1 + a.ms.length + blkL a.kids + blkL r
termination_by l => SizeOf.sizeOf l
decreasing_by all_goals first | exact kids_lt _ _ | exact rest_lt _ _
def blk (r : Rt) : Nat := 1 + r.ms.length + blkL r.kids
theorem cntL_cons (a : Rt) (r : List Rt) : cntL (a :: r) = cnt a + cntL r := by rw [cntL]; rfl
theorem cntL_nil : cntL [] = 0 := by unfold cntL; rfl
theorem blkL_cons (a : Rt) (r : List Rt) : blkL (a :: r) = blk a + blkL r := by rw [blkL]; rfl
theorem blkL_nil : blkL [] = 0 := by unfold blkL; rfl
theorem cntL_append : ∀ l m : List Rt, cntL (l ++ m) = cntL l + cntL m
  | [], m => by rw [cntL_nil]; simp
  | a :: r, m => by rw [List.cons_append, cntL_cons, cntL_cons, cntL_append r m]; omega
theorem blkL_mem : ∀ {l : List Rt} {x : Rt}, x ∈ l → blk x ≤ blkL l
  | a :: r, x, h => by
    rw [blkL_cons]
    rcases List.mem_cons.mp h with rfl | h
    · omega
    · have := blkL_mem h; omega
theorem blk_kid {r x : Rt} (h : x ∈ r.kids) : blk x < blk r := by
  have := blkL_mem h
  unfold blk at this ⊢; omega
theorem len_blk : ∀ l : List Rt, l.length ≤ blkL l
  | [] => by simp
  | a :: r => by
    have := len_blk r
    rw [blkL_cons, List.length_cons]
    unfold blk; omega
theorem cntL_blk : ∀ l : List Rt, cntL l ≤ blkL l
  | [] => by rw [cntL_nil]; omega
  | a :: r => by
    have h1 := cntL_blk r
    have h2 := cntL_blk a.kids
    rw [cntL_cons, blkL_cons]
    unfold cnt blk; omega
termination_by l => SizeOf.sizeOf l
decreasing_by all_goals first | exact kids_lt _ _ | exact rest_lt _ _
theorem cntL_take {l : List Rt} {k : Nat} {x : Rt} (hx : l[k]? = some x) : cntL (l.take (k + 1)) = cntL (l.take k) + cnt x := by
  rw [take_one hx, cntL_append, cntL_cons, cntL_nil]; omega
theorem cntL_takes (l : List Rt) (k : Nat) : cntL (l.take k) ≤ cntL l := by
  have := cntL_append (l.take k) (l.drop k)
  rw [List.take_append_drop] at this; omega
/-- May a tree be? -/
noncomputable def rightV : Nat → Rt → Bool
  | 0, _ => false
  | n + 1, r => wordV r.to && msV r.ms && r.kids.all (rightV n)
noncomputable def RightV (r : Rt) : Bool := decide (r.ms.length = 0) && rightV 8 r && decide (cnt r ≤ 16)
/-- Whom a set goes to. -/
def toL (set : List LD) : List Rt → List (List UInt8) × Bool
  | [] => ([], false)
  | a :: r => if allV set a.ms then (if a.goes then ((if (toL set a.kids).2 then (toL set a.kids).1 else [a.to]) ++ (toL set r).1, true) else (if (toL set a.kids).2 then (toL set a.kids).1 else [a.to], true)) else toL set r
termination_by l => SizeOf.sizeOf l
decreasing_by all_goals first | exact kids_lt _ _ | exact rest_lt _ _
def toV (set : List LD) (r : Rt) : List (List UInt8) := if (toL set r.kids).2 then (toL set r.kids).1 else [r.to]
theorem toL_nil (set : List LD) : toL set [] = ([], false) := by unfold toL; rfl
theorem toL_cons (set : List LD) (a : Rt) (r : List Rt) : toL set (a :: r) = if allV set a.ms then (if a.goes then (toV set a ++ (toL set r).1, true) else (toV set a, true)) else toL set r := by rw [toL]; rfl
noncomputable def ToV (set : List LD) (r : Rt) : List (List UInt8) := if RightV r then toV set r else []
def cntA (l : List Rt) : Int := l.foldl (fun (n : Int) x => n + ((cnt x : Nat) : Int)) 1
theorem cntA_eq (l : List Rt) : cntA l = ((1 + cntL l : Nat) : Int) := by
  have h : ∀ (l : List Rt) (z : Int), l.foldl (fun (n : Int) x => n + ((cnt x : Nat) : Int)) z = z + ((cntL l : Nat) : Int) := by
    intro l
    induction l with
    | nil => intro z; rw [cntL_nil]; simp
    | cons a r ih => intro z; rw [List.foldl_cons, ih, cntL_cons]; omega
  unfold cntA; rw [h]; omega
theorem cntA_next {l : List Rt} {k : Nat} {x : Rt} (hx : l[k]? = some x) : cntA (l.take k) + (cnt x : Nat) = cntA (l.take (k + 1)) := by
  rw [cntA_eq, cntA_eq, cntL_take hx]; omega
theorem right_word {n : Nat} {r : Rt} (h : wordV r.to = false) : rightV n r = false := by cases n <;> simp [rightV, h]
theorem right_ms {n : Nat} {r : Rt} (h : msV r.ms = false) : rightV n r = false := by cases n <;> simp [rightV, h]
theorem right_kid {n k : Nat} {r x : Rt} (hx : r.kids[k]? = some x) (h : rightV (n - 1) x = false) : rightV n r = false := by
  cases n with
  | zero => rfl
  | succ n => rw [rightV, all_not (p := rightV n) hx h, Bool.and_false]
theorem right_all {n : Nat} {r : Rt} (hn : 1 ≤ (n : Int)) (h1 : wordV r.to = true) (h2 : msV r.ms = true) (h3 : r.kids.all (rightV (n - 1)) = true) : rightV n r = true := by
  cases n with
  | zero => omega
  | succ n => rw [rightV, h1, h2]; exact h3
theorem toL_len (set : List LD) : ∀ l : List Rt, (toL set l).1.length ≤ cntL l
  | [] => by rw [toL_nil, cntL_nil]; simp
  | a :: r => by
    have h1 := toL_len set r
    have h2 := toL_len set a.kids
    have h3 : (toV set a).length ≤ cnt a := by
      unfold toV cnt; split <;> (try simp only [List.length_singleton]) <;> omega
    rw [toL_cons, cntL_cons]
    split
    · split
      · simp only [List.length_append]; omega
      · simp only []; omega
    · omega
termination_by l => SizeOf.sizeOf l
decreasing_by all_goals first | exact kids_lt _ _ | exact rest_lt _ _
theorem toV_len (set : List LD) (r : Rt) : (toV set r).length ≤ cnt r := by
  have := toL_len set r.kids
  unfold toV cnt; split <;> (try simp only [List.length_singleton]) <;> omega
/-- How far one is: what is told as yet, and what the kids that are left come to. -/
def At (set : List LD) (r : Rt) (k : Nat) (out : List (List UInt8)) (met : Bool) : Prop := (out ++ (toL set (r.kids.drop k)).1, met || (toL set (r.kids.drop k)).2) = toL set r.kids
theorem at_begin (set : List LD) (r : Rt) : At set r 0 [] false := by unfold At; simp
theorem at_skip {set : List LD} {r x : Rt} {k : Nat} {out : List (List UInt8)} {met : Bool} (hx : r.kids[k]? = some x) (h : At set r k out met) (hm : allV set x.ms = false) : At set r (k + 1) out met := by
  unfold At at h ⊢; rw [drop_one hx, toL_cons, hm] at h; exact h
theorem at_goes {set : List LD} {r x : Rt} {k : Nat} {out : List (List UInt8)} {met : Bool} (hx : r.kids[k]? = some x) (h : At set r k out met) (hm : allV set x.ms = true) (hg : x.goes = true) : At set r (k + 1) (out ++ toV set x) true := by
  unfold At at h ⊢; rw [drop_one hx, toL_cons, hm, hg] at h
  simp only [if_true, Bool.or_true, Bool.true_or] at h ⊢
  rw [List.append_assoc]; exact h
theorem at_stop {set : List LD} {r x : Rt} {k : Nat} {out : List (List UInt8)} {met : Bool} (hx : r.kids[k]? = some x) (h : At set r k out met) (hm : allV set x.ms = true) (hg : x.goes = false) : toL set r.kids = (out ++ toV set x, true) := by
  unfold At at h; rw [drop_one hx, toL_cons, hm, hg] at h
  simp at h
  exact h.symm
theorem at_end {set : List LD} {r : Rt} {k : Nat} {out : List (List UInt8)} {met : Bool} (hk : r.kids.length ≤ k) (h : At set r k out met) : toL set r.kids = (out, met) := by
  unfold At at h; rw [List.drop_eq_nil_of_le hk, toL_nil] at h
  simpa using h.symm
end Go.Proofs.YtonojkcnencodaaDoor.BH.Rt
namespace Go.Proofs.YtonojkcnencodaaDoor.BH.Rt
def toG (k : Nat) : List UInt8 := [UInt8.ofNat (97 + k)]
def kidG (goes : List Bool) (k : Nat) : Rt := .mk [] (toG k) (goes.getD k false) []
def kidsG (goes : List Bool) (i : Nat) : List Rt := (List.range i).map (kidG goes)
theorem kidsG_next (goes : List Bool) (i : Nat) : kidsG goes i ++ [kidG goes i] = kidsG goes (i + 1) := by simp [kidsG, List.range_succ]
theorem kidsG_len (goes : List Bool) (i : Nat) : (kidsG goes i).length = i := by simp [kidsG]
/-- Who is wanted, and whether that is all. -/
def wantG (goes : List Bool) : Nat → List (List UInt8) × Bool
  | 0 => ([], false)
  | i + 1 => if (wantG goes i).2 then wantG goes i else ((wantG goes i).1 ++ [toG i], !goes.getD i false)
theorem wantG_stay {goes : List Bool} {i : Nat} (h : (wantG goes i).2 = true) : wantG goes (i + 1) = wantG goes i := by rw [wantG, if_pos h]
theorem wantG_next {goes : List Bool} {i : Nat} (h : (wantG goes i).2 = false) : wantG goes (i + 1) = ((wantG goes i).1 ++ [toG i], !goes.getD i false) := by rw [wantG, if_neg (by simp [h])]
theorem wantG_len (goes : List Bool) : ∀ i, (wantG goes i).1.length ≤ i
  | 0 => by simp [wantG]
  | i + 1 => by
    have := wantG_len goes i
    rw [wantG]; split
    · omega
    · simp; omega
theorem letterG (i : Nat) (h : i < 31) : IntKind.u8.wrap (97 + (i : Int)) = ((UInt8.ofNat (97 + i)).toNat : Int) := by
  have h1 : (UInt8.ofNat (97 + i)).toNat = 97 + i := by rw [UInt8.toNat_ofNat']; omega
  rw [h1]
  have : fits .u8 (97 + (i : Int)) = true := by
    rw [show 97 + (i : Int) = ((97 + i : Nat) : Int) by omega]
    show Nat.ble (97 + i) 255 = true
    rw [bleN]; omega
  rw [fits_wrap this]; omega
theorem nilK : VRLe nilSlice (.lst (kidsL []) ([] : List Rt).length false true) := by
  rw [show kidsL [] = [] by unfold kidsL; rfl]; exact nil_le false true rfl
theorem kidsK (l : List Rt) : VRLe (AL eR l) (.lst (kidsL l) l.length false true) := by rw [kids_al]; exact .refl _
theorem eR_done (r : Rt) : (eR r).all doneV = true := rfl
theorem leaf_le (to : List UInt8) (g : Bool) : LeL [nilSlice, .str to, .bool g, nilSlice] (eR (.mk [] to g [])) := .cons (nil_le false true rfl) (.cons (.refl _) (.cons (.refl _) (.cons nilK .nil)))
theorem node_le (to : List UInt8) (g : Bool) (l : List Rt) : LeL [nilSlice, .str to, .bool g, AL eR l] (eR (.mk [] to g l)) := .cons (nil_le false true rfl) (.cons (.refl _) (.cons (.refl _) (.cons (kidsK l) .nil)))
def upG (kids : List Rt) : Nat → Rt
  | 0 => .mk [] [114, 111, 111, 116] false kids
  | k + 1 => .mk [] [117, 112] false [upG kids k]
def lowG : Nat → Rt
  | 0 => .mk [] [120] false []
  | j + 1 => .mk [] [120] false [lowG j]
def wideL (j : Nat) : List Rt := List.replicate j (.mk [] [121] false []) ++ List.replicate (16 - j) (.mk [] [] false [])
def wideT : Rt := .mk [] [120] false (wideL 16)
theorem wide_le : LeL (repl 16 [nilSlice, .str [], .bool false, nilSlice]) ((wideL 0).flatMap eR) := by
  have h : ∀ n, LeL (repl n [nilSlice, .str [], .bool false, nilSlice]) ((List.replicate n (Rt.mk [] [] false [])).flatMap eR) := by
    intro n
    induction n with
    | zero => exact .nil
    | succ n ih => exact .cons (nil_le false true rfl) (.cons (.refl _) (.cons (.refl _) (.cons nilK ih)))
  exact h 16
theorem wide_over : ∀ k : Nat, k < 16 → over ((wideL k).flatMap eR) (0 + ((k : Nat) : Int).toNat * 4 + 1) [.str [121]] = some ((wideL (k + 1)).flatMap eR)
  | 0, _ => rfl
  | 1, _ => rfl
  | 2, _ => rfl
  | 3, _ => rfl
  | 4, _ => rfl
  | 5, _ => rfl
  | 6, _ => rfl
  | 7, _ => rfl
  | 8, _ => rfl
  | 9, _ => rfl
  | 10, _ => rfl
  | 11, _ => rfl
  | 12, _ => rfl
  | 13, _ => rfl
  | 14, _ => rfl
  | 15, _ => rfl
  | n + 16, h => absurd h (by omega)
end Go.Proofs.YtonojkcnencodaaDoor.BH.Rt
namespace Go.Proofs.YtonojkcnencodaaDoor.BH.Rt
theorem blkL_kids (goes : List Bool) : ∀ i, blkL (kidsG goes i) = i := by
  have h : ∀ l : List Nat, blkL (l.map (kidG goes)) = l.length := by
    intro l
    induction l with
    | nil => exact blkL_nil
    | cons a r ih =>
      rw [List.map_cons, blkL_cons, ih]
      show 1 + 0 + blkL [] + _ = _
      rw [blkL_nil, List.length_cons]; omega
  intro i; unfold kidsG; rw [h]; simp
theorem cntL_kids (goes : List Bool) : ∀ i, cntL (kidsG goes i) = i := by
  have h : ∀ l : List Nat, cntL (l.map (kidG goes)) = l.length := by
    intro l
    induction l with
    | nil => exact cntL_nil
    | cons a r ih =>
      rw [List.map_cons, cntL_cons, ih]
      show 1 + cntL [] + _ = _
      rw [cntL_nil, List.length_cons]; omega
  intro i; unfold kidsG; rw [h]; simp
theorem blk_up (kids : List Rt) : ∀ k, blk (upG kids k) = 1 + k + blkL kids
  | 0 => by show 1 + 0 + blkL kids = _; omega
  | k + 1 => by
    show 1 + 0 + blkL [upG kids k] = _
    rw [blkL_cons, blkL_nil, blk_up kids k]; omega
theorem cnt_up (kids : List Rt) : ∀ k, cnt (upG kids k) = 1 + k + cntL kids
  | 0 => by show 1 + cntL kids = _; omega
  | k + 1 => by
    show 1 + cntL [upG kids k] = _
    rw [cntL_cons, cntL_nil, cnt_up kids k]; omega
theorem blk_low : ∀ j, blk (lowG j) = j + 1
  | 0 => by show 1 + 0 + blkL [] = _; rw [blkL_nil]
  | j + 1 => by
    show 1 + 0 + blkL [lowG j] = _
    rw [blkL_cons, blkL_nil, blk_low j]; omega
theorem low_not : ∀ n j, n ≤ j → rightV n (lowG j) = false
  | 0, _, _ => rfl
  | n + 1, j + 1, h => by
    have := low_not n j (by omega)
    show (wordV [120] && msV [] && [lowG j].all (rightV n)) = false
    simp [this]
theorem cnt_wide : cnt wideT = 17 := by
  show 1 + cntL (wideL 16) = 17
  have h : ∀ n, cntL (List.replicate n (Rt.mk [] [121] false [])) = n := by
    intro n
    induction n with
    | zero => exact cntL_nil
    | succ n ih =>
      rw [List.replicate_succ, cntL_cons, ih]
      show 1 + cntL [] + n = _
      rw [cntL_nil]; omega
  have := h 16
  rw [show wideL 16 = List.replicate 16 (Rt.mk [] [121] false []) from rfl, this]
theorem blk_wide : blk wideT = 17 := by
  show 1 + 0 + blkL (wideL 16) = 17
  have h : ∀ n, blkL (List.replicate n (Rt.mk [] [121] false [])) = n := by
    intro n
    induction n with
    | zero => exact blkL_nil
    | succ n ih =>
      rw [List.replicate_succ, blkL_cons, ih]
      show 1 + 0 + blkL [] + n = _
      rw [blkL_nil]; omega
  have := h 16
  rw [show wideL 16 = List.replicate 16 (Rt.mk [] [121] false []) from rfl, this]
theorem wide_not : RightV wideT = false := by
  unfold RightV; rw [cnt_wide]; simp
theorem wide_To : ToV [] wideT = [] := by unfold ToV; rw [wide_not]; rfl
theorem low_right : RightV (lowG 8) = false := by
  unfold RightV; rw [low_not 8 8 (by omega)]; simp
theorem word_to : ∀ k, k < 8 → wordV (toG k) = true
  | 0, _ => by kernel_rfl
  | 1, _ => by kernel_rfl
  | 2, _ => by kernel_rfl
  | 3, _ => by kernel_rfl
  | 4, _ => by kernel_rfl
  | 5, _ => by kernel_rfl
  | 6, _ => by kernel_rfl
  | 7, _ => by kernel_rfl
  | k + 8, h => absurd h (by omega)
theorem right_up {goes : List Bool} {i : Nat} (hi : i ≤ 8) : ∀ k n, k + 2 ≤ n → rightV n (upG (kidsG goes i) k) = true
  | 0, n + 2, _ => by
    show (wordV [114, 111, 111, 116] && msV [] && (kidsG goes i).all (rightV (n + 1))) = true
    rw [show wordV [114, 111, 111, 116] = true by kernel_rfl, show msV [] = true from rfl]
    simp only [Bool.true_and, List.all_eq_true]
    intro x hx
    obtain ⟨j, hj, rfl⟩ := List.mem_map.mp hx
    have hj := List.mem_range.mp hj
    show (wordV (toG j) && msV [] && ([] : List Rt).all (rightV n)) = true
    rw [word_to j (by omega)]; rfl
  | k + 1, n + 1, h => by
    show (wordV [117, 112] && msV [] && [upG (kidsG goes i) k].all (rightV n)) = true
    rw [show wordV [117, 112] = true by kernel_rfl, show msV [] = true from rfl]
    simp [right_up (goes := goes) hi k n (by omega)]
theorem Right_up {goes : List Bool} {i k : Nat} (hi : i ≤ 8) (hk : k ≤ 6) : RightV (upG (kidsG goes i) k) = true := by
  unfold RightV
  rw [right_up hi k 8 (by omega), cnt_up, cntL_kids, decide_eq_true (show 1 + k + i ≤ 16 by omega)]
  cases k <;> rfl
theorem to_up (kids : List Rt) : ∀ k, toV [] (upG kids k) = toV [] (upG kids 0)
  | 0 => rfl
  | k + 1 => by
    have e : toL [] [upG kids k] = (toV [] (upG kids k), true) := by
      rw [toL_cons, toL_nil]
      have h1 : (upG kids k).ms = [] := by cases k <;> rfl
      have h2 : (upG kids k).goes = false := by cases k <;> rfl
      rw [h1, h2]; rfl
    show (if (toL [] [upG kids k]).2 then (toL [] [upG kids k]).1 else _) = _
    rw [e]; exact to_up kids k
end Go.Proofs.YtonojkcnencodaaDoor.BH.Rt
