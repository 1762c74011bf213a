/-
  Trees that are made of numbers are right (no program in sight).
-/
import Derived.Test.YtonojkcnencodaaDoorBhW16
import Derived.KernelRfl
import Derived.Test.YtonojkcnencodaaDoorBhRt5
import Derived.Test.YtonojkcnencodaaDoorBhW18
import Derived.Test.YtonojkcnencodaaDoorBhW21
section
namespace Go.Proofs.YtonojkcnencodaaDoor.BH.Rt
open Go.Proofs.YtonojkcnencodaaDoor.BH.Dk (withinV withinV_in)
noncomputable section
theorem und_zero (U : List Int) : ∀ i, (undT U i)[0]? = some (-1)
  | 0 => rfl
  | i + 1 => by rw [undT, List.getElem?_append_left (by rw [und_len]; omega)]; exact und_zero U i
/-- Behind one that is under another nobody is. -/
theorem und_flat (U : List Int) : ∀ (i j p : Nat) (z : Int), (undT U i)[j]? = some (p : Int) → 0 < p → (undT U i)[p]? = some z → z ≤ 0
  | 0, j, p, z, h, hp, hz => by
    cases p with
    | zero => omega
    | succ p => simp [undT] at hz
  | i + 1, j, p, z, h, hp, hz => by
    rw [undT] at h hz
    have hl := und_len U i
    have hple : p < (undT U i).length := by
      rcases Nat.lt_or_ge j (undT U i).length with hj | hj
      · rw [List.getElem?_append_left hj] at h
        have := und_up U i j _ h
        omega
      · rw [List.getElem?_append_right hj] at h
        have hj2 : j - (undT U i).length = 0 := by
          rcases Nat.eq_zero_or_pos (j - (undT U i).length) with h0 | h0
          · exact h0
          · rw [List.getElem?_eq_none (by simp; omega)] at h; cases h
        rw [hj2] at h
        simp at h
        have := par_le (undT U i) ((U[i]?).getD 0) i
        omega
    rw [List.getElem?_append_left hple] at hz
    rcases Nat.lt_or_ge j (undT U i).length with hj | hj
    · rw [List.getElem?_append_left hj] at h; exact und_flat U i j p z h hp hz
    · rw [List.getElem?_append_right hj] at h
      have hj2 : j - (undT U i).length = 0 := by
        rcases Nat.eq_zero_or_pos (j - (undT U i).length) with h0 | h0
        · exact h0
        · rw [List.getElem?_eq_none (by simp; omega)] at h; cases h
      rw [hj2] at h
      simp at h
      have hpar : parT (undT U i) ((U[i]?).getD 0) i = p := by omega
      unfold parT at hpar
      split at hpar
      · omega
      · rename_i hn
        rw [hpar, hz] at hn
        simp at hn
        omega
def okN (n : Nd) : Prop := wordV n.to = true ∧ msV n.ms = true
theorem word_names : ∀ n ∈ namesV, wordV n = true := by
  intro n hn
  simp only [namesV, List.mem_cons, List.not_mem_nil, or_false] at hn
  rcases hn with rfl | rfl | rfl | rfl <;> kernel_rfl
theorem md_ok (n : Int) : okM (mdT n) = true := by
  have h2 := withinN_le (IntKind.i64.wrap (n.tdiv 4)) (hi := 2) (by decide)
  have h3 := withinN_le (IntKind.i64.wrap (n.tdiv 16)) (hi := 3) (by decide)
  have hk := withinV_in n 1 4 (by decide)
  have l2 : withinN (IntKind.i64.wrap (n.tdiv 4)) 2 < namesV.length := by show _ < 4; omega
  have l3 : withinN (IntKind.i64.wrap (n.tdiv 16)) 3 < valuesV.length := by show _ < 8; omega
  have hv : ∀ v ∈ valuesV, v.length ≤ 24 := by decide
  unfold okM mdT
  simp only [List.getElem?_eq_getElem l2, List.getElem?_eq_getElem l3, Option.getD_some]
  rw [word_names _ (List.getElem_mem l2), decide_eq_true (hv _ (List.getElem_mem l3)), Bool.true_and, Bool.true_and]
  refine decide_eq_true ?_
  unfold signV
  split
  · simp
  · split
    · simp
    · split
      · simp
      · split
        · simp
        · omega
theorem ms_ok (n : Int) : msV (msT n) = true := by
  unfold msT
  split
  · rfl
  · unfold msV; simp [md_ok]
theorem lbT_word (i : Nat) : wordV [lbT i] = true := by
  have : ∀ k, k < 5 → wordV [UInt8.ofNat (97 + k)] = true := by
    intro k hk
    match k, hk with
    | 0, _ => show wordV [97] = true; kernel_rfl
    | 1, _ => show wordV [98] = true; kernel_rfl
    | 2, _ => show wordV [99] = true; kernel_rfl
    | 3, _ => show wordV [100] = true; kernel_rfl
    | 4, _ => show wordV [101] = true; kernel_rfl
  exact this (i % 5) (Nat.mod_lt _ (by decide))
theorem nds_ok (M G : List Int) : ∀ i, ∀ n ∈ ndsT M G i, okN n
  | 0, n, h => by
    obtain rfl := List.mem_singleton.mp h
    exact ⟨by kernel_rfl, rfl⟩
  | i + 1, n, h => by
    rw [ndsT] at h
    rcases List.mem_append.mp h with h | h
    · exact nds_ok M G i n h
    · obtain rfl := List.mem_singleton.mp h
      exact ⟨lbT_word i, ms_ok _⟩
theorem kids_mem {under : List Int} {a k j : Nat} (h : j ∈ kidsI under a k) : j < k ∧ under[j]? = some (a : Int) := by
  unfold kidsI at h
  rw [List.mem_filter] at h
  exact ⟨List.mem_range.mp h.1, of_decide_eq_true h.2⟩
theorem rightV_mk {n : Nat} {x : Nd} {ks : List Rt} (ho : okN x) (hk : ∀ r ∈ ks, rightV n r = true) : rightV (n + 1) (.mk x.ms x.to x.goes ks) = true := by
  rw [rightV]
  show (wordV x.to && msV x.ms && ks.all (rightV n)) = true
  rw [ho.1, ho.2, Bool.true_and, Bool.true_and, List.all_eq_true]
  exact hk
/-- One at the second level: a leaf. -/
theorem leaf_kids {U : List Int} {i a : Nat} {z : Int} (hz : (undT U i)[a]? = some z) (hp : 0 < z) (k : Nat) : kidsI (undT U i) a k = [] := by
  rw [List.eq_nil_iff_forall_not_mem]
  intro j hj
  have h := (kids_mem hj).2
  have ha : 0 < a := by
    rcases Nat.eq_zero_or_pos a with h0 | h0
    · subst h0; rw [und_zero] at hz; cases hz; omega
    · exact h0
  have := und_flat U i j a z h ha hz
  omega
theorem grow_two {U M G : List Int} {i a : Nat} {z : Int} (f n : Nat) (ha : a < (ndsT M G i).length) (hz : (undT U i)[a]? = some z) (hp : 0 < z) : rightV (n + 1) (growV (ndsT M G i) (undT U i) (f + 1) a) = true := by
  obtain ⟨x, hx⟩ : ∃ x, (ndsT M G i)[a]? = some x := ⟨_, List.getElem?_eq_getElem ha⟩
  rw [grow_eq _ _ _ _ x hx, leaf_kids hz hp]
  exact rightV_mk (nds_ok M G i x (List.mem_of_getElem? hx)) (by simp)
theorem grow_one {U M G : List Int} {i a : Nat} (f n : Nat) (ha : a < (ndsT M G i).length) (h0 : 0 < a) : rightV (n + 2) (growV (ndsT M G i) (undT U i) (f + 2) a) = true := by
  obtain ⟨x, hx⟩ : ∃ x, (ndsT M G i)[a]? = some x := ⟨_, List.getElem?_eq_getElem ha⟩
  rw [grow_eq _ _ _ _ x hx]
  refine rightV_mk (nds_ok M G i x (List.mem_of_getElem? hx)) fun r hr => ?_
  obtain ⟨j, hj, rfl⟩ := List.mem_map.mp hr
  obtain ⟨h1, h2⟩ := kids_mem hj
  exact grow_two f n h1 h2 (by omega)
theorem grow_root {U M G : List Int} {i : Nat} (f n : Nat) : rightV (n + 3) (growV (ndsT M G i) (undT U i) (f + 3) 0) = true := by
  obtain ⟨x, hx⟩ : ∃ x, (ndsT M G i)[0]? = some x := ⟨_, List.getElem?_eq_getElem (by rw [nds_len]; omega)⟩
  rw [grow_eq _ _ _ _ x hx]
  refine rightV_mk (nds_ok M G i x (List.mem_of_getElem? hx)) fun r hr => ?_
  obtain ⟨j, hj, rfl⟩ := List.mem_map.mp hr
  obtain ⟨h1, h2⟩ := kids_mem hj
  have := und_up U i j _ h2
  exact grow_one f n h1 (by omega)
theorem filt_two {p q s : Nat → Bool} : ∀ (l : List Nat), (∀ k ∈ l, p k = true → q k = true → False) → (∀ k ∈ l, p k = true ∨ q k = true → s k = true) → (l.filter p).length + (l.filter q).length ≤ (l.filter s).length
  | [], _, _ => Nat.le_refl _
  | a :: r, h1, h2 => by
    have ih := filt_two r (fun k hk => h1 k (List.mem_cons_of_mem _ hk)) (fun k hk => h2 k (List.mem_cons_of_mem _ hk))
    have g1 := h1 a List.mem_cons_self
    have g2 := h2 a List.mem_cons_self
    cases hp : p a <;> cases hq : q a <;> cases hs : s a <;> simp_all <;> omega
def sumK (u : List Int) (n : Nat) : List Nat → Nat
  | [] => 0
  | j :: r => (kidsI u j n).length + sumK u n r
theorem sumK_le (u : List Int) (n : Nat) : ∀ (js : List Nat), js.Nodup → sumK u n js ≤ ((List.range n).filter fun k => decide (∃ j ∈ js, u[k]? = some (j : Int))).length
  | [], _ => Nat.zero_le _
  | j :: r, hn => by
    have hn := List.nodup_cons.mp hn
    have ih := sumK_le u n r hn.2
    have := filt_two (p := fun k => decide (u[k]? = some (j : Int))) (q := fun k => decide (∃ j ∈ r, u[k]? = some (j : Int))) (s := fun k => decide (∃ i ∈ j :: r, u[k]? = some (i : Int))) (List.range n) (fun k _ h1 h2 => by
      have h1 := of_decide_eq_true h1
      obtain ⟨i, hi, h2⟩ := of_decide_eq_true h2
      rw [h1] at h2
      have h3 : (j : Int) = (i : Int) := Option.some.inj h2
      have : j = i := by omega
      exact hn.1 (this ▸ hi)) (fun k _ h => by
      refine decide_eq_true ?_
      rcases h with h | h
      · exact ⟨j, List.mem_cons_self, of_decide_eq_true h⟩
      · obtain ⟨i, hi, h⟩ := of_decide_eq_true h
        exact ⟨i, List.mem_cons_of_mem _ hi, h⟩)
    show (kidsI u j n).length + sumK u n r ≤ _
    unfold kidsI
    omega
theorem cntL_leaves {U M G : List Int} {i : Nat} (f : Nat) : ∀ (l : List Nat), (∀ j ∈ l, j < (ndsT M G i).length ∧ ∃ z, (undT U i)[j]? = some z ∧ 0 < z) → cntL (l.map (growV (ndsT M G i) (undT U i) (f + 1))) = l.length
  | [], _ => by rw [List.map_nil, cntL_nil]; rfl
  | j :: r, h => by
    obtain ⟨h1, z, h2, h3⟩ := h j List.mem_cons_self
    obtain ⟨x, hx⟩ : ∃ x, (ndsT M G i)[j]? = some x := ⟨_, List.getElem?_eq_getElem h1⟩
    rw [List.map_cons, cntL_cons, cntL_leaves f r fun k hk => h k (List.mem_cons_of_mem _ hk), grow_eq _ _ _ _ x hx, leaf_kids h2 h3]
    unfold cnt
    show 1 + cntL [] + r.length = _
    rw [cntL_nil, List.length_cons]; omega
theorem cntL_kids {U M G : List Int} {i : Nat} (f : Nat) : ∀ (l : List Nat), (∀ j ∈ l, j < (ndsT M G i).length ∧ 0 < j) → cntL (l.map (growV (ndsT M G i) (undT U i) (f + 2))) = l.length + sumK (undT U i) (ndsT M G i).length l
  | [], _ => by rw [List.map_nil, cntL_nil]; rfl
  | j :: r, h => by
    obtain ⟨h1, h2⟩ := h j List.mem_cons_self
    obtain ⟨x, hx⟩ : ∃ x, (ndsT M G i)[j]? = some x := ⟨_, List.getElem?_eq_getElem h1⟩
    rw [List.map_cons, cntL_cons, cntL_kids f r fun k hk => h k (List.mem_cons_of_mem _ hk), grow_eq _ _ _ _ x hx]
    unfold cnt
    show 1 + cntL ((kidsI (undT U i) j (ndsT M G i).length).map (growV (ndsT M G i) (undT U i) (f + 1))) + (r.length + _) = _
    rw [cntL_leaves f _ fun k hk => ⟨(kids_mem hk).1, _, (kids_mem hk).2, by omega⟩, List.length_cons]
    show 1 + _ + (r.length + sumK _ _ r) = r.length + 1 + (_ + sumK _ _ r)
    omega
theorem kids_nodup (u : List Int) (a n : Nat) : (kidsI u a n).Nodup := (List.nodup_range).filter _
theorem tree_cnt (U M G : List Int) : cnt (treeV U M G) ≤ 10 := by
  have hn := nds_len M G (min U.length 8)
  obtain ⟨x, hx⟩ : ∃ x, (ndsT M G (min U.length 8))[0]? = some x := ⟨_, List.getElem?_eq_getElem (by omega)⟩
  unfold treeV
  rw [grow_eq _ _ _ _ x hx]
  unfold cnt
  show 1 + cntL ((kidsI (undT U (min U.length 8)) 0 (ndsT M G (min U.length 8)).length).map (growV (ndsT M G (min U.length 8)) (undT U (min U.length 8)) (min U.length 8 + 2))) ≤ 10
  have hk : ∀ j ∈ kidsI (undT U (min U.length 8)) 0 (ndsT M G (min U.length 8)).length, j < (ndsT M G (min U.length 8)).length ∧ 0 < j := fun j hj => ⟨(kids_mem hj).1, by have := und_up U _ j _ (kids_mem hj).2; omega⟩
  rw [cntL_kids _ _ hk]
  have h1 := sumK_le (undT U (min U.length 8)) (ndsT M G (min U.length 8)).length _ (kids_nodup (undT U (min U.length 8)) 0 (ndsT M G (min U.length 8)).length)
  have h2 := filt_two (p := fun k => decide ((undT U (min U.length 8))[k]? = some ((0 : Nat) : Int))) (q := fun k => decide (∃ j ∈ kidsI (undT U (min U.length 8)) 0 (ndsT M G (min U.length 8)).length, (undT U (min U.length 8))[k]? = some (j : Int))) (s := fun _ => true) (List.range (ndsT M G (min U.length 8)).length) (fun k _ h1 h2 => by
    have h1 := of_decide_eq_true h1
    obtain ⟨j, hj, h2⟩ := of_decide_eq_true h2
    rw [h1] at h2
    have h3 := (hk j hj).2
    have h5 : ((0 : Nat) : Int) = (j : Int) := Option.some.inj h2
    omega) (fun _ _ _ => rfl)
  have h3 : ((List.range (ndsT M G (min U.length 8)).length).filter fun _ => true).length = (ndsT M G (min U.length 8)).length := by rw [List.filter_eq_self.mpr (fun _ _ => rfl), List.length_range]
  rw [h3] at h2
  have h4 : (kidsI (undT U (min U.length 8)) 0 (ndsT M G (min U.length 8)).length).length = ((List.range (ndsT M G (min U.length 8)).length).filter fun k => decide ((undT U (min U.length 8))[k]? = some ((0 : Nat) : Int))).length := rfl
  omega
theorem nds_root (M G : List Int) : ∀ i, (ndsT M G i)[0]? = some ⟨[], [114], false⟩
  | 0 => rfl
  | i + 1 => by rw [ndsT, List.getElem?_append_left (by rw [nds_len]; omega)]; exact nds_root M G i
theorem tree_right (U M G : List Int) : RightV (treeV U M G) = true := by
  have h1 : (treeV U M G).ms = [] := by unfold treeV; rw [grow_eq _ _ _ _ _ (nds_root M G _)]; rfl
  have h2 : rightV 8 (treeV U M G) = true := grow_root _ 5
  have h3 := tree_cnt U M G
  unfold RightV
  rw [h1, h2, decide_eq_true (show cnt (treeV U M G) ≤ 16 by omega)]; rfl
end
end Go.Proofs.YtonojkcnencodaaDoor.BH.Rt

end
section
namespace Go.Proofs.YtonojkcnencodaaDoor.BH.Rt
noncomputable section
theorem toL_ne (set : List LD) : ∀ l : List Rt, (toL set l).2 = true → (toL set l).1 ≠ []
  | [], h => by rw [toL_nil] at h; cases h
  | a :: r, h => by
    have hv : toV set a ≠ [] := by
      unfold toV
      split
      · rename_i h2; exact toL_ne set a.kids h2
      · simp
    rw [toL_cons] at h ⊢
    split
    · split
      · simp [hv]
      · exact hv
    · rename_i hm
      rw [if_neg hm] at h
      exact toL_ne set r h
termination_by l => SizeOf.sizeOf l
decreasing_by all_goals first | exact kids_lt _ _ | exact rest_lt _ _
theorem toV_ne (set : List LD) (r : Rt) : toV set r ≠ [] := by
  unfold toV
  split
  · rename_i h; exact toL_ne set r.kids h
  · simp
theorem toL_mem (set : List LD) {x : List UInt8} : ∀ l : List Rt, x ∈ (toL set l).1 → ∃ k ∈ l, x ∈ toV set k
  | [], h => by rw [toL_nil] at h; cases h
  | a :: r, h => by
    rw [toL_cons] at h
    split at h
    · split at h
      · rcases List.mem_append.mp h with h | h
        · exact ⟨a, List.mem_cons_self, h⟩
        · obtain ⟨k, hk, hx⟩ := toL_mem set r h
          exact ⟨k, List.mem_cons_of_mem _ hk, hx⟩
      · exact ⟨a, List.mem_cons_self, h⟩
    · obtain ⟨k, hk, hx⟩ := toL_mem set r h
      exact ⟨k, List.mem_cons_of_mem _ hk, hx⟩
theorem toV_mem (set : List LD) {x : List UInt8} {r : Rt} (h : x ∈ toV set r) : x = r.to ∨ ∃ k ∈ r.kids, x ∈ toV set k := by
  unfold toV at h
  split at h
  · exact .inr (toL_mem set r.kids h)
  · exact .inl (List.mem_singleton.mp h)
/-- All receivers of the first three levels. -/
def namesT (r : Rt) : List (List UInt8) := r.to :: r.kids.flatMap fun x => x.to :: x.kids.map Rt.to
theorem tree_flat {U M G : List Int} {k y : Rt} (hk : k ∈ (treeV U M G).kids) (hy : y ∈ k.kids) : y.kids = [] := by
  unfold treeV at hk
  rw [grow_eq _ _ _ _ _ (nds_root M G _)] at hk
  obtain ⟨j, hj, rfl⟩ := List.mem_map.mp (show k ∈ (kidsI _ _ _).map _ from hk)
  obtain ⟨h1, h2⟩ := kids_mem hj
  have hj0 := und_up U _ j _ h2
  obtain ⟨x, hx⟩ : ∃ x, (ndsT M G (min U.length 8))[j]? = some x := ⟨_, List.getElem?_eq_getElem h1⟩
  rw [grow_eq _ _ _ _ _ hx] at hy
  obtain ⟨q, hq, rfl⟩ := List.mem_map.mp (show y ∈ (kidsI _ _ _).map _ from hy)
  obtain ⟨g1, g2⟩ := kids_mem hq
  obtain ⟨z, hz⟩ : ∃ z, (ndsT M G (min U.length 8))[q]? = some z := ⟨_, List.getElem?_eq_getElem g1⟩
  rw [grow_eq _ _ _ _ _ hz, leaf_kids g2 (by omega)]
  rfl
theorem tree_names {U M G : List Int} (set : List LD) {x : List UInt8} (h : x ∈ toV set (treeV U M G)) : x ∈ namesT (treeV U M G) := by
  unfold namesT
  rcases toV_mem set h with rfl | ⟨k, hk, h⟩
  · exact List.mem_cons_self
  · refine List.mem_cons_of_mem _ (List.mem_flatMap.mpr ⟨k, hk, ?_⟩)
    rcases toV_mem set h with rfl | ⟨y, hy, h⟩
    · exact List.mem_cons_self
    · refine List.mem_cons_of_mem _ (List.mem_map.mpr ⟨y, hy, ?_⟩)
      rcases toV_mem set h with rfl | ⟨z, hz, _⟩
      · rfl
      · rw [tree_flat hk hy] at hz; cases hz
/-- A root whose first kid takes all. -/
def aloneT (r : Rt) : Rt := .mk [] [97] false (.mk [] [102, 105, 114, 115, 116] false [] :: r.kids)
theorem alone_to (r : Rt) : toV [] (aloneT r) = [[102, 105, 114, 115, 116]] := by
  unfold aloneT toV
  show (if (toL [] (Rt.mk [] [102, 105, 114, 115, 116] false [] :: r.kids)).2 = true then (toL [] (Rt.mk [] [102, 105, 114, 115, 116] false [] :: r.kids)).1 else [[97]]) = _
  rw [toL_cons]
  have h1 : allV [] (Rt.mk [] [102, 105, 114, 115, 116] false []).ms = true := rfl
  have h2 : toV [] (Rt.mk [] [102, 105, 114, 115, 116] false []) = [[102, 105, 114, 115, 116]] := by
    unfold toV
    show (if (toL [] []).2 = true then _ else _) = _
    rw [toL_nil]; rfl
  rw [h1, h2]
  rfl
theorem blkL_right {n : Nat} (ih : ∀ r, rightV n r = true → blk r ≤ 7 * cnt r) : ∀ l : List Rt, (∀ r ∈ l, rightV n r = true) → blkL l ≤ 7 * cntL l
  | [], _ => by rw [blkL_nil, cntL_nil]; omega
  | a :: r, h => by
    have h1 := ih a (h a List.mem_cons_self)
    have h2 := blkL_right ih r fun x hx => h x (List.mem_cons_of_mem _ hx)
    rw [blkL_cons, cntL_cons]; omega
theorem blk_right : ∀ (n : Nat) (r : Rt), rightV n r = true → blk r ≤ 7 * cnt r
  | 0, r, h => by cases h
  | n + 1, r, h => by
    rw [rightV, Bool.and_eq_true, Bool.and_eq_true, List.all_eq_true] at h
    have h6 : r.ms.length ≤ 6 := by
      have := h.1.2
      unfold msV at this
      rw [Bool.and_eq_true, decide_eq_true_eq] at this
      exact this.2
    have hk := blkL_right (blk_right n) r.kids h.2
    unfold blk cnt; omega
theorem tree_blk (U M G : List Int) : blk (treeV U M G) ≤ 70 := by
  have h1 := blk_right 8 (treeV U M G) (grow_root _ 5)
  have h2 := tree_cnt U M G
  omega
theorem tree_kids (U M G : List Int) : ∀ k ∈ (treeV U M G).kids, rightV 7 k = true := by
  intro k hk
  unfold treeV at hk
  rw [grow_eq _ _ _ _ _ (nds_root M G _)] at hk
  obtain ⟨j, hj, rfl⟩ := List.mem_map.mp (show k ∈ (kidsI _ _ _).map _ from hk)
  obtain ⟨h1, h2⟩ := kids_mem hj
  have := und_up U _ j _ h2
  exact grow_one _ 5 h1 (by omega)
theorem alone_right (U M G : List Int) : RightV (aloneT (treeV U M G)) = true := by
  have h2 : rightV 8 (aloneT (treeV U M G)) = true := by
    unfold aloneT
    rw [rightV]
    show (wordV [97] && msV [] && (Rt.mk [] [102, 105, 114, 115, 116] false [] :: (treeV U M G).kids).all (rightV 7)) = true
    rw [show wordV [97] = true by kernel_rfl, show msV [] = true from rfl, Bool.true_and, Bool.true_and, List.all_cons, Bool.and_eq_true, List.all_eq_true]
    exact ⟨by show (wordV [102, 105, 114, 115, 116] && msV [] && true) = true; kernel_rfl, tree_kids U M G⟩
  have h3 : cnt (aloneT (treeV U M G)) ≤ 12 := by
    have := tree_cnt U M G
    unfold cnt at this
    unfold aloneT cnt
    show 1 + cntL (Rt.mk [] [102, 105, 114, 115, 116] false [] :: (treeV U M G).kids) ≤ 12
    rw [cntL_cons]
    unfold cnt
    show 1 + (1 + cntL [] + cntL (treeV U M G).kids) ≤ 12
    rw [cntL_nil]; omega
  unfold RightV
  rw [h2, decide_eq_true (show cnt (aloneT (treeV U M G)) ≤ 16 by omega)]; rfl
end
end Go.Proofs.YtonojkcnencodaaDoor.BH.Rt

end
section
namespace Go.Proofs.YtonojkcnencodaaDoor.BH.Rt
noncomputable section
abbrev NM := List (List UInt8 × Bool)
theorem get_putA {D : NM} {k j : List UInt8} {v : Bool} : getA (putA D k v) j = if j = k then some v else getA D j := by
  induction D with
  | nil =>
    show getA [(k, v)] j = _
    simp only [getA]
  | cons x r ih =>
    by_cases h : k = x.1
    · have e : putA (x :: r) k v = (k, v) :: r := by simp [putA, h]
      rw [e]
      simp only [getA]
      by_cases hj : j = k
      · rw [if_pos hj, if_pos hj]
      · rw [if_neg hj, if_neg hj, if_neg (fun hh => hj (hh.trans h.symm))]
    · have e : putA (x :: r) k v = x :: putA r k v := by simp [putA, h]
      rw [e]
      simp only [getA]
      rw [ih]
      by_cases hj : j = x.1
      · rw [if_pos hj, if_pos hj, if_neg (fun hh => h (hh.symm.trans hj))]
      · rw [if_neg hj, if_neg hj]
def nmD (l : List (List UInt8)) : NM := l.foldl (fun D n => putA D n true) []
theorem nm_one (l : List (List UInt8)) (n : List UInt8) : putA (nmD l) n true = nmD (l ++ [n]) := by unfold nmD; rw [List.foldl_append]; rfl
theorem nm_get {l : List (List UInt8)} {n : List UInt8} (h : n ∈ l) : getA (nmD l) n = some true := by
  have key : ∀ (l : List (List UInt8)) (D : NM), (n ∈ l ∨ getA D n = some true) → getA (l.foldl (fun D n => putA D n true) D) n = some true := by
    intro l
    induction l with
    | nil =>
      intro D h
      rcases h with h | h
      · cases h
      · exact h
    | cons a r ih =>
      intro D h
      refine ih _ ?_
      rw [get_putA]
      by_cases e : n = a
      · rw [if_pos e]; exact .inr rfl
      · rw [if_neg e]
        rcases h with h | h
        · rcases List.mem_cons.mp h with h | h
          · exact absurd h e
          · exact .inl h
        · exact .inr h
  exact key l [] (.inl h)
theorem put_keys {D : NM} {k : List UInt8} {v : Bool} (hn : (D.map Prod.fst).Nodup) : ((putA D k v).map Prod.fst).Nodup ∧ ∀ j, j ∈ (putA D k v).map Prod.fst ↔ j = k ∨ j ∈ D.map Prod.fst := by
  induction D with
  | nil => exact ⟨by simp [putA], fun j => by simp [putA]⟩
  | cons x r ih =>
    rw [List.map_cons, List.nodup_cons] at hn
    obtain ⟨h1, h2⟩ := ih hn.2
    by_cases h : k = x.1
    · have e : putA (x :: r) k v = (k, v) :: r := by simp [putA, h]
      rw [e]
      subst h
      refine ⟨by rw [List.map_cons, List.nodup_cons]; exact hn, fun j => ?_⟩
      simp
    · have e : putA (x :: r) k v = x :: putA r k v := by simp [putA, h]
      rw [e]
      refine ⟨?_, fun j => ?_⟩
      · rw [List.map_cons, List.nodup_cons]
        exact ⟨fun hh => ((h2 _).mp hh).elim (fun z => h z.symm) hn.1, h1⟩
      · rw [List.map_cons, List.mem_cons, h2, List.map_cons, List.mem_cons]
        constructor
        · rintro (h | h | h)
          · exact .inr (.inl h)
          · exact .inl h
          · exact .inr (.inr h)
        · rintro (h | h | h)
          · exact .inr (.inl h)
          · exact .inl h
          · exact .inr (.inr h)
theorem nm_keys (l : List (List UInt8)) : ((nmD l).map Prod.fst).Nodup ∧ ∀ j, j ∈ (nmD l).map Prod.fst ↔ j ∈ l := by
  have key : ∀ (l : List (List UInt8)) (D : NM), (D.map Prod.fst).Nodup → ((l.foldl (fun D n => putA D n true) D).map Prod.fst).Nodup ∧ ∀ j, j ∈ (l.foldl (fun D n => putA D n true) D).map Prod.fst ↔ j ∈ l ∨ j ∈ D.map Prod.fst := by
    intro l
    induction l with
    | nil => intro D h; exact ⟨h, fun j => by simp⟩
    | cons a r ih =>
      intro D h
      obtain ⟨h1, h2⟩ := put_keys (k := a) (v := true) h
      obtain ⟨h3, h4⟩ := ih _ h1
      refine ⟨h3, fun j => ?_⟩
      rw [List.foldl_cons, h4, h2, List.mem_cons]
      constructor
      · rintro (h | h | h)
        · exact .inl (.inr h)
        · exact .inl (.inl h)
        · exact .inr h
      · rintro ((h | h) | h)
        · exact .inr (.inl h)
        · exact .inl h
        · exact .inr (.inr h)
  obtain ⟨h1, h2⟩ := key l [] List.nodup_nil
  exact ⟨h1, fun j => (h2 j).trans (by simp)⟩
theorem get_bang {l : List (List UInt8)} {j : Nat} (h : j < l.length) : l.toArray[j]! = l[j] := by simp [h]
open Go.Lib in
theorem compact_sub {l : List (List UInt8)} {t : List UInt8} (h : t ∈ compact l) : t ∈ l := by
  unfold compact compactUpTo at h
  obtain ⟨j, hj, rfl⟩ := List.mem_map.mp h
  have hj := List.mem_range.mp (List.mem_filter.mp hj).1
  rw [get_bang hj]; exact List.getElem_mem hj
open Go.Lib in
theorem compact_sup {l : List (List UInt8)} : ∀ (j : Nat) (h : j < l.length), l[j] ∈ compact l
  | 0, h => by
    unfold compact compactUpTo
    refine List.mem_map.mpr ⟨0, List.mem_filter.mpr ⟨List.mem_range.mpr h, by simp [keeps]⟩, get_bang h⟩
  | j + 1, h => by
    by_cases e : l[j + 1] = l[j]
    · rw [e]; exact compact_sup j (by omega)
    · unfold compact compactUpTo
      refine List.mem_map.mpr ⟨j + 1, List.mem_filter.mpr ⟨List.mem_range.mpr h, ?_⟩, get_bang h⟩
      unfold keeps
      rw [get_bang h, Nat.add_sub_cancel, get_bang (show j < l.length by omega)]
      simp [e]
open Go.Lib in
theorem compact_up {l : List (List UInt8)} (hs : l.Pairwise (· ≤ ·)) : (compact l).Pairwise (· < ·) := by
  unfold compact compactUpTo
  refine List.pairwise_map.mpr ?_
  refine List.Pairwise.imp_of_mem ?_ (List.pairwise_lt_range.filter _)
  intro i j hi hj hij
  have hjl := List.mem_range.mp (List.mem_filter.mp hj).1
  have hk := (List.mem_filter.mp hj).2
  unfold keeps at hk
  have hk := of_decide_eq_true hk
  rw [get_bang hjl, get_bang (show j - 1 < l.length by omega)] at hk
  rw [get_bang hjl, get_bang (show i < l.length by omega)]
  have h1 : l[j - 1] ≤ l[j] := List.pairwise_iff_getElem.mp hs _ _ _ _ (by omega)
  have h2 : l[i] ≤ l[j - 1] := by
    by_cases e : i = j - 1
    · subst e; exact List.le_refl _
    · exact List.pairwise_iff_getElem.mp hs _ _ _ _ (by omega)
  rcases hk with h | h
  · omega
  · have h3 : l[j - 1] < l[j] := by
      rcases List.le_iff_lt_or_eq.mp h1 with h4 | h4
      · exact h4
      · exact absurd h4.symm h
    exact List.lt_of_le_of_lt h2 h3
theorem less_lt : ∀ {a b : List UInt8}, a < b → less a b = true
  | [], [], h => absurd h (List.lt_irrefl _)
  | [], b :: t, _ => rfl
  | a :: r, [], h => absurd h (by simp)
  | a :: r, b :: t, h => by
    have e : less (a :: r) (b :: t) = cnd (Nat.ble (Nat.succ a.toNat) b.toNat) true (cnd (Nat.beq a.toNat b.toNat) (less r t) false) := rfl
    rw [e, cnd_eq, cnd_eq]
    rcases List.cons_lt_cons_iff.mp h with h1 | ⟨h1, h2⟩
    · have : a.toNat < b.toNat := UInt8.lt_iff_toNat_lt.mp h1
      rw [if_pos (Nat.ble_eq.mpr this)]
    · subst h1
      rw [if_neg (by rw [Nat.ble_eq]; omega), if_pos (by simp)]
      exact less_lt h2
theorem sortS_up (l : List (List UInt8)) : (sortS l).Pairwise (· ≤ ·) := by
  have := List.pairwise_mergeSort (le := fun x y : List UInt8 => decide (x ≤ y)) (fun a b c h1 h2 => decide_eq_true (List.le_trans (of_decide_eq_true h1) (of_decide_eq_true h2))) (fun a b => by
    rcases List.le_total a b with h | h
    · simp [h]
    · simp [h]) l
  exact this.imp fun h => of_decide_eq_true h
/-- Names in order, once: just those that there are, as many as are met. -/
theorem once_mem {l : List (List UInt8)} {t : List UInt8} : t ∈ Lib.compact (sortS l) ↔ t ∈ l := by
  constructor
  · intro h; exact List.mem_mergeSort.mp (compact_sub h)
  · intro h
    have : t ∈ sortS l := List.mem_mergeSort.mpr h
    obtain ⟨j, hj, rfl⟩ := List.getElem_of_mem this
    exact compact_sup j hj
theorem once_up (l : List (List UInt8)) : (Lib.compact (sortS l)).Pairwise (· < ·) := compact_up (sortS_up l)
theorem once_len (l : List (List UInt8)) : (Lib.compact (sortS l)).length = (nmD l).length := by
  have h1 : (Lib.compact (sortS l)).Nodup := (once_up l).imp fun h e => by subst e; exact List.lt_irrefl _ h
  obtain ⟨h2, h3⟩ := nm_keys l
  have := ((List.perm_ext_iff_of_nodup h1 h2).mpr fun t => once_mem.trans (h3 t).symm).length_eq
  rw [this, List.length_map]
end
end Go.Proofs.YtonojkcnencodaaDoor.BH.Rt

end
section
namespace Go.Proofs.YtonojkcnencodaaDoor.BH
noncomputable section
section
variable {C : Ctx} {n d : Nat} {all r : List Oper} {ty : TypeId} {pos : String} {after : Array Edge} {E : Fs} {HF HR : List HI} {Q : Fs → List HI → Prop}
theorem mapUpd_runs {P : Program} {h : AHeap} {t kt et : TypeId} {o c c' : Nat} {es es' : List AEnt} {k v : AV} (hu : undOf P t = some (.map kt et)) (hx : h.get o = some (.map es c)) (hok : (keyF P kt).ok k = true) (hr : updE (keyF P kt) es c k v = some (es', c')) : (mapUpdateF P t).run h (.map (some o)) k v = some (h.set o (.map es' c')) := by
  unfold mapUpdateF
  simp only [hu, hok, cnd_true]
  show (bnd (mapAt h o) fun x => bnd (findV (keyF P kt).eq k x.1 0) fun f => ocase f _ _) = _
  rw [mapAt_of hx, bnd_some]
  unfold updE at hr
  obtain ⟨f, hf, hr⟩ := bnd_eq_some.mp hr
  simp only [hf, bnd_some]
  cases f with
  | none => cases hr; rfl
  | some q =>
    replace hr : cnd (sameKey q.2.key k) (some (setEnt es q.1 ⟨k, v, q.2.born⟩, c)) none = some (es', c') := hr
    rw [cnd_eq] at hr
    split at hr
    · rename_i hs
      cases hr
      show cnd (sameKey q.2.key k) _ _ = _
      rw [hs]; rfl
    · cases hr
theorem w_insertA {α β : Type} [DecidableEq α] {e : α → AV} {g : β → AV} {t kt et : TypeId} {x y z : Operand} {o : Nat} {D : List (α × β)} {i : α} {v : β} (hu : undOf C.P t = some (.map kt et)) (K : KeyOk C.P kt e) (hx : ev E x = some (.map (some o))) (hy : ev E y = some (e i)) (hz : ev E z = some (g v))
    (ht : Take HF (.obj o (.map (entsA e g D 0) D.length)) HR) (hk : WS C n all r E (.obj o (.map (entsA e g (putA D i v) 0) (putA D i v).length) :: HR) Q) : WS C n all (⟨none, .insert t x y z, ty, pos, after, none⟩ :: r) E HF Q :=
  ws_opX rfl (by show (2 : Nat) ≠ 0; decide) fun e' h fp h1 h2 h3 ρ w a ea he hse H => by
    obtain ⟨fp1, k1, k2⟩ := ht.sat h2
    obtain ⟨m1, m2, m3⟩ := sat_set (x' := .map (entsA e g (putA D i v) 0) (putA D i v).length) k1 h3
    have hr := mapUpd_runs (P := C.P) (h := h) hu (ht.obj h2).1 (K.ok i) (updA (g := g) K D i v)
    have q1 := opv_VR he ((hse.opv (x := x) (by simp [Op.operands])).trans (ev_opv h1 hx))
    have q2 := opv_VR he ((hse.opv (x := y) (by simp [Op.operands])).trans (ev_opv h1 hy))
    have q3 := opv_VR he ((hse.opv (x := z) (by simp [Op.operands])).trans (ev_opv h1 hz))
    obtain ⟨w', g1, g2⟩ := mapUpdate_run (P := C.P) H q1 q2 q3 hr
    refine .of (.inl ⟨.skip, Go.undef, w', ?_, rfl, .undef, ρ, _, fp1, E, _, VR.undef, g2, h1, m1, m2, m3.left k2, hk⟩)
    unfold execOp
    simp [g1]
end
end
end Go.Proofs.YtonojkcnencodaaDoor.BH

end
section
namespace Go.Proofs.YtonojkcnencodaaDoor.BH
noncomputable section
section
variable {C : Ctx} {n d : Nat} {all r : List Oper} {ty : TypeId} {pos : String} {after : Array Edge} {E : Fs} {HF : List HI} {Q : Fs → List HI → Prop}
theorem w_buildSOW {t e s m : Nat} {ps : Array (Nat × Operand)} {l : List (Nat × AV)} {z cs0 cs : List AV} (hu : undOf C.P t = some (.slice e)) (hz : szOf C.P e = some s) (hzc : zeroCells C.P e = some z) (hle : m * s ≤ 65536) (hd : Nat.blt d n = true)
    (hl : evp E ps.toList = some l) (hf : fillV (fun i => some (i * s, s)) (repl m z) l = some cs0) (hw : LeL cs0 cs) (hk : ∀ o, WS C n all r ((d, .slice (some ⟨o, 0⟩) m (.op 0)) :: E) (.obj o (.row e s false cs) :: HF) Q) :
    WS C n all (⟨some d, .buildSlice t m ps, ty, pos, after, none⟩ :: r) E HF Q :=
  ws_opX rfl (by show (2 : Nat) ≠ 0; decide) fun e' h fp h1 h2 h3 ρ w a ea he hse H => by
    have hp' : parts ea ps.toList = some l := (parts_congr fun x hx => hse.opv (x := x.2) (by
      simp only [Op.operands]
      exact List.mem_toArray.mpr (List.mem_map_of_mem (f := fun x => x.2) hx))).trans (evp_parts h1 hl)
    have hp : PartsR ρ l (ps.map fun (i, x) => (i, a.eval x)).toList := by rw [Array.toList_map]; exact parts_R he hp'
    obtain ⟨ρ', w', v', g1, g2, g3⟩ := buildSO_run (P := C.P) H hp hu hz hzc hle hf
    obtain ⟨k1, k2⟩ := sat_push h2 h3 (.row e s false cs0)
    obtain ⟨m1, m2, m3⟩ := sat_set (x' := .row e s false cs) k1 (h3.push _)
    have hx := ((Take.head : Take (.obj h.next (.row e s false cs0) :: HF) (.obj h.next (.row e s false cs0)) HF).obj k1).1
    obtain ⟨cc, y, r1, r2, r3⟩ := g3.rel.objs _ _ hx
    obtain ⟨us0, fr, rfl, q1, q2, q3⟩ := r3
    have T : Trans ρ' (h.push (.row e s false cs0)) w' ρ' ((h.push (.row e s false cs0)).set h.next (.row e s false cs)) w' := Trans.ofSet g3.rel hx rfl r1 r2 ⟨us0, fr, rfl, by rw [hw.length]; exact q1, fun i b hb => by
      obtain ⟨a0, z1, z2⟩ := hw.get hb
      obtain ⟨s1, v, s2, s3⟩ := q2 i a0 z1
      exact ⟨z2.1 s1, v, s2, z2.2 _ _ s3⟩, by rw [hw.length]; exact q3⟩ rfl (fun _ _ => rfl) rfl rfl
    refine .of (.inl ⟨.value v', v', w', ?_, rfl, _, ρ', _, _, _, _, g2, g3.trans T, h1.put d _ hd, m1, m2, k2.trans m3, hk h.next⟩)
    unfold execOp
    simp only [Sem.run_bind, g1, Result.andThen_ok]; rfl
end
end
end Go.Proofs.YtonojkcnencodaaDoor.BH

end
