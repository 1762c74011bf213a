/-
  The program walked by facts (printed by kx.py).
-/
import Derived.Test.YtlgofplbbmjdjaaGreatDoorKx6zBase
import Derived.Test.YtlgofplbbmjdjaaGreatDoorKx6zSearch
import Derived.Test.YtlgofplbbmjdjaaGreatDoorKxCp
namespace Go.Proofs.YtlgofplbbmjdjaaGreatDoor.kx
open Go Go.Proofs Go.Proofs.YtlgofplbbmjdjaaGreatDoor.BH
open Go.Proofs.YtlgofplbbmjdjaaGreatDoor.BH.Rt
open Go.Proofs.YtlgofplbbmjdjaaGreatDoor.BH.Dk (withinV withinV_in)
open Go.Proofs.YtlgofplbbmjdjaaGreatDoor.BH.Kx
set_option maxRecDepth 100000
noncomputable def serI (x : Ser) : HI := .obj x.o (.row 108 1 false [AL eSm x.l])
noncomputable def stI (o : Nat) (v : AV) (L : List Ser) : List HI := .obj o (.row 92 1 false [v]) :: .own v 104 2 (L.flatMap eOne) L.length :: L.map serI
/-- A store: what it holds. -/
noncomputable def hiS (o : Nat) (S : SS) : HI := .sep ⟨fun fp h => ∃ v L, L.map Ser.abs = S ∧ (L = [] → v = nilSlice) ∧ SatH (stI o v L) fp h, by rintro fp h h' ⟨v, L, e, e2, hh⟩ k; exact ⟨v, L, e, e2, hh.frame k⟩, by rintro fp h ⟨v, L, e, e2, hh⟩ k; exact hh.lt k⟩
theorem CallW.openS {f : FuncId} {l : List AV} {K : AV → List HI → Prop} {o : Nat} {S : SS} {R : List HI} (h : ∀ v L, L.map Ser.abs = S → (L = [] → v = nilSlice) → CallW C f l (stI o v L ++ R) K) : CallW C f l (hiS o S :: R) K := fun hh fp k1 k2 ρ w us hv H => by
  obtain ⟨own, fp', rfl, ⟨v, L, e1, e2, h1⟩, h2, h3⟩ := k1
  exact h v L e1 e2 hh (own ++ fp') (satH_append.mpr ⟨own, fp', rfl, h1, h3, h2⟩) k2 ρ w us hv H
theorem weak_closeS {o : Nat} {v : AV} {L : List Ser} {R : List HI} (hv : L = [] → v = nilSlice) : Weak (stI o v L ++ R) (hiS o (L.map Ser.abs) :: R) := fun fp h hs => by
  obtain ⟨f1, f2, rfl, h1, h2, h3⟩ := satH_append.mp hs
  exact ⟨f1 ++ f2, ⟨f1, f2, rfl, ⟨v, L, rfl, hv, h1⟩, h3, h2⟩, fun _ h => h⟩
theorem WS.openS {n : Nat} {all r : List Oper} {E : Fs} {HF HR : List HI} {Q : Fs → List HI → Prop} {o : Nat} {S : SS} (t : Take HF (hiS o S) HR) (h : ∀ v L, L.map Ser.abs = S → (L = [] → v = nilSlice) → WS C n all r E (stI o v L ++ HR) Q) : WS C n all r E HF Q := WS.pre fun e hh fp k1 k2 k3 => by
  obtain ⟨fp1, g1, g2⟩ := t.sat k2
  obtain ⟨own, fp', rfl, ⟨v, L, e1, e2, h1⟩, h2, h3⟩ := g1
  exact ⟨own ++ fp', E, _, k1, satH_append.mpr ⟨own, fp', rfl, h1, h3, h2⟩, fun o ho => (g2 o).mp ho, h v L e1 e2⟩
theorem WC.openS {n : Nat} {c : Code} {E : Fs} {HF HR : List HI} {Q : Post} {o : Nat} {S : SS} (t : Take HF (hiS o S) HR) (h : ∀ v L, L.map Ser.abs = S → (L = [] → v = nilSlice) → WC C n c E (stI o v L ++ HR) Q) : WC C n c E HF Q := WC.pre fun e hh fp k1 k2 k3 => by
  obtain ⟨fp1, g1, g2⟩ := t.sat k2
  obtain ⟨own, fp', rfl, ⟨v, L, e1, e2, h1⟩, h2, h3⟩ := g1
  exact ⟨own ++ fp', E, _, k1, satH_append.mpr ⟨own, fp', rfl, h1, h3, h2⟩, fun o ho => (g2 o).mp ho, h v L e1 e2⟩
theorem ins_in (o : Nat) (v : AV) (m : Nat) (L : List Ser) (i : Nat) (x : Ser) (h : i ≤ L.length) : Weak (.obj o (.row 92 1 false [v]) :: .own v 104 2 ((insA L i x).flatMap eOne) m :: serI x :: L.map serI) (.obj o (.row 92 1 false [v]) :: .own v 104 2 ((insA L i x).flatMap eOne) m :: (insA L i x).map serI) :=
  weak_cons _ (weak_cons _ (by unfold insA; exact weak_ins h))
theorem put_back {o ob m k : Nat} {L : List Ser} {y : Ser} {x : SM} (hy : L[k]? = some y) (hm : m = L.length) : Weak (.obj y.o (.row 108 1 false [AL eSm (addS y.l x)]) :: .obj ob (.row 104 2 false (L.flatMap eOne)) :: .obj o (.row 92 1 false [.slice (some ⟨ob, 0⟩) m (.op 0)]) :: (L.eraseIdx k).map serI) (stI o (.slice (some ⟨ob, 0⟩) m (.op 0)) (L.set k (y.add x))) := by
  subst hm
  unfold stI
  rw [Go.Proofs.YtlgofplbbmjdjaaGreatDoor.BH.Kx.one_set x hy, List.length_set]
  exact (weak_cons _ (weak_two _ _ _)).trans ((weak_two _ _ _).trans ((weak_cons _ (weak_two _ _ _)).trans (weak_cons _ ((weak_cons _ (weak_map (f := serI) (y := y.add x) hy)).trans (weak_close (flat_length (by intro _; rfl) _))))))

theorem new_fn  (R : List HI) : CallW C 10 [] ([] ++ R) fun v H => ∃ H', H = H' ++ R ∧ ∃ o, v = .ptr (some ⟨o, 0⟩) ∧ H' = [hiS o []] := by
 refine cw_sharedA (fn := Tryz.f10) rfl rfl rfl rfl (K := fun v H' => ∃ o, v = .ptr (some ⟨o, 0⟩) ∧ H' = [hiS o []]) ?_ R
 refine wc_seq ?_
 refine wc_text ?_
 refine w_assign rfl rfl ?_
 refine ws_nil ?_
 refine wc_seq ?_
 refine wc_text ?_
 refine w_build (v := .agg [_]) B92 rfl rfl rfl ?_
 refine w_box (cs := [nilSlice]) s92 rfl rfl rfl rfl rfl (fun o2 => ?_)
 refine w_assign rfl rfl ?_
 refine ws_nil ?_
 refine WC.ownNil 104 2 ?_
 refine WC.weakH (HF' := [hiS o2 []]) ((Sel.weak (.cons tk (.cons tk .nil))).trans (weak_closeS (L := []) (fun _ => rfl))) ?_
 refine wc_ret ?_
 refine ⟨_, _, (.cons (.tmp rfl) .nil), (Sel.weak .rest), ?_⟩
 exact ⟨_, rfl, rfl⟩

theorem at_in (o : Nat) (v0 : AV) (L : List Ser) (set : List LD) (hs : Sane (L.map Ser.abs)) (hset : set.length ≤ 9223372036854775807) (R : List HI) : CallW C 41 [.ptr (some ⟨o, 0⟩), AL eL set] ([.obj o (.row 92 1 false [v0]), .own v0 104 2 (L.flatMap eOne) L.length] ++ R) fun v H => ∃ H', H = H' ++ R ∧ (v = .tuple [.int .i64 (posS (L.map Ser.abs) set : Nat), .bool (hitS (L.map Ser.abs) set)] ∧ H' = [.obj o (.row 92 1 false [v0]), .own v0 104 2 (L.flatMap eOne) L.length]) := by
 refine cw_sharedA (fn := Tryz.f41) rfl rfl rfl rfl (K := fun v H' => (v = .tuple [.int .i64 (posS (L.map Ser.abs) set : Nat), .bool (hitS (L.map Ser.abs) set)] ∧ H' = [.obj o (.row 92 1 false [v0]), .own v0 104 2 (L.flatMap eOne) L.length])) ?_ R
 have hml : (L.map Ser.abs).length = L.length := List.length_map _
 have hL := hs.len
 rw [hml] at hL
 have hS : ∀ x ∈ L, x.set.length ≤ 6 := fun x hx => hs.sets x.abs (List.mem_map_of_mem hx)
 refine wc_seq ?_
 refine wc_text ?_
 refine w_assign rfl rfl ?_
 refine w_assign rfl rfl ?_
 refine ws_nil ?_
 refine wc_seq ?_
 refine wc_text ?_
 refine w_move rfl rfl ?_
 refine w_nil rfl rfl rfl ?_
 first | refine w_faddrC O92_0 rfl rfl ?_ | refine w_faddrP O92_0 rfl rfl ?_
 first | refine w_ldC1 a90 rfl rfl rdc ?_ | refine w_ldP1 a90 rfl rfl tk rdp ?_
 refine w_move rfl rfl ?_
 refine w_call rfl rfl (CallW.mono (CallW.take tk (search_fn v0 L set (by omega) hs.rise hS hset _)) ?_)
 rintro _ _ ⟨rfl, rfl⟩
 try simp only [List.cons_append, List.nil_append]
 refine w_extract rfl rfl rfl ?_
 refine w_extract rfl rfl rfl ?_
 refine w_assign rfl rfl ?_
 refine w_assign rfl rfl ?_
 refine ws_nil ?_
 refine wc_ret ?_
 refine ⟨_, [.obj o (.row 92 1 false [v0]), .own v0 104 2 (L.flatMap eOne) L.length], (.cons (.tmp rfl) (.cons (.tmp rfl) .nil)), (Sel.weak (.cons tk (.cons tk .nil))), ?_⟩
 exact ⟨rfl, rfl⟩

theorem cloneO_nil  (R : List HI) : CallW C 43 [nilSlice] ([] ++ R) fun v H => ∃ H', H = H' ++ R ∧ H' = [.own v 104 2 [] 0] := by
 refine cw_sharedA (fn := Tryz.f43) rfl rfl rfl rfl (K := fun v H' => H' = [.own v 104 2 [] 0]) ?_ R
 refine wc_seq ?_
 refine wc_text ?_
 refine w_assign rfl rfl ?_
 refine ws_nil ?_
 refine wc_seq ?_
 refine wc_seq ?_
 refine wc_text ?_
 refine w_move rfl rfl ?_
 refine w_ceql u90 (by simp) (by simp) rfl rfl rfl (cmp_sl u90 rfl rfl) ?_
 refine ws_nil ?_
 refine wc_cond rfl (fun h1 => ?_) (fun h1 => ?_)
 ·skip
  refine wc_seq ?_
  refine wc_text ?_
  refine w_assign rfl rfl ?_
  refine ws_nil ?_
  refine WC.ownNil 104 2 ?_
  refine wc_ret ?_
  refine ⟨_, _, (.cons (.tmp rfl) .nil), (Sel.weak (.cons tk .nil)), ?_⟩
  rfl
 ·skip
  cases h1

theorem cloneO_obj (o : Nat) (L : List Ser) (hL : L.length ≤ 1000) (R : List HI) : CallW C 43 [.slice (some ⟨o, 0⟩) L.length (.op 0)] ([.obj o (.row 104 2 false (L.flatMap eOne))] ++ R) fun v H => ∃ H', H = H' ++ R ∧ H' = [.own v 104 2 (L.flatMap eOne) L.length, .obj o (.row 104 2 false (L.flatMap eOne))] := by
 refine cw_sharedA (fn := Tryz.f43) rfl rfl rfl rfl (K := fun v H' => H' = [.own v 104 2 (L.flatMap eOne) L.length, .obj o (.row 104 2 false (L.flatMap eOne))]) ?_ R
 refine wc_seq ?_
 refine wc_text ?_
 refine w_assign rfl rfl ?_
 refine ws_nil ?_
 refine wc_seq ?_
 refine wc_seq ?_
 refine wc_text ?_
 refine w_move rfl rfl ?_
 refine w_ceql u90 (by simp) (by simp) rfl rfl rfl (cmp_sl u90 rfl rfl) ?_
 refine ws_nil ?_
 refine wc_cond rfl (fun h1 => ?_) (fun h1 => ?_)
 ·skip
  cases h1
 ·skip
  refine wc_stay ?_
  refine wc_seq ?_
  refine wc_text ?_
  refine w_buildS (cs := []) u90 s104 z104 (by decide) rfl rfl rfl (fun o5 => ?_)
  refine w_move rfl rfl ?_
  refine WS.ownEmpty (v := .slice (some ⟨o5, 0⟩) 0 (.exact 0)) (.inl ⟨_, rfl⟩) 104 2 ?_
  refine w_appO (enc := eOne) (l := []) (m := L) rfl u90 s104 b104 z104 u90 (by simp) rfl rfl rfl tk (new_obj tk (flat_length (by intro _; rfl) _) (flat_scalar (by intro _; rfl) _)) bg bg (fun v7 => ?_)
  refine w_assign rfl rfl ?_
  refine ws_nil ?_
  refine wc_ret ?_
  refine ⟨_, [.own _ _ _ _ _, .obj o (.row 104 2 false (L.flatMap eOne))], (.cons (.tmp rfl) .nil), (Sel.weak (.cons tk (.cons tk .nil))), ?_⟩
  rfl

theorem cloneO_fn (v0 : AV) (L : List Ser) (hL : L.length ≤ 1000) (hv0 : L = [] → v0 = nilSlice) (R : List HI) : CallW C 43 [v0] (.own v0 104 2 (L.flatMap eOne) L.length :: R) fun v H => H = .own v 104 2 (L.flatMap eOne) L.length :: .own v0 104 2 (L.flatMap eOne) L.length :: R := by
  refine CallW.openOwn .head (fun h0 _ => ?_) (fun h0 o ho => ?_)
  · obtain rfl : L = [] := List.eq_nil_of_length_eq_zero h0
    obtain rfl := hv0 rfl
    refine CallW.mono (cloneO_nil (.own nilSlice 104 2 [] 0 :: R)) ?_
    rintro v H ⟨H', rfl, rfl⟩
    rfl
  · subst ho
    refine CallW.post (cloneO_obj o L hL R) ?_
    rintro v H ⟨H', rfl, rfl⟩
    exact ⟨_, weak_cons _ (weak_close (m := L.length) (flat_length (by intro _; rfl) _)), rfl⟩

set_option maxHeartbeats 4000000 in
theorem put_in (o : Nat) (v0 : AV) (L : List Ser) (hv0 : L = [] → v0 = nilSlice) (hs : Sane (L.map Ser.abs)) (set : List LD) (x : SM) (hset : set.length ≤ 100000) (R : List HI) : CallW C 12 [.ptr (some ⟨o, 0⟩), AL eL set, .agg (eSm x)] ([.obj o (.row 92 1 false [v0]), .own v0 104 2 (L.flatMap eOne) L.length] ++ L.map serI ++ R) fun v H => ∃ H', H = H' ++ R ∧ ∃ v1 L1, H' = stI o v1 L1 ∧ L1.map Ser.abs = putSt (L.map Ser.abs) set x ∧ (L1 = [] → v1 = nilSlice) ∧ v = .int .i64 (putE (L.map Ser.abs) set x) := by
 refine cw_sharedA (fn := Tryz.f12) rfl rfl rfl rfl (K := fun v H' => ∃ v1 L1, H' = stI o v1 L1 ∧ L1.map Ser.abs = putSt (L.map Ser.abs) set x ∧ (L1 = [] → v1 = nilSlice) ∧ v = .int .i64 (putE (L.map Ser.abs) set x)) ?_ R
 simp only [List.cons_append, List.nil_append]
 have hml : (L.map Ser.abs).length = L.length := List.length_map _
 have hL := hs.len
 rw [hml] at hL
 have hS : ∀ x ∈ L, x.set.length ≤ 6 := fun x hx => hs.sets x.abs (List.mem_map_of_mem hx)
 have hpl := pos_le (L.map Ser.abs) set
 refine wc_seq ?_
 refine wc_text ?_
 refine w_box (cs := eSm x) s46 rfl rfl rfl rfl rfl (fun o5 => ?_)
 refine w_assign rfl rfl ?_
 refine ws_nil ?_
 refine WC.freezePtr (t := 5) (cs := eSm x) rfl rfl .head rfl ?_
 refine wc_seq ?_
 refine wc_seq ?_
 refine wc_text ?_
 refine w_move rfl rfl ?_
 refine w_call rfl rfl (cw_fn rfl rfl (.cons fz .nil) (rightL_fn set (by omega)) ?_)
 refine w_not rfl rfl ?_
 refine w_move rfl rfl ?_
 refine ws_split (t := 12) rfl (fun g12 => ?_) (fun g12 => ?_)
 ·first | replace g12 := dT g12 | replace g12 := dF g12 | replace g12 := dFT g12 | replace g12 := dTF g12 | replace g12 := nb_T g12 | replace g12 := nb_F g12 | skip
  first | replace g12 := nL g12 | replace g12 := nM g12 | replace g12 := nN g12 | skip
  refine ws_off rfl rfl rfl rfl ?_
  refine ws_off rfl rfl rfl rfl ?_
  refine ws_off rfl rfl rfl rfl ?_
  first | refine w_pickT rfl rfl rfl ⟨_, rfl⟩ ?_ | refine w_pickF rfl rfl ⟨_, rfl⟩ rfl ?_ | refine w_pick rfl rfl rfl rfl ?_
  refine w_move rfl rfl ?_
  refine ws_off rfl rfl rfl rfl ?_
  refine ws_off rfl rfl rfl rfl ?_
  refine ws_off rfl rfl rfl rfl ?_
  first | refine w_pickT rfl rfl rfl ⟨_, rfl⟩ ?_ | refine w_pickF rfl rfl ⟨_, rfl⟩ rfl ?_ | refine w_pick rfl rfl rfl rfl ?_
  refine ws_nil ?_
  refine wc_condT rfl ?_
  refine wc_seq ?_
  refine wc_text ?_
  refine w_assign rfl rfl ?_
  refine ws_nil ?_
  refine wc_ret ?_
  refine ⟨_, _, (.cons (.tmp rfl) .nil), (Sel.weak .rest), ?_⟩
  have hf : rightL set = false ∨ x.time < 0 ∨ 1099511627776 < x.time := by first | exact .inl g12 | exact .inr (.inl g17) | exact .inr (.inr (of_decide_eq_true h1))
  rw [(put_form hf).1, (put_form hf).2]
  exact ⟨v0, L, rfl, rfl, hv0, rfl⟩
 ·first | replace g12 := dT g12 | replace g12 := dF g12 | replace g12 := dFT g12 | replace g12 := dTF g12 | replace g12 := nb_T g12 | replace g12 := nb_F g12 | skip
  first | replace g12 := nL g12 | replace g12 := nM g12 | replace g12 := nN g12 | skip
  refine ws_on rfl rfl ?_
  first | refine w_faddrC O46_0 rfl rfl ?_ | refine w_faddrP O46_0 rfl rfl ?_
  refine ws_on rfl rfl ?_
  first | refine w_ldC1 a3 rfl rfl rdc ?_ | refine w_ldP1 a3 rfl rfl tk rdp ?_
  refine ws_on rfl rfl ?_
  refine w_lss u3 rfl rfl rfl ?_
  first | refine w_pickT rfl rfl rfl ⟨_, rfl⟩ ?_ | refine w_pickF rfl rfl ⟨_, rfl⟩ rfl ?_ | refine w_pick rfl rfl rfl rfl ?_
  refine w_move rfl rfl ?_
  refine ws_split (t := 17) rfl (fun g17 => ?_) (fun g17 => ?_)
  ·first | replace g17 := dT g17 | replace g17 := dF g17 | replace g17 := dFT g17 | replace g17 := dTF g17 | replace g17 := nb_T g17 | replace g17 := nb_F g17 | skip
   first | replace g17 := nL g17 | replace g17 := nM g17 | replace g17 := nN g17 | skip
   refine ws_off rfl rfl rfl rfl ?_
   refine ws_off rfl rfl rfl rfl ?_
   refine ws_off rfl rfl rfl rfl ?_
   first | refine w_pickT rfl rfl rfl ⟨_, rfl⟩ ?_ | refine w_pickF rfl rfl ⟨_, rfl⟩ rfl ?_ | refine w_pick rfl rfl rfl rfl ?_
   refine ws_nil ?_
   refine wc_condT rfl ?_
   refine wc_seq ?_
   refine wc_text ?_
   refine w_assign rfl rfl ?_
   refine ws_nil ?_
   refine wc_ret ?_
   refine ⟨_, _, (.cons (.tmp rfl) .nil), (Sel.weak .rest), ?_⟩
   have hf : rightL set = false ∨ x.time < 0 ∨ 1099511627776 < x.time := by first | exact .inl g12 | exact .inr (.inl g17) | exact .inr (.inr (of_decide_eq_true h1))
   rw [(put_form hf).1, (put_form hf).2]
   exact ⟨v0, L, rfl, rfl, hv0, rfl⟩
  ·first | replace g17 := dT g17 | replace g17 := dF g17 | replace g17 := dFT g17 | replace g17 := dTF g17 | replace g17 := nb_T g17 | replace g17 := nb_F g17 | skip
   first | replace g17 := nL g17 | replace g17 := nM g17 | replace g17 := nN g17 | skip
   refine ws_on rfl rfl ?_
   first | refine w_faddrC O46_0 rfl rfl ?_ | refine w_faddrP O46_0 rfl rfl ?_
   refine ws_on rfl rfl ?_
   first | refine w_ldC1 a3 rfl rfl rdc ?_ | refine w_ldP1 a3 rfl rfl tk rdp ?_
   refine ws_on rfl rfl ?_
   refine w_gtr u3 rfl rfl rfl ?_
   first | refine w_pickT rfl rfl rfl ⟨_, rfl⟩ ?_ | refine w_pickF rfl rfl ⟨_, rfl⟩ rfl ?_ | refine w_pick rfl rfl rfl rfl ?_
   refine ws_nil ?_
   refine wc_cond rfl (fun h1 => ?_) (fun h1 => ?_)
   ·skip
    refine wc_seq ?_
    refine wc_text ?_
    refine w_assign rfl rfl ?_
    refine ws_nil ?_
    refine wc_ret ?_
    refine ⟨_, _, (.cons (.tmp rfl) .nil), (Sel.weak .rest), ?_⟩
    have hf : rightL set = false ∨ x.time < 0 ∨ 1099511627776 < x.time := by first | exact .inl g12 | exact .inr (.inl g17) | exact .inr (.inr (of_decide_eq_true h1))
    rw [(put_form hf).1, (put_form hf).2]
    exact ⟨v0, L, rfl, rfl, hv0, rfl⟩
   ·skip
    refine wc_stay ?_
    refine wc_seq ?_
    refine wc_text ?_
    refine w_move rfl rfl ?_
    refine w_move rfl rfl ?_
    refine w_call rfl rfl (CallW.mono (at_in o v0 L set hs (by omega) _) ?_)
    rintro _ _ ⟨_, rfl, rfl, rfl⟩
    try simp only [List.cons_append, List.nil_append]
    refine w_move rfl rfl ?_
    refine w_extract rfl rfl rfl ?_
    refine w_extract rfl rfl rfl ?_
    refine w_assign rfl rfl ?_
    refine w_assign rfl rfl ?_
    refine ws_nil ?_
    refine wc_seq ?_
    refine wc_seq ?_
    refine wc_text ?_
    refine w_move rfl rfl ?_
    refine w_not rfl rfl ?_
    refine ws_nil ?_
    refine wc_cond rfl (fun h4 => ?_) (fun h4 => ?_)
    ·replace h4 := nb_T h4
     refine wc_seq ?_
     refine wc_seq ?_
     refine wc_text ?_
     refine w_move rfl rfl ?_
     refine w_nil rfl rfl rfl ?_
     first | refine w_faddrC O92_0 rfl rfl ?_ | refine w_faddrP O92_0 rfl rfl ?_
     first | refine w_ldC1 a90 rfl rfl rdc ?_ | refine w_ldP1 a90 rfl rfl tk rdp ?_
     first | refine w_len rfl rfl (len_lst u90) ?_ | refine w_len rfl rfl (len_slice u90) ?_ | refine w_lenO rfl u90 rfl rfl tk ?_
     refine w_eql u3 rfl rfl rfl ?_
     refine ws_nil ?_
     refine wc_cond rfl (fun h5 => ?_) (fun h5 => ?_)
     ·replace h5 := of_decide_eq_true h5
      refine wc_seq ?_
      refine wc_text ?_
      refine w_assign rfl rfl ?_
      refine ws_nil ?_
      refine wc_ret ?_
      refine ⟨_, _, (.cons (.tmp rfl) .nil), (Sel.weak .rest), ?_⟩
      have hnf := not_form g12 g17 (by have := of_decide_eq_false h1; omega)
      rw [(put_full hnf h4 (by omega)).1, (put_full hnf h4 (by omega)).2]
      exact ⟨v0, L, rfl, rfl, hv0, rfl⟩
     ·replace h5 := of_decide_eq_false h5
      refine wc_stay ?_
      refine wc_text ?_
      refine w_move rfl rfl ?_
      refine w_move rfl rfl ?_
      refine w_nil rfl rfl rfl ?_
      first | refine w_faddrC O92_0 rfl rfl ?_ | refine w_faddrP O92_0 rfl rfl ?_
      first | refine w_ldC1 a90 rfl rfl rdc ?_ | refine w_ldP1 a90 rfl rfl tk rdp ?_
      refine w_call rfl rfl (CallW.mono (CallW.take tk (cloneO_fn v0 L (by omega) hv0 _)) ?_)
      rintro v41 _ rfl
      try simp only [List.cons_append, List.nil_append]
      refine w_move rfl rfl ?_
      refine w_move rfl rfl ?_
      refine w_call rfl rfl (CallW.mono (cloneL_frz _ (by omega) _) ?_)
      rintro _ _ ⟨rfl, rfl⟩
      try simp only [List.cons_append, List.nil_append]
      refine w_build (v := .agg [_]) B108 rfl rfl rfl ?_
      refine w_box (cs := [nilSlice]) s108 rfl rfl rfl rfl rfl (fun o46 => ?_)
      refine w_build (v := .agg [_, _]) B104 rfl rfl rfl ?_
      refine w_buildS (cs := eOne ⟨set, o46, []⟩) u90 s104 z104 (by decide) rfl rfl rfl (fun o48 => ?_)
      refine w_call rfl rfl (CallW.mono (CallW.weak (Sel.weak (.cons tk (.cons tk .rest))) (ins_fn v41 L ⟨set, o46, []⟩ o48 (posS (L.map Ser.abs) set) (by omega) (by omega) _)) ?_)
      rintro v49 _ rfl
      try simp only [List.cons_append, List.nil_append]
      refine w_nil rfl rfl rfl ?_
      first | refine w_faddrC O92_0 rfl rfl ?_ | refine w_faddrP O92_0 rfl rfl ?_
      refine WS.ownCells (v := v49) tk (fun c49 s49 => ?_)
      refine w_st s90 rfl rfl rfl tk (by rw [c49]; try rfl) (by rw [c49]; simpa using s49) (by rw [c49]; rfl) ?_
      refine ws_nil ?_
      have hil := ins_len (L := L) (i := posS (L.map Ser.abs) set) (⟨set, o46, []⟩ : Ser) (by omega)
      refine WC.drop (i := .own v0 _ _ _ _) tk ?_
      refine WC.weakCells (o := o46) (cs' := [AL eSm []]) tk (.cons (nil_le false true rfl) .nil) ?_
      refine WC.weakH ((Sel.weak (.cons tk (.cons tk (.cons tk .rest)))).trans (ins_in o v49 (L.length + 1) L (posS (L.map Ser.abs) set) ⟨set, o46, []⟩ (by omega))) ?_
      refine WC.openOwn (v := v49) tk (by omega) (fun ob hob => ?_)
      subst hob
      obtain ⟨y, hy, hyl⟩ : ∃ y, (insA L (posS (L.map Ser.abs) set) ⟨set, o46, []⟩)[posS (L.map Ser.abs) set]? = some y ∧ y.l.length ≤ 200 := ⟨_, get_insA (by omega), by simp⟩
      refine WC.weakH (weak_pre [_, _] (weak_take (take_map hy))) ?_
      simp only [List.cons_append, List.nil_append]
      refine wc_seq ?_
      refine wc_free [0, 1, 3, 7, 0, 31, 63, 127, 0, 256, 1023, 2047] (by kernel_rfl) (by kernel_rfl) (fun F => ?_)
      refine wr_float F 0 rfl (by kernel_rfl) (.inl (by kernel_rfl)) ?_
      refine w_move rfl rfl ?_
      refine ws_nil ?_
      refine wr_float F 1 rfl (by kernel_rfl) (.inl (by kernel_rfl)) ?_
      refine w_nil rfl rfl rfl ?_
      refine ws_nil ?_
      refine wr_float F 2 rfl (by kernel_rfl) (.inl (by kernel_rfl)) ?_
      first | refine w_faddrC O92_0 rfl rfl ?_ | refine w_faddrP O92_0 rfl rfl ?_
      refine ws_nil ?_
      refine wr_float F 4 rfl (by kernel_rfl) (.inl (by kernel_rfl)) ?_
      refine w_move rfl rfl ?_
      refine ws_nil ?_
      refine wr_pure F 8 rfl (by kernel_rfl) rfl rfl (pf_ldC a46 s46 rfl agc) (.inl rfl) ?_
      refine wr_next F (l := [3, 9]) (by kernel_rfl) (by simp) (.cons rfl ?_ (.cons rfl ?_ (.nil)))
      ·skip
       first | refine w_ldC1 a90 rfl rfl rdc ?_ | refine w_ldP1 a90 rfl rfl tk rdp ?_
       refine ws_nil ?_
       refine wr_float F 5 rfl (by kernel_rfl) (.inl (by kernel_rfl)) ?_
       first | refine w_lidx u90 s104 rfl rfl rfl (by omega) ?_ | refine w_slidx u90 s104 rfl rfl rfl (by omega) ?_
       refine ws_nil ?_
       refine wr_float F 6 rfl (by kernel_rfl) (.inl (by kernel_rfl)) ?_
       first | refine w_faddrC O104_1 rfl rfl ?_ | refine w_faddrP O104_1 rfl rfl ?_
       refine ws_nil ?_
       refine wr_next F (l := [7, 9]) (by kernel_rfl) (by simp) (.cons rfl ?_ (.cons rfl ?_ (.nil)))
       ·skip
        first | refine w_ldC1 a102 rfl rfl rdc ?_ | refine w_ldP1 a102 rfl rfl tk rdp ?_
        refine ws_nil ?_
        refine wr_next F (l := [9]) (by kernel_rfl) (by simp) (.cons rfl ?_ (.nil))
        refine w_buildSF (cs := [x].flatMap eSm) u52 s46 z46 (by decide) rfl rfl rfl (by decide) rfl rfl ?_
        refine ws_nil ?_
        refine wr_next F (l := [10]) (by kernel_rfl) (by simp) (.cons rfl ?_ (.nil))
        refine w_call rfl rfl (CallW.mono (CallW.take tk (add_fn y.o y.l x (by omega) _)) ?_)
        rintro _ _ ⟨_, rfl, rfl, rfl⟩
        try simp only [List.cons_append, List.nil_append]
        refine ws_nil ?_
        refine wr_float F 11 rfl (by kernel_rfl) (.inl (by kernel_rfl)) ?_
        refine w_assign rfl rfl ?_
        refine ws_nil ?_
        refine wr_end F (by kernel_rfl) ?_
        first | refine WC.weakH (put_back (m := L.length) hy rfl) ?_ | refine WC.weakH (put_back (m := L.length + 1) hy hil.symm) ?_
        refine wc_ret ?_
        refine ⟨_, _, (.cons (.tmp rfl) .nil), (Sel.weak .rest), ?_⟩
        have hnf := not_form g12 g17 (by have := of_decide_eq_false h1; omega)
        first | (have hye : y = ⟨set, o46, []⟩ := (by have := get_insA (L := L) (x := (⟨set, o46, []⟩ : Ser)) (show posS (L.map Ser.abs) set ≤ L.length by omega); rw [hy] at this; cases this; rfl); subst hye; rw [(put_new hnf h4 (by omega)).1, (put_new hnf h4 (by omega)).2]; exact ⟨_, _, rfl, add_abs_new (by omega) (fun h => hnf (.inr h)), fun h => (set_ne hy h).elim, by rw [(addE_new (fun h => hnf (.inr h))).1]; rfl⟩) | (rw [(put_hit hnf h4 (map_get hy)).1, (put_hit hnf h4 (map_get hy)).2]; exact ⟨_, _, rfl, by rw [map_set]; rfl, fun h => (set_ne hy h).elim, rfl⟩)
       ·skip
        refine w_buildSF (cs := [x].flatMap eSm) u52 s46 z46 (by decide) rfl rfl rfl (by decide) rfl rfl ?_
        refine ws_nil ?_
        refine wr_next F (l := [7]) (by kernel_rfl) (by simp) (.cons rfl ?_ (.nil))
        first | refine w_ldC1 a102 rfl rfl rdc ?_ | refine w_ldP1 a102 rfl rfl tk rdp ?_
        refine ws_nil ?_
        refine wr_next F (l := [10]) (by kernel_rfl) (by simp) (.cons rfl ?_ (.nil))
        refine w_call rfl rfl (CallW.mono (CallW.take tk (add_fn y.o y.l x (by omega) _)) ?_)
        rintro _ _ ⟨_, rfl, rfl, rfl⟩
        try simp only [List.cons_append, List.nil_append]
        refine ws_nil ?_
        refine wr_float F 11 rfl (by kernel_rfl) (.inl (by kernel_rfl)) ?_
        refine w_assign rfl rfl ?_
        refine ws_nil ?_
        refine wr_end F (by kernel_rfl) ?_
        first | refine WC.weakH (put_back (m := L.length) hy rfl) ?_ | refine WC.weakH (put_back (m := L.length + 1) hy hil.symm) ?_
        refine wc_ret ?_
        refine ⟨_, _, (.cons (.tmp rfl) .nil), (Sel.weak .rest), ?_⟩
        have hnf := not_form g12 g17 (by have := of_decide_eq_false h1; omega)
        first | (have hye : y = ⟨set, o46, []⟩ := (by have := get_insA (L := L) (x := (⟨set, o46, []⟩ : Ser)) (show posS (L.map Ser.abs) set ≤ L.length by omega); rw [hy] at this; cases this; rfl); subst hye; rw [(put_new hnf h4 (by omega)).1, (put_new hnf h4 (by omega)).2]; exact ⟨_, _, rfl, add_abs_new (by omega) (fun h => hnf (.inr h)), fun h => (set_ne hy h).elim, by rw [(addE_new (fun h => hnf (.inr h))).1]; rfl⟩) | (rw [(put_hit hnf h4 (map_get hy)).1, (put_hit hnf h4 (map_get hy)).2]; exact ⟨_, _, rfl, by rw [map_set]; rfl, fun h => (set_ne hy h).elim, rfl⟩)
      ·skip
       refine w_buildSF (cs := [x].flatMap eSm) u52 s46 z46 (by decide) rfl rfl rfl (by decide) rfl rfl ?_
       refine ws_nil ?_
       refine wr_next F (l := [3]) (by kernel_rfl) (by simp) (.cons rfl ?_ (.nil))
       first | refine w_ldC1 a90 rfl rfl rdc ?_ | refine w_ldP1 a90 rfl rfl tk rdp ?_
       refine ws_nil ?_
       refine wr_float F 5 rfl (by kernel_rfl) (.inl (by kernel_rfl)) ?_
       first | refine w_lidx u90 s104 rfl rfl rfl (by omega) ?_ | refine w_slidx u90 s104 rfl rfl rfl (by omega) ?_
       refine ws_nil ?_
       refine wr_float F 6 rfl (by kernel_rfl) (.inl (by kernel_rfl)) ?_
       first | refine w_faddrC O104_1 rfl rfl ?_ | refine w_faddrP O104_1 rfl rfl ?_
       refine ws_nil ?_
       refine wr_next F (l := [7]) (by kernel_rfl) (by simp) (.cons rfl ?_ (.nil))
       first | refine w_ldC1 a102 rfl rfl rdc ?_ | refine w_ldP1 a102 rfl rfl tk rdp ?_
       refine ws_nil ?_
       refine wr_next F (l := [10]) (by kernel_rfl) (by simp) (.cons rfl ?_ (.nil))
       refine w_call rfl rfl (CallW.mono (CallW.take tk (add_fn y.o y.l x (by omega) _)) ?_)
       rintro _ _ ⟨_, rfl, rfl, rfl⟩
       try simp only [List.cons_append, List.nil_append]
       refine ws_nil ?_
       refine wr_float F 11 rfl (by kernel_rfl) (.inl (by kernel_rfl)) ?_
       refine w_assign rfl rfl ?_
       refine ws_nil ?_
       refine wr_end F (by kernel_rfl) ?_
       first | refine WC.weakH (put_back (m := L.length) hy rfl) ?_ | refine WC.weakH (put_back (m := L.length + 1) hy hil.symm) ?_
       refine wc_ret ?_
       refine ⟨_, _, (.cons (.tmp rfl) .nil), (Sel.weak .rest), ?_⟩
       have hnf := not_form g12 g17 (by have := of_decide_eq_false h1; omega)
       first | (have hye : y = ⟨set, o46, []⟩ := (by have := get_insA (L := L) (x := (⟨set, o46, []⟩ : Ser)) (show posS (L.map Ser.abs) set ≤ L.length by omega); rw [hy] at this; cases this; rfl); subst hye; rw [(put_new hnf h4 (by omega)).1, (put_new hnf h4 (by omega)).2]; exact ⟨_, _, rfl, add_abs_new (by omega) (fun h => hnf (.inr h)), fun h => (set_ne hy h).elim, by rw [(addE_new (fun h => hnf (.inr h))).1]; rfl⟩) | (rw [(put_hit hnf h4 (map_get hy)).1, (put_hit hnf h4 (map_get hy)).2]; exact ⟨_, _, rfl, by rw [map_set]; rfl, fun h => (set_ne hy h).elim, rfl⟩)
    ·replace h4 := nb_F h4
     have hplt : posS (L.map Ser.abs) set < L.length := by
       rcases Nat.lt_or_ge (posS (L.map Ser.abs) set) L.length with h | h
       · exact h
       · rw [hit_none (by omega)] at h4; cases h4
     refine WC.openOwn (v := v0) tk (by omega) (fun ob hob => ?_)
     subst hob
     obtain ⟨y, hy, hyl⟩ : ∃ y, L[posS (L.map Ser.abs) set]? = some y ∧ y.l.length ≤ 200 := by
       obtain ⟨y, hy⟩ := get_of_lt (l := L) (k := posS (L.map Ser.abs) set) hplt
       exact ⟨y, hy, hs.lens y.abs (List.mem_map_of_mem (List.mem_of_getElem? hy))⟩
     refine WC.weakH (weak_pre [_, _] (weak_take (take_map hy))) ?_
     simp only [List.cons_append, List.nil_append]
     refine wc_stay ?_
     refine wc_seq ?_
     refine wc_free [0, 1, 3, 7, 0, 31, 63, 127, 0, 256, 1023, 2047] (by kernel_rfl) (by kernel_rfl) (fun F => ?_)
     refine wr_float F 0 rfl (by kernel_rfl) (.inl (by kernel_rfl)) ?_
     refine w_move rfl rfl ?_
     refine ws_nil ?_
     refine wr_float F 1 rfl (by kernel_rfl) (.inl (by kernel_rfl)) ?_
     refine w_nil rfl rfl rfl ?_
     refine ws_nil ?_
     refine wr_float F 2 rfl (by kernel_rfl) (.inl (by kernel_rfl)) ?_
     first | refine w_faddrC O92_0 rfl rfl ?_ | refine w_faddrP O92_0 rfl rfl ?_
     refine ws_nil ?_
     refine wr_float F 4 rfl (by kernel_rfl) (.inl (by kernel_rfl)) ?_
     refine w_move rfl rfl ?_
     refine ws_nil ?_
     refine wr_pure F 8 rfl (by kernel_rfl) rfl rfl (pf_ldC a46 s46 rfl agc) (.inl rfl) ?_
     refine wr_next F (l := [3, 9]) (by kernel_rfl) (by simp) (.cons rfl ?_ (.cons rfl ?_ (.nil)))
     ·skip
      first | refine w_ldC1 a90 rfl rfl rdc ?_ | refine w_ldP1 a90 rfl rfl tk rdp ?_
      refine ws_nil ?_
      refine wr_float F 5 rfl (by kernel_rfl) (.inl (by kernel_rfl)) ?_
      first | refine w_lidx u90 s104 rfl rfl rfl (by omega) ?_ | refine w_slidx u90 s104 rfl rfl rfl (by omega) ?_
      refine ws_nil ?_
      refine wr_float F 6 rfl (by kernel_rfl) (.inl (by kernel_rfl)) ?_
      first | refine w_faddrC O104_1 rfl rfl ?_ | refine w_faddrP O104_1 rfl rfl ?_
      refine ws_nil ?_
      refine wr_next F (l := [7, 9]) (by kernel_rfl) (by simp) (.cons rfl ?_ (.cons rfl ?_ (.nil)))
      ·skip
       first | refine w_ldC1 a102 rfl rfl rdc ?_ | refine w_ldP1 a102 rfl rfl tk rdp ?_
       refine ws_nil ?_
       refine wr_next F (l := [9]) (by kernel_rfl) (by simp) (.cons rfl ?_ (.nil))
       refine w_buildSF (cs := [x].flatMap eSm) u52 s46 z46 (by decide) rfl rfl rfl (by decide) rfl rfl ?_
       refine ws_nil ?_
       refine wr_next F (l := [10]) (by kernel_rfl) (by simp) (.cons rfl ?_ (.nil))
       refine w_call rfl rfl (CallW.mono (CallW.take tk (add_fn y.o y.l x (by omega) _)) ?_)
       rintro _ _ ⟨_, rfl, rfl, rfl⟩
       try simp only [List.cons_append, List.nil_append]
       refine ws_nil ?_
       refine wr_float F 11 rfl (by kernel_rfl) (.inl (by kernel_rfl)) ?_
       refine w_assign rfl rfl ?_
       refine ws_nil ?_
       refine wr_end F (by kernel_rfl) ?_
       first | refine WC.weakH (put_back (m := L.length) hy rfl) ?_ | refine WC.weakH (put_back (m := L.length + 1) hy hil.symm) ?_
       refine wc_ret ?_
       refine ⟨_, _, (.cons (.tmp rfl) .nil), (Sel.weak .rest), ?_⟩
       have hnf := not_form g12 g17 (by have := of_decide_eq_false h1; omega)
       first | (have hye : y = ⟨set, o46, []⟩ := (by have := get_insA (L := L) (x := (⟨set, o46, []⟩ : Ser)) (show posS (L.map Ser.abs) set ≤ L.length by omega); rw [hy] at this; cases this; rfl); subst hye; rw [(put_new hnf h4 (by omega)).1, (put_new hnf h4 (by omega)).2]; exact ⟨_, _, rfl, add_abs_new (by omega) (fun h => hnf (.inr h)), fun h => (set_ne hy h).elim, by rw [(addE_new (fun h => hnf (.inr h))).1]; rfl⟩) | (rw [(put_hit hnf h4 (map_get hy)).1, (put_hit hnf h4 (map_get hy)).2]; exact ⟨_, _, rfl, by rw [map_set]; rfl, fun h => (set_ne hy h).elim, rfl⟩)
      ·skip
       refine w_buildSF (cs := [x].flatMap eSm) u52 s46 z46 (by decide) rfl rfl rfl (by decide) rfl rfl ?_
       refine ws_nil ?_
       refine wr_next F (l := [7]) (by kernel_rfl) (by simp) (.cons rfl ?_ (.nil))
       first | refine w_ldC1 a102 rfl rfl rdc ?_ | refine w_ldP1 a102 rfl rfl tk rdp ?_
       refine ws_nil ?_
       refine wr_next F (l := [10]) (by kernel_rfl) (by simp) (.cons rfl ?_ (.nil))
       refine w_call rfl rfl (CallW.mono (CallW.take tk (add_fn y.o y.l x (by omega) _)) ?_)
       rintro _ _ ⟨_, rfl, rfl, rfl⟩
       try simp only [List.cons_append, List.nil_append]
       refine ws_nil ?_
       refine wr_float F 11 rfl (by kernel_rfl) (.inl (by kernel_rfl)) ?_
       refine w_assign rfl rfl ?_
       refine ws_nil ?_
       refine wr_end F (by kernel_rfl) ?_
       first | refine WC.weakH (put_back (m := L.length) hy rfl) ?_ | refine WC.weakH (put_back (m := L.length + 1) hy hil.symm) ?_
       refine wc_ret ?_
       refine ⟨_, _, (.cons (.tmp rfl) .nil), (Sel.weak .rest), ?_⟩
       have hnf := not_form g12 g17 (by have := of_decide_eq_false h1; omega)
       first | (have hye : y = ⟨set, o46, []⟩ := (by have := get_insA (L := L) (x := (⟨set, o46, []⟩ : Ser)) (show posS (L.map Ser.abs) set ≤ L.length by omega); rw [hy] at this; cases this; rfl); subst hye; rw [(put_new hnf h4 (by omega)).1, (put_new hnf h4 (by omega)).2]; exact ⟨_, _, rfl, add_abs_new (by omega) (fun h => hnf (.inr h)), fun h => (set_ne hy h).elim, by rw [(addE_new (fun h => hnf (.inr h))).1]; rfl⟩) | (rw [(put_hit hnf h4 (map_get hy)).1, (put_hit hnf h4 (map_get hy)).2]; exact ⟨_, _, rfl, by rw [map_set]; rfl, fun h => (set_ne hy h).elim, rfl⟩)
     ·skip
      refine w_buildSF (cs := [x].flatMap eSm) u52 s46 z46 (by decide) rfl rfl rfl (by decide) rfl rfl ?_
      refine ws_nil ?_
      refine wr_next F (l := [3]) (by kernel_rfl) (by simp) (.cons rfl ?_ (.nil))
      first | refine w_ldC1 a90 rfl rfl rdc ?_ | refine w_ldP1 a90 rfl rfl tk rdp ?_
      refine ws_nil ?_
      refine wr_float F 5 rfl (by kernel_rfl) (.inl (by kernel_rfl)) ?_
      first | refine w_lidx u90 s104 rfl rfl rfl (by omega) ?_ | refine w_slidx u90 s104 rfl rfl rfl (by omega) ?_
      refine ws_nil ?_
      refine wr_float F 6 rfl (by kernel_rfl) (.inl (by kernel_rfl)) ?_
      first | refine w_faddrC O104_1 rfl rfl ?_ | refine w_faddrP O104_1 rfl rfl ?_
      refine ws_nil ?_
      refine wr_next F (l := [7]) (by kernel_rfl) (by simp) (.cons rfl ?_ (.nil))
      first | refine w_ldC1 a102 rfl rfl rdc ?_ | refine w_ldP1 a102 rfl rfl tk rdp ?_
      refine ws_nil ?_
      refine wr_next F (l := [10]) (by kernel_rfl) (by simp) (.cons rfl ?_ (.nil))
      refine w_call rfl rfl (CallW.mono (CallW.take tk (add_fn y.o y.l x (by omega) _)) ?_)
      rintro _ _ ⟨_, rfl, rfl, rfl⟩
      try simp only [List.cons_append, List.nil_append]
      refine ws_nil ?_
      refine wr_float F 11 rfl (by kernel_rfl) (.inl (by kernel_rfl)) ?_
      refine w_assign rfl rfl ?_
      refine ws_nil ?_
      refine wr_end F (by kernel_rfl) ?_
      first | refine WC.weakH (put_back (m := L.length) hy rfl) ?_ | refine WC.weakH (put_back (m := L.length + 1) hy hil.symm) ?_
      refine wc_ret ?_
      refine ⟨_, _, (.cons (.tmp rfl) .nil), (Sel.weak .rest), ?_⟩
      have hnf := not_form g12 g17 (by have := of_decide_eq_false h1; omega)
      first | (have hye : y = ⟨set, o46, []⟩ := (by have := get_insA (L := L) (x := (⟨set, o46, []⟩ : Ser)) (show posS (L.map Ser.abs) set ≤ L.length by omega); rw [hy] at this; cases this; rfl); subst hye; rw [(put_new hnf h4 (by omega)).1, (put_new hnf h4 (by omega)).2]; exact ⟨_, _, rfl, add_abs_new (by omega) (fun h => hnf (.inr h)), fun h => (set_ne hy h).elim, by rw [(addE_new (fun h => hnf (.inr h))).1]; rfl⟩) | (rw [(put_hit hnf h4 (map_get hy)).1, (put_hit hnf h4 (map_get hy)).2]; exact ⟨_, _, rfl, by rw [map_set]; rfl, fun h => (set_ne hy h).elim, rfl⟩)

theorem put_fn (o : Nat) (S : SS) (hs : Sane S) (set : List LD) (x : SM) (hset : set.length ≤ 100000) (R : List HI) : CallW C 12 [.ptr (some ⟨o, 0⟩), AL eL set, .agg (eSm x)] (hiS o S :: R) fun v H => v = .int .i64 (putE S set x) ∧ H = hiS o (putSt S set x) :: R :=
  CallW.openS fun v0 L e hv => by
    subst e
    refine CallW.post (put_in o v0 L hv hs set x hset R) ?_
    rintro v H ⟨H', rfl, v1, L1, rfl, e1, hv1, rfl⟩
    exact ⟨_, weak_closeS hv1, rfl, by rw [e1]⟩
theorem at_out (o : Nat) (v0 : AV) (L : List Ser) (A : List HI) (k ob : Nat) (x : Ser) (hx : L[k]? = some x) : Weak (serI x :: .obj ob (.row 104 2 false (L.flatMap eOne)) :: .obj o (.row 92 1 false [v0]) :: (L.eraseIdx k).map serI) (.obj o (.row 92 1 false [v0]) :: .own (.slice (some ⟨ob, 0⟩) L.length (.op 0)) 104 2 (L.flatMap eOne) L.length :: L.map serI) :=
  (weak_cons _ (weak_two _ _ _)).trans ((weak_two _ _ _).trans (weak_cons _ ((weak_two _ _ _).trans ((weak_cons _ (weak_back hx)).trans (weak_close (flat_length (by intro _; rfl) _))))))

set_option maxHeartbeats 4000000 in
theorem pick_in (o : Nat) (v0 : AV) (L : List Ser) (hv0 : L = [] → v0 = nilSlice) (hs : Sane (L.map Ser.abs)) (t look : Int) (ms : List MD) (ht : -4611686018427387904 ≤ t ∧ t ≤ 4611686018427387903) (hk : -4611686018427387904 ≤ look ∧ look ≤ 4611686018427387903) (hm : ms.length ≤ 9223372036854775807) (R : List HI) : CallW C 16 [.ptr (some ⟨o, 0⟩), .int .i64 t, .int .i64 look, AL eM ms] ([.obj o (.row 92 1 false [v0]), .own v0 104 2 (L.flatMap eOne) L.length] ++ L.map serI ++ R) fun v H => ∃ H', H = H' ++ R ∧ (v = AL eP (pickS (L.map Ser.abs) t look ms) ∧ H' = stI o v0 L) := by
 refine cw_sharedA (fn := Tryz.f16) rfl rfl rfl rfl (K := fun v H' => (v = AL eP (pickS (L.map Ser.abs) t look ms) ∧ H' = stI o v0 L)) ?_ R
 simp only [List.cons_append, List.nil_append]
 have hml : (L.map Ser.abs).length = L.length := List.length_map _
 have hL := hs.len
 rw [hml] at hL
 have hS : ∀ x ∈ L, x.set.length ≤ 6 := fun x hx => hs.sets x.abs (List.mem_map_of_mem hx)
 refine wc_seq ?_
 refine wc_text ?_
 refine w_assign rfl rfl ?_
 refine ws_nil ?_
 refine wc_seq ?_
 refine wc_text ?_
 refine w_assign rfl rfl ?_
 refine ws_nil ?_
 refine WC.ownNil 73 2 ?_
 refine wc_seq ?_
 refine wc_seq ?_
 refine wc_text ?_
 refine w_move rfl rfl ?_
 refine w_nil rfl rfl rfl ?_
 first | refine w_faddrC O92_0 rfl rfl ?_ | refine w_faddrP O92_0 rfl rfl ?_
 first | refine w_ldC1 a90 rfl rfl rdc ?_ | refine w_ldP1 a90 rfl rfl tk rdp ?_
 first | refine w_len rfl rfl (len_lst u90) ?_ | refine w_len rfl rfl (len_slice u90) ?_ | refine w_lenO rfl u90 rfl rfl tk ?_
 refine w_move rfl rfl ?_
 refine ws_nil ?_
 refine wc_block ?_
 refine wc_loop (σ := { u : Nat × AV // u.1 ≤ L.length }) (fun u => [(0, .ptr (some ⟨o, 0⟩)), (1, .int .i64 t), (2, .int .i64 look), (3, AL eM ms), (9, u.1.2), (17, v0), (18, .int .i64 (L.length : Nat)), (19, .int .i64 (u.1.1 : Nat))]) (fun u => [.own u.1.2 73 2 ((pickS ((L.map Ser.abs).take u.1.1) t look ms).flatMap eP) (pickS ((L.map Ser.abs).take u.1.1) t look ms).length, .obj o (.row 92 1 false [v0]), .own v0 104 2 (L.flatMap eOne) L.length] ++ L.map serI) (fun u => L.length - u.1.1) ?_ ⟨(0, nilSlice), Nat.zero_le _⟩ (.cons rfl (.cons rfl (.cons rfl (.cons rfl (.cons rfl (.cons rfl (.cons rfl (.cons rfl (.nil _))))))))) (Sel.weak (.cons tk (.cons tk (.cons tk .rest))))
 rintro ⟨⟨k, vk⟩, hk0⟩
 try dsimp only
 simp only at hk0
 simp only [List.cons_append, List.nil_append]
 have hpl := pick_len hs t look ms k
 refine wc_seq ?_
 refine wc_text ?_
 refine w_lss u3 rfl rfl rfl ?_
 refine ws_nil ?_
 refine wc_seq ?_
 refine wc_cond rfl (fun h3 => ?_) (fun h3 => ?_)
 ·replace h3 := of_decide_eq_true h3
  refine wc_stay ?_
  refine wc_seq ?_
  refine wc_block ?_
  refine wc_seq ?_
  refine wc_text ?_
  obtain ⟨x, hx⟩ := get_of_lt (l := L) (k := k) (by omega)
  have hxm := List.mem_of_getElem? hx
  have hx6 := hS x hxm
  have hxs : x.set.length ≤ 9223372036854775807 := by omega
  have hxl : x.l.length ≤ 200 := hs.lens x.abs (List.mem_map_of_mem hxm)
  have hxt : ∀ y ∈ x.l, 0 ≤ y.time ∧ y.time ≤ 1099511627776 := hs.times x.abs (List.mem_map_of_mem hxm)
  refine WS.openOwn (v := v0) tk (by omega) (fun ob hob => ?_)
  subst hob
  first | refine w_lidx u90 s104 rfl rfl rfl (by omega) ?_ | refine w_slidx u90 s104 rfl rfl rfl (by omega) ?_
  first | refine w_ldC a104 s104 rfl rfl agc ?_ | refine w_ldP a104 s104 rfl rfl tk agp ?_
  refine w_alloc z104 s104 rfl (fun o11 => ?_)
  refine w_st s104 rfl rfl rfl tk rfl rfl ovw ?_
  refine ws_nil ?_
  refine WC.weakH (weak_pre [_, _, _, _] (weak_take (take_map hx))) ?_
  simp only [List.cons_append, List.nil_append]
  refine wc_seq ?_
  refine wc_seq ?_
  refine wc_text ?_
  first | refine w_faddrC O104_0 rfl rfl ?_ | refine w_faddrP O104_0 rfl rfl ?_
  first | refine w_ldC1 a43 rfl rfl rdc ?_ | refine w_ldP1 a43 rfl rfl tk rdp ?_
  refine w_move rfl rfl ?_
  refine w_call rfl rfl (cw_fn rfl rfl (.cons fz (.cons fz .nil)) (all_fn _ _ (by assumption) (by assumption)) ?_)
  refine w_not rfl rfl ?_
  refine ws_nil ?_
  refine wc_cond rfl (fun h5 => ?_) (fun h5 => ?_)
  ·replace h5 := nb_T h5
   refine wc_exit ?_
   refine wc_text ?_
   refine WS.drop (i := .obj o11 _) tk ?_
   refine WS.weakH ((Sel.weak (.cons tk (.cons tk (.cons tk (.cons (i := .own _ 73 _ _ _) tk .rest))))).trans ((weak_take (.tail (.tail (.tail .head)))).trans (weak_cons _ (at_out o _ L [] k ob x hx)))) ?_
   first | rw [pick_not (map_get hx) h5] | rw [pick_none (map_get hx) h5 h7] | rw [pick_one (map_get hx) h5 h7]
   refine w_add u3 rfl rfl rfl (by omega) ?_
   refine w_move rfl rfl ?_
   refine ws_nil ?_
   exact ⟨⟨(k + 1, vk), (by omega : k + 1 ≤ L.length)⟩, by simp only; omega, (.cons rfl (.cons rfl (.cons rfl (.cons rfl (.cons rfl (.cons rfl (.cons rfl (.cons rfl (.nil _))))))))), (Sel.weak (.cons tk (.cons tk (.cons tk .rest))))⟩
  ·replace h5 := nb_F h5
   refine wc_stay ?_
   refine wc_seq ?_
   refine wc_text ?_
   first | refine w_faddrC O104_1 rfl rfl ?_ | refine w_faddrP O104_1 rfl rfl ?_
   first | refine w_ldC1 a102 rfl rfl rdc ?_ | refine w_ldP1 a102 rfl rfl tk rdp ?_
   refine w_move rfl rfl ?_
   refine w_move rfl rfl ?_
   refine w_call rfl rfl (CallW.mono (CallW.take tk (at_fn x.o x.l t look (by omega) ht hk _)) ?_)
   rintro _ _ ⟨_, rfl, rfl, rfl⟩
   try simp only [List.cons_append, List.nil_append]
   refine w_move rfl rfl ?_
   refine w_extract rfl rfl rfl ?_
   refine w_extract rfl rfl rfl ?_
   refine w_assign rfl rfl ?_
   refine w_assign rfl rfl ?_
   refine ws_nil ?_
   refine wc_seq ?_
   refine wc_text ?_
   refine w_move rfl rfl ?_
   refine ws_nil ?_
   refine wc_cond rfl (fun h7 => ?_) (fun h7 => ?_)
   ·skip
    refine wc_text ?_
    refine w_move rfl rfl ?_
    first | refine w_faddrC O104_0 rfl rfl ?_ | refine w_faddrP O104_0 rfl rfl ?_
    first | refine w_ldC1 a43 rfl rfl rdc ?_ | refine w_ldP1 a43 rfl rfl tk rdp ?_
    refine w_call rfl rfl (CallW.mono (cloneL_frz _ (by omega) _) ?_)
    rintro _ _ ⟨rfl, rfl⟩
    try simp only [List.cons_append, List.nil_append]
    refine w_move rfl rfl ?_
    refine w_build (v := .agg [_, _]) B73 rfl rfl rfl ?_
    refine w_buildSF (cs := [⟨x.set, (atV x.l t look).1⟩].flatMap eP) u36 s73 z73 (by decide) rfl rfl rfl (by decide) rfl rfl ?_
    refine w_appO (enc := eP) (l := pickS ((L.map Ser.abs).take k) t look ms) (m := [⟨x.set, (atV x.l t look).1⟩]) rfl u36 s73 b73 z73 u36 (by simp) rfl rfl rfl tk nw bg bg (fun v44 => ?_)
    refine w_assign rfl rfl ?_
    refine ws_nil ?_
    refine wc_text ?_
    refine WS.drop (i := .obj o11 _) tk ?_
    refine WS.weakH ((Sel.weak (.cons tk (.cons tk (.cons tk (.cons (i := .own _ 73 _ _ _) tk .rest))))).trans ((weak_take (.tail (.tail (.tail .head)))).trans (weak_cons _ (at_out o _ L [] k ob x hx)))) ?_
    first | rw [pick_not (map_get hx) h5] | rw [pick_none (map_get hx) h5 h7] | rw [pick_one (map_get hx) h5 h7]
    refine w_add u3 rfl rfl rfl (by omega) ?_
    refine w_move rfl rfl ?_
    refine ws_nil ?_
    exact ⟨⟨(k + 1, v44), (by omega : k + 1 ≤ L.length)⟩, by simp only; omega, (.cons rfl (.cons rfl (.cons rfl (.cons rfl (.cons rfl (.cons rfl (.cons rfl (.cons rfl (.nil _))))))))), (Sel.weak (.cons tk (.cons tk (.cons tk .rest))))⟩
   ·skip
    refine wc_stay ?_
    refine wc_text ?_
    refine WS.drop (i := .obj o11 _) tk ?_
    refine WS.weakH ((Sel.weak (.cons tk (.cons tk (.cons tk (.cons (i := .own _ 73 _ _ _) tk .rest))))).trans ((weak_take (.tail (.tail (.tail .head)))).trans (weak_cons _ (at_out o _ L [] k ob x hx)))) ?_
    first | rw [pick_not (map_get hx) h5] | rw [pick_none (map_get hx) h5 h7] | rw [pick_one (map_get hx) h5 h7]
    refine w_add u3 rfl rfl rfl (by omega) ?_
    refine w_move rfl rfl ?_
    refine ws_nil ?_
    exact ⟨⟨(k + 1, vk), (by omega : k + 1 ≤ L.length)⟩, by simp only; omega, (.cons rfl (.cons rfl (.cons rfl (.cons rfl (.cons rfl (.cons rfl (.cons rfl (.cons rfl (.nil _))))))))), (Sel.weak (.cons tk (.cons tk (.cons tk .rest))))⟩
 ·replace h3 := of_decide_eq_false h3
  obtain rfl : k = L.length := by omega
  rw [show (L.map Ser.abs).take L.length = L.map Ser.abs from List.take_of_length_le (by omega)]
  refine wc_exit ?_
  refine wc_seq ?_
  refine wc_text ?_
  refine w_move rfl rfl ?_
  refine w_assign rfl rfl ?_
  refine ws_nil ?_
  refine WC.freeze (t := 8) (v' := AL eP (pickS (L.map Ser.abs) t look ms)) rfl rfl (.ownK rfl tk (flat_done (by intro _; rfl) _)) rfl ?_
  refine wc_ret ?_
  refine ⟨_, _, (.cons (.tmp rfl) .nil), (Sel.weak .rest), ?_⟩
  exact ⟨rfl, rfl⟩

theorem pick_fn (o : Nat) (S : SS) (hs : Sane S) (t look : Int) (ms : List MD) (ht : -4611686018427387904 ≤ t ∧ t ≤ 4611686018427387903) (hk : -4611686018427387904 ≤ look ∧ look ≤ 4611686018427387903) (hm : ms.length ≤ 9223372036854775807) (R : List HI) : CallW C 16 [.ptr (some ⟨o, 0⟩), .int .i64 t, .int .i64 look, AL eM ms] (hiS o S :: R) fun v H => v = AL eP (pickS S t look ms) ∧ H = hiS o S :: R :=
  CallW.openS fun v0 L e hv => by
    subst e
    refine CallW.post (pick_in o v0 L hv hs t look ms ht hk hm R) ?_
    rintro v H ⟨H', rfl, rfl, rfl⟩
    exact ⟨_, weak_closeS hv, rfl, rfl⟩

set_option maxHeartbeats 4000000 in
theorem changes_in (o : Nat) (v0 : AV) (L : List Ser) (hv0 : L = [] → v0 = nilSlice) (hs : Sane (L.map Ser.abs)) (look fm to : Int) (ms : List MD) (hk : -4611686018427387904 ≤ look ∧ look ≤ 4611686018427387903) (hm : ms.length ≤ 9223372036854775807) (R : List HI) : CallW C 14 [.ptr (some ⟨o, 0⟩), .int .i64 look, .int .i64 fm, .int .i64 to, AL eM ms] ([.obj o (.row 92 1 false [v0]), .own v0 104 2 (L.flatMap eOne) L.length] ++ L.map serI ++ R) fun v H => ∃ H', H = H' ++ R ∧ (v = AL eI (chgS (L.map Ser.abs) look fm to ms) ∧ H' = stI o v0 L) := by
 refine cw_sharedA (fn := Tryz.f14) rfl rfl rfl rfl (K := fun v H' => (v = AL eI (chgS (L.map Ser.abs) look fm to ms) ∧ H' = stI o v0 L)) ?_ R
 simp only [List.cons_append, List.nil_append]
 have hml : (L.map Ser.abs).length = L.length := List.length_map _
 have hL := hs.len
 rw [hml] at hL
 have hS : ∀ x ∈ L, x.set.length ≤ 6 := fun x hx => hs.sets x.abs (List.mem_map_of_mem hx)
 refine wc_seq ?_
 refine wc_text ?_
 refine w_assign rfl rfl ?_
 refine ws_nil ?_
 refine wc_seq ?_
 refine wc_text ?_
 refine w_assign rfl rfl ?_
 refine ws_nil ?_
 refine WC.ownNil 3 1 ?_
 refine wc_seq ?_
 refine wc_seq ?_
 refine wc_text ?_
 refine w_move rfl rfl ?_
 refine w_nil rfl rfl rfl ?_
 first | refine w_faddrC O92_0 rfl rfl ?_ | refine w_faddrP O92_0 rfl rfl ?_
 first | refine w_ldC1 a90 rfl rfl rdc ?_ | refine w_ldP1 a90 rfl rfl tk rdp ?_
 first | refine w_len rfl rfl (len_lst u90) ?_ | refine w_len rfl rfl (len_slice u90) ?_ | refine w_lenO rfl u90 rfl rfl tk ?_
 refine w_move rfl rfl ?_
 refine ws_nil ?_
 refine wc_block ?_
 refine wc_loop (σ := { u : Nat × AV // u.1 ≤ L.length }) (fun u => [(0, .ptr (some ⟨o, 0⟩)), (1, .int .i64 look), (2, .int .i64 fm), (3, .int .i64 to), (4, AL eM ms), (11, u.1.2), (17, v0), (18, .int .i64 (L.length : Nat)), (19, .int .i64 (u.1.1 : Nat))]) (fun u => [.own u.1.2 3 1 ((chgR ((L.map Ser.abs).take u.1.1) look fm to ms).flatMap eI) (chgR ((L.map Ser.abs).take u.1.1) look fm to ms).length, .obj o (.row 92 1 false [v0]), .own v0 104 2 (L.flatMap eOne) L.length] ++ L.map serI) (fun u => L.length - u.1.1) ?_ ⟨(0, nilSlice), Nat.zero_le _⟩ (.cons rfl (.cons rfl (.cons rfl (.cons rfl (.cons rfl (.cons rfl (.cons rfl (.cons rfl (.cons rfl (.nil _)))))))))) (Sel.weak (.cons tk (.cons tk (.cons tk .rest))))
 rintro ⟨⟨k, vk⟩, hk0⟩
 try dsimp only
 simp only at hk0
 simp only [List.cons_append, List.nil_append]
 have hpl := chg_len hs look fm to ms k
 refine wc_seq ?_
 refine wc_text ?_
 refine w_lss u3 rfl rfl rfl ?_
 refine ws_nil ?_
 refine wc_seq ?_
 refine wc_cond rfl (fun h3 => ?_) (fun h3 => ?_)
 ·replace h3 := of_decide_eq_true h3
  refine wc_stay ?_
  refine wc_seq ?_
  refine wc_block ?_
  refine wc_seq ?_
  refine wc_text ?_
  obtain ⟨x, hx⟩ := get_of_lt (l := L) (k := k) (by omega)
  have hxm := List.mem_of_getElem? hx
  have hx6 := hS x hxm
  have hxs : x.set.length ≤ 9223372036854775807 := by omega
  have hxl : x.l.length ≤ 200 := hs.lens x.abs (List.mem_map_of_mem hxm)
  have hxt : ∀ y ∈ x.l, 0 ≤ y.time ∧ y.time ≤ 1099511627776 := hs.times x.abs (List.mem_map_of_mem hxm)
  refine WS.openOwn (v := v0) tk (by omega) (fun ob hob => ?_)
  subst hob
  first | refine w_lidx u90 s104 rfl rfl rfl (by omega) ?_ | refine w_slidx u90 s104 rfl rfl rfl (by omega) ?_
  first | refine w_ldC a104 s104 rfl rfl agc ?_ | refine w_ldP a104 s104 rfl rfl tk agp ?_
  refine w_alloc z104 s104 rfl (fun o13 => ?_)
  refine w_st s104 rfl rfl rfl tk rfl rfl ovw ?_
  refine ws_nil ?_
  refine WC.weakH (weak_pre [_, _, _, _] (weak_take (take_map hx))) ?_
  simp only [List.cons_append, List.nil_append]
  refine wc_seq ?_
  refine wc_text ?_
  first | refine w_faddrC O104_0 rfl rfl ?_ | refine w_faddrP O104_0 rfl rfl ?_
  first | refine w_ldC1 a43 rfl rfl rdc ?_ | refine w_ldP1 a43 rfl rfl tk rdp ?_
  refine w_move rfl rfl ?_
  refine w_call rfl rfl (cw_fn rfl rfl (.cons fz (.cons fz .nil)) (all_fn _ _ (by assumption) (by assumption)) ?_)
  refine ws_nil ?_
  refine wc_cond rfl (fun h5 => ?_) (fun h5 => ?_)
  ·skip
   refine wc_text ?_
   have hvl := chV_len x.l look fm to
   refine w_move rfl rfl ?_
   first | refine w_faddrC O104_1 rfl rfl ?_ | refine w_faddrP O104_1 rfl rfl ?_
   first | refine w_ldC1 a102 rfl rfl rdc ?_ | refine w_ldP1 a102 rfl rfl tk rdp ?_
   refine w_move rfl rfl ?_
   refine w_move rfl rfl ?_
   refine w_move rfl rfl ?_
   refine w_call rfl rfl (CallW.mono (CallW.take tk (chg_fn x.o x.l look fm to (by omega) hxt hk _)) ?_)
   rintro _ _ ⟨_, rfl, rfl, rfl⟩
   try simp only [List.cons_append, List.nil_append]
   refine w_appO (enc := eI) (l := chgR ((L.map Ser.abs).take k) look fm to ms) (m := chV x.l look fm to) rfl u33 s3 b3 z3 u33 (by simp) rfl rfl rfl tk nw bg bg (fun v34 => ?_)
   refine w_assign rfl rfl ?_
   refine ws_nil ?_
   refine wc_text ?_
   refine WS.drop (i := .obj o13 _) tk ?_
   refine WS.weakH ((Sel.weak (.cons tk (.cons tk (.cons tk (.cons (i := .own _ 3 _ _ _) tk .rest))))).trans ((weak_take (.tail (.tail (.tail .head)))).trans (weak_cons _ (at_out o _ L [] k ob x hx)))) ?_
   first | rw [chg_not (map_get hx) h5] | rw [chg_one (map_get hx) h5]
   refine w_add u3 rfl rfl rfl (by omega) ?_
   refine w_move rfl rfl ?_
   refine ws_nil ?_
   exact ⟨⟨(k + 1, v34), (by omega : k + 1 ≤ L.length)⟩, by simp only; omega, (.cons rfl (.cons rfl (.cons rfl (.cons rfl (.cons rfl (.cons rfl (.cons rfl (.cons rfl (.cons rfl (.nil _)))))))))), (Sel.weak (.cons tk (.cons tk (.cons tk .rest))))⟩
  ·skip
   refine wc_stay ?_
   refine wc_text ?_
   refine WS.drop (i := .obj o13 _) tk ?_
   refine WS.weakH ((Sel.weak (.cons tk (.cons tk (.cons tk (.cons (i := .own _ 3 _ _ _) tk .rest))))).trans ((weak_take (.tail (.tail (.tail .head)))).trans (weak_cons _ (at_out o _ L [] k ob x hx)))) ?_
   first | rw [chg_not (map_get hx) h5] | rw [chg_one (map_get hx) h5]
   refine w_add u3 rfl rfl rfl (by omega) ?_
   refine w_move rfl rfl ?_
   refine ws_nil ?_
   exact ⟨⟨(k + 1, vk), (by omega : k + 1 ≤ L.length)⟩, by simp only; omega, (.cons rfl (.cons rfl (.cons rfl (.cons rfl (.cons rfl (.cons rfl (.cons rfl (.cons rfl (.cons rfl (.nil _)))))))))), (Sel.weak (.cons tk (.cons tk (.cons tk .rest))))⟩
 ·replace h3 := of_decide_eq_false h3
  obtain rfl : k = L.length := by omega
  rw [show (L.map Ser.abs).take L.length = L.map Ser.abs from List.take_of_length_le (by omega)] at hpl ⊢
  refine wc_exit ?_
  refine wc_seq ?_
  refine wc_text ?_
  refine w_move rfl rfl ?_
  refine w_call rfl rfl (CallW.mono (CallW.take tk (sortI_fn (v := vk) (l := chgR (L.map Ser.abs) look fm to ms) (by omega))) ?_)
  rintro _ _ ⟨rfl, rfl⟩
  try simp only [List.cons_append, List.nil_append]
  refine ws_nil ?_
  refine wc_seq ?_
  refine wc_text ?_
  refine w_move rfl rfl ?_
  refine w_call rfl rfl (CallW.mono (CallW.take tk (compactI_fn (v := vk) (l := sortI (chgR (L.map Ser.abs) look fm to ms)) (by rw [sortI_len]; omega))) ?_)
  rintro v39 _ rfl
  try simp only [List.cons_append, List.nil_append]
  refine w_assign rfl rfl ?_
  refine ws_nil ?_
  refine WC.freeze (t := 10) (v' := AL eI (chgS (L.map Ser.abs) look fm to ms)) rfl rfl (.ownK rfl tk (flat_done (by intro _; rfl) _)) rfl ?_
  refine wc_ret ?_
  refine ⟨_, _, (.cons (.tmp rfl) .nil), (Sel.weak .rest), ?_⟩
  exact ⟨rfl, rfl⟩

theorem changes_fn (o : Nat) (S : SS) (hs : Sane S) (look fm to : Int) (ms : List MD) (hk : -4611686018427387904 ≤ look ∧ look ≤ 4611686018427387903) (hm : ms.length ≤ 9223372036854775807) (R : List HI) : CallW C 14 [.ptr (some ⟨o, 0⟩), .int .i64 look, .int .i64 fm, .int .i64 to, AL eM ms] (hiS o S :: R) fun v H => v = AL eI (chgS S look fm to ms) ∧ H = hiS o S :: R :=
  CallW.openS fun v0 L e hv => by
    subst e
    refine CallW.post (changes_in o v0 L hv hs look fm to ms hk hm R) ?_
    rintro v H ⟨H', rfl, rfl, rfl⟩
    exact ⟨_, weak_closeS hv, rfl, rfl⟩

set_option maxHeartbeats 4000000 in
theorem sets_in (o : Nat) (v0 : AV) (L : List Ser) (hv0 : L = [] → v0 = nilSlice) (hs : Sane (L.map Ser.abs)) (R : List HI) : CallW C 18 [.ptr (some ⟨o, 0⟩)] ([.obj o (.row 92 1 false [v0]), .own v0 104 2 (L.flatMap eOne) L.length] ++ L.map serI ++ R) fun v H => ∃ H', H = H' ++ R ∧ (v = AL eLs ((L.map Ser.abs).map fun x => x.1) ∧ H' = stI o v0 L) := by
 refine cw_sharedA (fn := Tryz.f18) rfl rfl rfl rfl (K := fun v H' => (v = AL eLs ((L.map Ser.abs).map fun x => x.1) ∧ H' = stI o v0 L)) ?_ R
 simp only [List.cons_append, List.nil_append]
 have hml : (L.map Ser.abs).length = L.length := List.length_map _
 have hL := hs.len
 rw [hml] at hL
 have hS : ∀ x ∈ L, x.set.length ≤ 6 := fun x hx => hs.sets x.abs (List.mem_map_of_mem hx)
 refine wc_seq ?_
 refine wc_text ?_
 refine w_assign rfl rfl ?_
 refine ws_nil ?_
 refine wc_seq ?_
 refine wc_text ?_
 refine w_assign rfl rfl ?_
 refine ws_nil ?_
 refine WC.ownNil 43 1 ?_
 refine wc_seq ?_
 refine wc_seq ?_
 refine wc_text ?_
 refine w_move rfl rfl ?_
 refine w_nil rfl rfl rfl ?_
 first | refine w_faddrC O92_0 rfl rfl ?_ | refine w_faddrP O92_0 rfl rfl ?_
 first | refine w_ldC1 a90 rfl rfl rdc ?_ | refine w_ldP1 a90 rfl rfl tk rdp ?_
 first | refine w_len rfl rfl (len_lst u90) ?_ | refine w_len rfl rfl (len_slice u90) ?_ | refine w_lenO rfl u90 rfl rfl tk ?_
 refine w_move rfl rfl ?_
 refine ws_nil ?_
 refine wc_block ?_
 refine wc_loop (σ := { u : Nat × AV // u.1 ≤ L.length }) (fun u => [(0, .ptr (some ⟨o, 0⟩)), (3, u.1.2), (9, v0), (10, .int .i64 (L.length : Nat)), (11, .int .i64 (u.1.1 : Nat))]) (fun u => [.own u.1.2 43 1 ((((L.map Ser.abs).take u.1.1).map (fun x => x.1)).flatMap eLs) (((L.map Ser.abs).take u.1.1).map (fun x => x.1)).length, .obj o (.row 92 1 false [v0]), .own v0 104 2 (L.flatMap eOne) L.length] ++ L.map serI) (fun u => L.length - u.1.1) ?_ ⟨(0, nilSlice), Nat.zero_le _⟩ (.cons rfl (.cons rfl (.cons rfl (.cons rfl (.cons rfl (.nil _)))))) (Sel.weak (.cons tk (.cons tk (.cons tk .rest))))
 rintro ⟨⟨k, vk⟩, hk0⟩
 try dsimp only
 simp only at hk0
 simp only [List.cons_append, List.nil_append]
 have hpl : (((L.map Ser.abs).take k).map (fun x => x.1)).length ≤ 32 := by rw [List.length_map, List.length_take]; omega
 refine wc_seq ?_
 refine wc_text ?_
 refine w_lss u3 rfl rfl rfl ?_
 refine ws_nil ?_
 refine wc_seq ?_
 refine wc_cond rfl (fun h3 => ?_) (fun h3 => ?_)
 ·replace h3 := of_decide_eq_true h3
  refine wc_stay ?_
  refine wc_seq ?_
  refine wc_block ?_
  refine wc_seq ?_
  refine wc_text ?_
  obtain ⟨x, hx⟩ := get_of_lt (l := L) (k := k) (by omega)
  have hxm := List.mem_of_getElem? hx
  have hx6 := hS x hxm
  have hxs : x.set.length ≤ 9223372036854775807 := by omega
  have hxl : x.l.length ≤ 200 := hs.lens x.abs (List.mem_map_of_mem hxm)
  have hxt : ∀ y ∈ x.l, 0 ≤ y.time ∧ y.time ≤ 1099511627776 := hs.times x.abs (List.mem_map_of_mem hxm)
  refine WS.openOwn (v := v0) tk (by omega) (fun ob hob => ?_)
  subst hob
  first | refine w_lidx u90 s104 rfl rfl rfl (by omega) ?_ | refine w_slidx u90 s104 rfl rfl rfl (by omega) ?_
  first | refine w_ldC a104 s104 rfl rfl agc ?_ | refine w_ldP a104 s104 rfl rfl tk agp ?_
  refine w_alloc z104 s104 rfl (fun o5 => ?_)
  refine w_st s104 rfl rfl rfl tk rfl rfl ovw ?_
  refine ws_nil ?_
  refine WC.weakH (weak_pre [_, _, _, _] (weak_take (take_map hx))) ?_
  simp only [List.cons_append, List.nil_append]
  refine wc_text ?_
  refine w_move rfl rfl ?_
  first | refine w_faddrC O104_0 rfl rfl ?_ | refine w_faddrP O104_0 rfl rfl ?_
  first | refine w_ldC1 a43 rfl rfl rdc ?_ | refine w_ldP1 a43 rfl rfl tk rdp ?_
  refine w_call rfl rfl (CallW.mono (cloneL_frz _ (by omega) _) ?_)
  rintro _ _ ⟨rfl, rfl⟩
  try simp only [List.cons_append, List.nil_append]
  refine w_buildSF (cs := [x.set].flatMap eLs) u49 s43 z43 (by decide) rfl rfl rfl (by decide) rfl rfl ?_
  refine w_appO (enc := eLs) (l := ((L.map Ser.abs).take k).map (fun x => x.1)) (m := [x.set]) rfl u49 s43 b43 z43 u49 (by simp) rfl rfl rfl tk nw bg bg (fun v20 => ?_)
  refine w_assign rfl rfl ?_
  refine ws_nil ?_
  refine wc_text ?_
  refine WS.drop (i := .obj o5 _) tk ?_
  refine WS.weakH ((Sel.weak (.cons tk (.cons tk (.cons tk (.cons (i := .own _ 43 _ _ _) tk .rest))))).trans ((weak_take (.tail (.tail (.tail .head)))).trans (weak_cons _ (at_out o _ L [] k ob x hx)))) ?_
  rw [sets_one (map_get hx)]
  refine w_add u3 rfl rfl rfl (by omega) ?_
  refine w_move rfl rfl ?_
  refine ws_nil ?_
  exact ⟨⟨(k + 1, v20), (by omega : k + 1 ≤ L.length)⟩, by simp only; omega, (.cons rfl (.cons rfl (.cons rfl (.cons rfl (.cons rfl (.nil _)))))), (Sel.weak (.cons tk (.cons tk (.cons tk .rest))))⟩
 ·replace h3 := of_decide_eq_false h3
  obtain rfl : k = L.length := by omega
  rw [show (L.map Ser.abs).take L.length = L.map Ser.abs from List.take_of_length_le (by omega)]
  refine wc_exit ?_
  refine wc_seq ?_
  refine wc_text ?_
  refine w_move rfl rfl ?_
  refine w_assign rfl rfl ?_
  refine ws_nil ?_
  refine WC.freeze (t := 2) (v' := AL eLs ((L.map Ser.abs).map fun x => x.1)) rfl rfl (.ownK rfl tk (flat_done (by intro _; rfl) _)) rfl ?_
  refine wc_ret ?_
  refine ⟨_, _, (.cons (.tmp rfl) .nil), (Sel.weak .rest), ?_⟩
  exact ⟨rfl, rfl⟩

theorem sets_fn (o : Nat) (S : SS) (hs : Sane S) (R : List HI) : CallW C 18 [.ptr (some ⟨o, 0⟩)] (hiS o S :: R) fun v H => v = AL eLs (S.map fun x => x.1) ∧ H = hiS o S :: R :=
  CallW.openS fun v0 L e hv => by
    subst e
    refine CallW.post (sets_in o v0 L hv hs R) ?_
    rintro v H ⟨H', rfl, rfl, rfl⟩
    exact ⟨_, weak_closeS hv, rfl, rfl⟩
end Go.Proofs.YtlgofplbbmjdjaaGreatDoor.kx
namespace Go.Proofs.YtlgofplbbmjdjaaGreatDoor.kx
open Go Go.Proofs Go.Proofs.YtlgofplbbmjdjaaGreatDoor.BH
open Go.Proofs.YtlgofplbbmjdjaaGreatDoor.BH.Rt
open Go.Proofs.YtlgofplbbmjdjaaGreatDoor.BH.Dk (withinV withinV_in)
open Go.Proofs.YtlgofplbbmjdjaaGreatDoor.BH.Kx
set_option maxRecDepth 100000
set_option maxHeartbeats 4000000 in
theorem runs_law  : PFn C 17 [] (.bool true) := by
 refine fn_view rfl rfl (fn := Tryz.f17) rfl rfl rfl rfl rfl ?_
 refine wc_seq ?_
 refine wc_text ?_
 refine w_assign rfl rfl ?_
 refine ws_nil ?_
 refine wc_seq ?_
 refine wc_text ?_
 refine w_call rfl rfl (CallW.mono (new_fn _) ?_)
 rintro v4 _ ⟨_, rfl, o1, rfl, rfl⟩
 try simp only [List.cons_append, List.nil_append]
 refine w_assign rfl rfl ?_
 refine ws_nil ?_
 refine wc_seq ?_
 refine wc_text ?_
 refine w_build (v := .agg [_, _]) B42 rfl rfl rfl ?_
 refine w_buildSF (cs := [laX].flatMap eL) u43 s42 z42 (by decide) rfl rfl rfl (by decide) rfl rfl ?_
 refine w_assign rfl rfl ?_
 refine ws_nil ?_
 refine wc_seq ?_
 refine wc_seq ?_
 refine wc_text ?_
 refine w_move rfl rfl ?_
 refine w_ceql u27 (by simp) (by simp) rfl rfl rfl (cmp_ptr u27 rfl rfl) ?_
 refine w_move rfl rfl ?_
 refine ws_split (t := 9) rfl (fun g9 => ?_) (fun g9 => ?_)
 ·first | replace g9 := dT g9 | replace g9 := dF g9 | replace g9 := dFT g9 | replace g9 := dTF g9 | replace g9 := nb_T g9 | replace g9 := nb_F g9 | skip
  first | replace g9 := nL g9 | replace g9 := nM g9 | replace g9 := nN g9 | skip
  first | (exact absurd g9 (by decide)) | (simp at g9)
 ·first | replace g9 := dT g9 | replace g9 := dF g9 | replace g9 := dFT g9 | replace g9 := dTF g9 | replace g9 := nb_T g9 | replace g9 := nb_F g9 | skip
  first | replace g9 := nL g9 | replace g9 := nM g9 | replace g9 := nN g9 | skip
  refine ws_on rfl rfl ?_
  refine w_move rfl rfl ?_
  refine ws_on rfl rfl ?_
  refine w_move rfl rfl ?_
  refine ws_on rfl rfl ?_
  refine w_build (v := .agg [_, _]) B46 rfl rfl rfl ?_
  refine ws_on rfl rfl ?_
  refine w_call rfl rfl (CallW.mono (CallW.take tk (put_fn o1 [] sane_nil [laX] ⟨10, 5⟩ (by decide) _)) ?_)
  rintro _ _ ⟨rfl, rfl⟩
  rw [runE1]
  try simp only [List.cons_append, List.nil_append]
  refine ws_on rfl rfl ?_
  refine w_neq u44 rfl rfl rfl ?_
  first | refine w_pickT rfl rfl rfl ⟨_, rfl⟩ ?_ | refine w_pickF rfl rfl ⟨_, rfl⟩ rfl ?_ | refine w_pick rfl rfl rfl rfl ?_
  refine w_move rfl rfl ?_
  refine ws_split (t := 16) rfl (fun g16 => ?_) (fun g16 => ?_)
  ·first | replace g16 := dT g16 | replace g16 := dF g16 | replace g16 := dFT g16 | replace g16 := dTF g16 | replace g16 := nb_T g16 | replace g16 := nb_F g16 | skip
   first | replace g16 := nL g16 | replace g16 := nM g16 | replace g16 := nN g16 | skip
   first | (exact absurd g16 (by decide)) | (simp at g16)
  ·first | replace g16 := dT g16 | replace g16 := dF g16 | replace g16 := dFT g16 | replace g16 := dTF g16 | replace g16 := nb_T g16 | replace g16 := nb_F g16 | skip
   first | replace g16 := nL g16 | replace g16 := nM g16 | replace g16 := nN g16 | skip
   refine ws_on rfl rfl ?_
   refine w_move rfl rfl ?_
   refine ws_on rfl rfl ?_
   refine w_build (v := .agg [_, _]) B46 rfl rfl rfl ?_
   refine ws_on rfl rfl ?_
   refine w_call rfl rfl (CallW.mono (CallW.take tk (CallW.leArgs (.cons (VRLe.refl _) (.cons (nil_le false true rfl) (.cons (VRLe.refl _) .nil))) (put_fn o1 R1 sane1 [] ⟨12, 1⟩ (by decide) _))) ?_)
   rintro _ _ ⟨rfl, rfl⟩
   rw [runE2]
   try simp only [List.cons_append, List.nil_append]
   refine ws_on rfl rfl ?_
   refine w_neq u44 rfl rfl rfl ?_
   first | refine w_pickT rfl rfl rfl ⟨_, rfl⟩ ?_ | refine w_pickF rfl rfl ⟨_, rfl⟩ rfl ?_ | refine w_pick rfl rfl rfl rfl ?_
   refine ws_nil ?_
   refine wc_cond rfl (fun h3 => ?_) (fun h3 => ?_)
   ·first | replace h3 := dT h3 | replace h3 := dF h3 | replace h3 := dFT h3 | replace h3 := dTF h3 | replace h3 := nb_T h3 | replace h3 := nb_F h3 | skip
    first | replace h3 := nL h3 | replace h3 := nM h3 | replace h3 := nN h3 | skip
    first | (exact absurd h3 (by decide)) | (simp at h3)
   ·skip
    refine wc_stay ?_
    refine wc_seq ?_
    refine wc_text ?_
    refine w_move rfl rfl ?_
    refine w_call rfl rfl (CallW.mono (CallW.take tk (CallW.leArgs (.cons (VRLe.refl _) (.cons (VRLe.refl _) (.cons (VRLe.refl _) (.cons (nil_le false true rfl) .nil)))) (pick_fn o1 R2 sane2 12 5 [] (by decide) (by decide) (by decide) _))) ?_)
    rintro _ _ ⟨rfl, rfl⟩
    rw [runP]
    try simp only [List.cons_append, List.nil_append]
    refine w_assign rfl rfl ?_
    refine ws_nil ?_
    refine wc_seq ?_
    refine wc_text ?_
    have hx0 : ([⟨[laX], 5⟩, ⟨[], 1⟩] : List PT)[0]? = some ⟨[laX], 5⟩ := rfl
    have hx1 : ([⟨[laX], 5⟩, ⟨[], 1⟩] : List PT)[1]? = some ⟨[], 1⟩ := rfl
    have hpl : ([⟨[laX], 5⟩, ⟨[], 1⟩] : List PT).length = 2 := rfl
    refine w_move rfl rfl ?_
    first | refine w_len rfl rfl (len_lst u36) ?_ | refine w_len rfl rfl (len_slice u36) ?_ | refine w_lenO rfl u36 rfl rfl tk ?_
    refine w_eql u3 rfl rfl rfl ?_
    refine w_move rfl rfl ?_
    refine ws_split (t := 27) rfl (fun g27 => ?_) (fun g27 => ?_)
    ·first | replace g27 := dT g27 | replace g27 := dF g27 | replace g27 := dFT g27 | replace g27 := dTF g27 | replace g27 := nb_T g27 | replace g27 := nb_F g27 | skip
     first | replace g27 := nL g27 | replace g27 := nM g27 | replace g27 := nN g27 | skip
     refine ws_on rfl rfl ?_
     refine w_move rfl rfl ?_
     refine ws_on rfl rfl ?_
     first | refine w_lidx u36 s73 rfl rfl rfl (by omega) ?_ | refine w_slidx u36 s73 rfl rfl rfl (by omega) ?_
     refine ws_on rfl rfl ?_
     first | refine w_faddrC O73_0 rfl rfl ?_ | refine w_faddrP O73_0 rfl rfl ?_
     refine ws_on rfl rfl ?_
     first | refine w_ldC1 a43 rfl rfl rdc ?_ | refine w_ldP1 a43 rfl rfl tk rdp ?_
     refine ws_on rfl rfl ?_
     first | refine w_len rfl rfl (len_lst u43) ?_ | refine w_len rfl rfl (len_slice u43) ?_ | refine w_lenO rfl u43 rfl rfl tk ?_
     refine ws_on rfl rfl ?_
     refine w_eql u3 rfl rfl rfl ?_
     first | refine w_pickT rfl rfl rfl ⟨_, rfl⟩ ?_ | refine w_pickF rfl rfl ⟨_, rfl⟩ rfl ?_ | refine w_pick rfl rfl rfl rfl ?_
     refine w_move rfl rfl ?_
     refine ws_split (t := 35) rfl (fun g35 => ?_) (fun g35 => ?_)
     ·first | replace g35 := dT g35 | replace g35 := dF g35 | replace g35 := dFT g35 | replace g35 := dTF g35 | replace g35 := nb_T g35 | replace g35 := nb_F g35 | skip
      first | replace g35 := nL g35 | replace g35 := nM g35 | replace g35 := nN g35 | skip
      refine ws_on rfl rfl ?_
      refine w_move rfl rfl ?_
      refine ws_on rfl rfl ?_
      first | refine w_lidx u36 s73 rfl rfl rfl (by omega) ?_ | refine w_slidx u36 s73 rfl rfl rfl (by omega) ?_
      refine ws_on rfl rfl ?_
      first | refine w_faddrC O73_1 rfl rfl ?_ | refine w_faddrP O73_1 rfl rfl ?_
      refine ws_on rfl rfl ?_
      first | refine w_ldC1 a3 rfl rfl rdc ?_ | refine w_ldP1 a3 rfl rfl tk rdp ?_
      refine ws_on rfl rfl ?_
      refine w_eql u3 rfl rfl rfl ?_
      first | refine w_pickT rfl rfl rfl ⟨_, rfl⟩ ?_ | refine w_pickF rfl rfl ⟨_, rfl⟩ rfl ?_ | refine w_pick rfl rfl rfl rfl ?_
      refine w_move rfl rfl ?_
      refine ws_split (t := 42) rfl (fun g42 => ?_) (fun g42 => ?_)
      ·first | replace g42 := dT g42 | replace g42 := dF g42 | replace g42 := dFT g42 | replace g42 := dTF g42 | replace g42 := nb_T g42 | replace g42 := nb_F g42 | skip
       first | replace g42 := nL g42 | replace g42 := nM g42 | replace g42 := nN g42 | skip
       refine ws_on rfl rfl ?_
       refine w_move rfl rfl ?_
       refine ws_on rfl rfl ?_
       first | refine w_lidx u36 s73 rfl rfl rfl (by omega) ?_ | refine w_slidx u36 s73 rfl rfl rfl (by omega) ?_
       refine ws_on rfl rfl ?_
       first | refine w_faddrC O73_0 rfl rfl ?_ | refine w_faddrP O73_0 rfl rfl ?_
       refine ws_on rfl rfl ?_
       first | refine w_ldC1 a43 rfl rfl rdc ?_ | refine w_ldP1 a43 rfl rfl tk rdp ?_
       refine ws_on rfl rfl ?_
       refine w_move rfl rfl ?_
       refine ws_on rfl rfl ?_
       refine w_call rfl rfl (cw_fn rfl rfl (.cons fz (.cons fz .nil)) (sameL_fn _ _ (by decide)) ?_)
       first | refine w_pickT rfl rfl rfl ⟨_, rfl⟩ ?_ | refine w_pickF rfl rfl ⟨_, rfl⟩ rfl ?_ | refine w_pick rfl rfl rfl rfl ?_
       refine w_move rfl rfl ?_
       refine ws_split (t := 50) rfl (fun g50 => ?_) (fun g50 => ?_)
       ·first | replace g50 := dT g50 | replace g50 := dF g50 | replace g50 := dFT g50 | replace g50 := dTF g50 | replace g50 := nb_T g50 | replace g50 := nb_F g50 | skip
        first | replace g50 := nL g50 | replace g50 := nM g50 | replace g50 := nN g50 | skip
        refine ws_on rfl rfl ?_
        refine w_move rfl rfl ?_
        refine ws_on rfl rfl ?_
        first | refine w_lidx u36 s73 rfl rfl rfl (by omega) ?_ | refine w_slidx u36 s73 rfl rfl rfl (by omega) ?_
        refine ws_on rfl rfl ?_
        first | refine w_faddrC O73_1 rfl rfl ?_ | refine w_faddrP O73_1 rfl rfl ?_
        refine ws_on rfl rfl ?_
        first | refine w_ldC1 a3 rfl rfl rdc ?_ | refine w_ldP1 a3 rfl rfl tk rdp ?_
        refine ws_on rfl rfl ?_
        refine w_eql u3 rfl rfl rfl ?_
        first | refine w_pickT rfl rfl rfl ⟨_, rfl⟩ ?_ | refine w_pickF rfl rfl ⟨_, rfl⟩ rfl ?_ | refine w_pick rfl rfl rfl rfl ?_
        refine w_move rfl rfl ?_
        refine ws_split (t := 57) rfl (fun g57 => ?_) (fun g57 => ?_)
        ·first | replace g57 := dT g57 | replace g57 := dF g57 | replace g57 := dFT g57 | replace g57 := dTF g57 | replace g57 := nb_T g57 | replace g57 := nb_F g57 | skip
         first | replace g57 := nL g57 | replace g57 := nM g57 | replace g57 := nN g57 | skip
         refine ws_on rfl rfl ?_
         refine w_move rfl rfl ?_
         refine ws_on rfl rfl ?_
         refine w_call rfl rfl (CallW.mono (CallW.take tk (CallW.leArgs (.cons (VRLe.refl _) (.cons (VRLe.refl _) (.cons (VRLe.refl _) (.cons (VRLe.refl _) (.cons (nil_le false true rfl) .nil))))) (changes_fn o1 R2 sane2 5 0 99 [] (by decide) (by decide) _))) ?_)
         rintro _ _ ⟨rfl, rfl⟩
         rw [runC]
         try simp only [List.cons_append, List.nil_append]
         refine ws_on rfl rfl ?_
         refine w_buildSF (cs := ([10, 12, 15, 17] : List Int).flatMap eI) u33 s3 z3 (by decide) rfl rfl rfl (by decide) rfl rfl ?_
         refine ws_on rfl rfl ?_
         refine w_call rfl rfl (cw_fn rfl rfl (.cons fz (.cons fz .nil)) (sameI_fn _ _ (by decide)) ?_)
         first | refine w_pickT rfl rfl rfl ⟨_, rfl⟩ ?_ | refine w_pickF rfl rfl ⟨_, rfl⟩ rfl ?_ | refine w_pick rfl rfl rfl rfl ?_
         refine w_move rfl rfl ?_
         refine ws_split (t := 63) rfl (fun g63 => ?_) (fun g63 => ?_)
         ·first | replace g63 := dT g63 | replace g63 := dF g63 | replace g63 := dFT g63 | replace g63 := dTF g63 | replace g63 := nb_T g63 | replace g63 := nb_F g63 | skip
          first | replace g63 := nL g63 | replace g63 := nM g63 | replace g63 := nN g63 | skip
          refine ws_on rfl rfl ?_
          refine w_move rfl rfl ?_
          refine ws_on rfl rfl ?_
          refine w_call rfl rfl (CallW.mono (CallW.take tk (sets_fn o1 R2 sane2 _)) ?_)
          rintro _ _ ⟨rfl, rfl⟩
          rw [runS]
          try simp only [List.cons_append, List.nil_append]
          refine ws_on rfl rfl ?_
          first | refine w_len rfl rfl (len_lst u49) ?_ | refine w_len rfl rfl (len_slice u49) ?_ | refine w_lenO rfl u49 rfl rfl tk ?_
          refine ws_on rfl rfl ?_
          refine w_eql u3 rfl rfl rfl ?_
          first | refine w_pickT rfl rfl rfl ⟨_, rfl⟩ ?_ | refine w_pickF rfl rfl ⟨_, rfl⟩ rfl ?_ | refine w_pick rfl rfl rfl rfl ?_
          refine w_assign rfl rfl ?_
          refine ws_nil ?_
          refine wc_ret ?_
          refine ⟨_, (.cons (.tmp rfl) .nil), ?_, rfl⟩
          first | rfl | simp [oneOf]
         ·first | replace g63 := dT g63 | replace g63 := dF g63 | replace g63 := dFT g63 | replace g63 := dTF g63 | replace g63 := nb_T g63 | replace g63 := nb_F g63 | skip
          first | replace g63 := nL g63 | replace g63 := nM g63 | replace g63 := nN g63 | skip
          first | (exact absurd g63 (by decide)) | (simp at g63)
        ·first | replace g57 := dT g57 | replace g57 := dF g57 | replace g57 := dFT g57 | replace g57 := dTF g57 | replace g57 := nb_T g57 | replace g57 := nb_F g57 | skip
         first | replace g57 := nL g57 | replace g57 := nM g57 | replace g57 := nN g57 | skip
         first | (exact absurd g57 (by decide)) | (simp at g57)
       ·first | replace g50 := dT g50 | replace g50 := dF g50 | replace g50 := dFT g50 | replace g50 := dTF g50 | replace g50 := nb_T g50 | replace g50 := nb_F g50 | skip
        first | replace g50 := nL g50 | replace g50 := nM g50 | replace g50 := nN g50 | skip
        first | (exact absurd g50 (by decide)) | (simp at g50)
      ·first | replace g42 := dT g42 | replace g42 := dF g42 | replace g42 := dFT g42 | replace g42 := dTF g42 | replace g42 := nb_T g42 | replace g42 := nb_F g42 | skip
       first | replace g42 := nL g42 | replace g42 := nM g42 | replace g42 := nN g42 | skip
       first | (exact absurd g42 (by decide)) | (simp at g42)
     ·first | replace g35 := dT g35 | replace g35 := dF g35 | replace g35 := dFT g35 | replace g35 := dTF g35 | replace g35 := nb_T g35 | replace g35 := nb_F g35 | skip
      first | replace g35 := nL g35 | replace g35 := nM g35 | replace g35 := nN g35 | skip
      first | (exact absurd g35 (by decide)) | (simp at g35)
    ·first | replace g27 := dT g27 | replace g27 := dF g27 | replace g27 := dFT g27 | replace g27 := dTF g27 | replace g27 := nb_T g27 | replace g27 := nb_F g27 | skip
     first | replace g27 := nL g27 | replace g27 := nM g27 | replace g27 := nN g27 | skip
     first | (exact absurd g27 (by decide)) | (simp at g27)
end Go.Proofs.YtlgofplbbmjdjaaGreatDoor.kx
namespace Go.Proofs.YtlgofplbbmjdjaaGreatDoor.kx
open Go Go.Proofs Go.Proofs.YtlgofplbbmjdjaaGreatDoor.BH
open Go.Proofs.YtlgofplbbmjdjaaGreatDoor.BH.Rt
open Go.Proofs.YtlgofplbbmjdjaaGreatDoor.BH.Dk (withinV withinV_in)
open Go.Proofs.YtlgofplbbmjdjaaGreatDoor.BH.Kx
set_option maxRecDepth 100000
theorem names_fn  : PFn C 74 [] (AL eS namesV) := by
 refine fn_keep rfl rfl (fn := Tryz.f74) rfl rfl rfl rfl rfl ?_
 refine wc_seq ?_
 refine wc_text ?_
 refine w_assign rfl rfl ?_
 refine ws_nil ?_
 refine wc_seq ?_
 refine wc_text ?_
 refine w_buildSF (cs := namesV.flatMap eS) u59 s9 z9 (by decide) rfl rfl rfl (by decide) rfl rfl ?_
 refine w_assign rfl rfl ?_
 refine ws_nil ?_
 refine wc_ret ?_
 refine ⟨_, _, _, (.cons (.tmp rfl) .nil), (.cons fr .nil), ?_, ?_⟩
 · first | rfl | simp [doneV]
 rfl

theorem values_fn  : PFn C 73 [] (AL eS valuesV) := by
 refine fn_keep rfl rfl (fn := Tryz.f73) rfl rfl rfl rfl rfl ?_
 refine wc_seq ?_
 refine wc_text ?_
 refine w_assign rfl rfl ?_
 refine ws_nil ?_
 refine wc_seq ?_
 refine wc_text ?_
 refine w_buildSF (cs := valuesV.flatMap eS) u59 s9 z9 (by decide) rfl rfl rfl (by decide) rfl rfl ?_
 refine w_assign rfl rfl ?_
 refine ws_nil ?_
 refine wc_ret ?_
 refine ⟨_, _, _, (.cons (.tmp rfl) .nil), (.cons fr .nil), ?_, ?_⟩
 · first | rfl | simp [doneV]
 rfl

theorem pickK_fn (l : List Int) (i : Nat) (hl : l.length ≤ 9223372036854775807) (hi : i ≤ 1000000) : PFn C 75 [AL eI l, .int .i64 (i : Nat)] (.int .i64 (pickK l i)) := by
 refine fn_view rfl rfl (fn := Tryz.f75) rfl rfl rfl rfl rfl ?_
 refine wc_seq ?_
 refine wc_text ?_
 refine w_assign rfl rfl ?_
 refine ws_nil ?_
 refine wc_seq ?_
 refine wc_seq ?_
 refine wc_text ?_
 refine w_move rfl rfl ?_
 first | refine w_len rfl rfl (len_lst u33) ?_ | refine w_len rfl rfl (len_slice u33) ?_ | refine w_lenO rfl u33 rfl rfl tk ?_
 refine w_eql u3 rfl rfl rfl ?_
 refine ws_nil ?_
 refine wc_cond rfl (fun h1 => ?_) (fun h1 => ?_)
 ·replace h1 := of_decide_eq_true h1
  obtain rfl : l = [] := List.eq_nil_of_length_eq_zero (by omega)
  refine wc_seq ?_
  refine wc_text ?_
  refine w_assign rfl rfl ?_
  refine ws_nil ?_
  refine wc_ret ?_
  refine ⟨_, (.cons (.tmp rfl) .nil), ?_, rfl⟩
  rfl
 ·replace h1 := of_decide_eq_false h1
  have hlt : i % l.length < l.length := Nat.mod_lt _ (by omega)
  obtain ⟨x, hx⟩ := get_of_lt (l := l) (k := i % l.length) hlt
  refine wc_stay ?_
  refine wc_seq ?_
  refine wc_text ?_
  refine w_move rfl rfl ?_
  refine w_move rfl rfl ?_
  refine w_move rfl rfl ?_
  first | refine w_len rfl rfl (len_lst u33) ?_ | refine w_len rfl rfl (len_slice u33) ?_ | refine w_lenO rfl u33 rfl rfl tk ?_
  refine w_rem u3 rfl rfl rfl (by omega) ?_
  rw [show (i : Int).tmod (l.length : Int) = ((i % l.length : Nat) : Int) from rfl]
  first | refine w_lidx u33 s3 rfl rfl rfl (by omega) ?_ | refine w_slidx u33 s3 rfl rfl rfl (by omega) ?_
  first | refine w_ldC1 a3 rfl rfl rdc ?_ | refine w_ldP1 a3 rfl rfl tk rdp ?_
  refine w_assign rfl rfl ?_
  refine ws_nil ?_
  refine wc_ret ?_
  refine ⟨_, (.cons (.tmp rfl) .nil), ?_, rfl⟩
  unfold pickK
  rw [if_neg (by rintro rfl; exact h1 rfl), hx]; rfl

theorem within_nat (n hi : Int) (h0 : 0 ≤ hi) (h1 : hi ≤ 1000000000) (R : List HI) : CallW C 13 [.int .i64 n, .int .i64 0, .int .i64 hi] R fun v H => v = .int .i64 (withinN n hi : Nat) ∧ H = R :=
  cw_fn rfl rfl (.cons fz (.cons fz (.cons fz .nil))) (within_fn n 0 hi (by decide) h0 h1) ⟨by rw [withinN_is n h0], rfl⟩

theorem setK_fn (k : KS) (h1 : k.has.length ≤ 9223372036854775807) (h2 : k.vals.length ≤ 9223372036854775807) : PFn C 38 [.agg (eKS k)] (AL eL (setK k 3)) := by
 refine fn_keep rfl rfl (fn := Tryz.f38) rfl rfl rfl rfl rfl ?_
 have hvl : valuesV.length = 8 := rfl
 have hnl : namesV.length = 4 := rfl
 refine wc_seq ?_
 refine wc_text ?_
 refine w_box (cs := eKS k) s95 rfl rfl rfl rfl rfl (fun o1 => ?_)
 refine w_assign rfl rfl ?_
 refine ws_nil ?_
 refine WC.freezePtr (t := 1) (cs := eKS k) rfl rfl .head rfl ?_
 refine wc_seq ?_
 refine wc_text ?_
 refine w_assign rfl rfl ?_
 refine ws_nil ?_
 refine WC.ownNil 42 2 ?_
 refine wc_seq ?_
 refine wc_text ?_
 refine w_call rfl rfl (cw_fn rfl rfl .nil (values_fn) ?_)
 refine w_assign rfl rfl ?_
 refine ws_nil ?_
 refine wc_seq ?_
 refine wc_seq ?_
 refine wc_text ?_
 refine w_call rfl rfl (cw_fn rfl rfl .nil (names_fn) ?_)
 refine w_slice rfl rfl rfl rfl rfl (slice_al (i := 0) (j := 3) u59 s9 (by intro _; rfl) (by rfl) (by rfl) (by omega) (by omega)) ?_
 first | refine w_len rfl rfl (len_lst u59) ?_ | refine w_len rfl rfl (len_slice u59) ?_ | refine w_lenO rfl u59 rfl rfl tk ?_
 refine w_move rfl rfl ?_
 refine ws_nil ?_
 refine wc_block ?_
 refine wc_loop (σ := { u : Nat × AV // u.1 ≤ 3 }) (fun u => [(1, .cptr (eKS k) 0), (3, u.1.2), (4, AL eS valuesV), (9, AL eS (namesV.take 3)), (10, .int .i64 (3 : Nat)), (11, .int .i64 (u.1.1 : Nat))]) (fun u => [.own u.1.2 42 2 ((setK k u.1.1).flatMap eL) (setK k u.1.1).length]) (fun u => 3 - u.1.1) ?_ ⟨(0, nilSlice), Nat.zero_le _⟩ (.cons rfl (.cons rfl (.cons rfl (.cons rfl (.cons rfl (.cons rfl (.nil _))))))) (Sel.weak (.cons tk .nil))
 rintro ⟨⟨i, vk⟩, hi3⟩
 try dsimp only
 simp only at hi3
 have hsl := set_len k i
 refine wc_seq ?_
 refine wc_text ?_
 refine w_lss u3 rfl rfl rfl ?_
 refine ws_nil ?_
 refine wc_seq ?_
 refine wc_cond rfl (fun h4 => ?_) (fun h4 => ?_)
 ·replace h4 := of_decide_eq_true h4
  refine wc_stay ?_
  refine wc_seq ?_
  refine wc_block ?_
  refine wc_seq ?_
  refine wc_text ?_
  have hn3 : (namesV.take 3).length = 3 := rfl
  obtain ⟨n, hn⟩ := get_of_lt (l := namesV.take 3) (k := i) (by show i < 3; omega)
  have hn2 : namesV[i]? = some n := by rw [← hn, List.getElem?_take, if_pos (by omega)]
  refine w_move rfl rfl ?_
  first | refine w_lidx u59 s9 rfl rfl rfl (by omega) ?_ | refine w_slidx u59 s9 rfl rfl rfl (by omega) ?_
  first | refine w_ldC1 a9 rfl rfl rdc ?_ | refine w_ldP1 a9 rfl rfl tk rdp ?_
  refine w_assign rfl rfl ?_
  refine w_assign rfl rfl ?_
  refine ws_nil ?_
  refine wc_seq ?_
  refine wc_text ?_
  refine w_move rfl rfl ?_
  first | refine w_faddrC O95_0 rfl rfl ?_ | refine w_faddrP O95_0 rfl rfl ?_
  first | refine w_ldC1 a33 rfl rfl rdc ?_ | refine w_ldP1 a33 rfl rfl tk rdp ?_
  first | refine w_len rfl rfl (len_lst u33) ?_ | refine w_len rfl rfl (len_slice u33) ?_ | refine w_lenO rfl u33 rfl rfl tk ?_
  refine w_lss u3 rfl rfl rfl ?_
  refine w_move rfl rfl ?_
  refine ws_split (t := 21) rfl (fun g21 => ?_) (fun g21 => ?_)
  ·first | replace g21 := dT g21 | replace g21 := dF g21 | replace g21 := dFT g21 | replace g21 := dTF g21 | replace g21 := nb_T g21 | replace g21 := nb_F g21 | skip
   first | replace g21 := nL g21 | replace g21 := nM g21 | replace g21 := nN g21 | skip
   obtain ⟨b, hb⟩ := get_of_lt (l := k.has) (k := i) (by omega)
   refine ws_on rfl rfl ?_
   first | refine w_faddrC O95_0 rfl rfl ?_ | refine w_faddrP O95_0 rfl rfl ?_
   refine ws_on rfl rfl ?_
   first | refine w_ldC1 a33 rfl rfl rdc ?_ | refine w_ldP1 a33 rfl rfl tk rdp ?_
   refine ws_on rfl rfl ?_
   refine w_move rfl rfl ?_
   refine ws_on rfl rfl ?_
   first | refine w_lidx u33 s3 rfl rfl rfl (by omega) ?_ | refine w_slidx u33 s3 rfl rfl rfl (by omega) ?_
   refine ws_on rfl rfl ?_
   first | refine w_ldC1 a3 rfl rfl rdc ?_ | refine w_ldP1 a3 rfl rfl tk rdp ?_
   refine ws_on rfl rfl ?_
   refine w_bin (v := .int .i64 (andK b)) rfl rfl rfl (by rw [bin_int u3 (by decide) (by decide)]; rfl) ?_
   refine ws_on rfl rfl ?_
   refine w_eql u3 rfl rfl rfl ?_
   first | refine w_pickT rfl rfl rfl ⟨_, rfl⟩ ?_ | refine w_pickF rfl rfl ⟨_, rfl⟩ rfl ?_ | refine w_pick rfl rfl rfl rfl ?_
   refine ws_nil ?_
   refine wc_cond rfl (fun h6 => ?_) (fun h6 => ?_)
   ·skip
    refine wc_text ?_
    obtain ⟨y, hy⟩ := get_of_lt (l := valuesV) (k := withinN (pickK k.vals i) 7) (by have := withinN_le (pickK k.vals i) (hi := 7) (by decide); show _ < 8; omega)
    have hw8 := (List.getElem?_eq_some_iff.mp hy).1
    refine w_move rfl rfl ?_
    refine w_move rfl rfl ?_
    refine w_move rfl rfl ?_
    first | refine w_faddrC O95_1 rfl rfl ?_ | refine w_faddrP O95_1 rfl rfl ?_
    first | refine w_ldC1 a33 rfl rfl rdc ?_ | refine w_ldP1 a33 rfl rfl tk rdp ?_
    refine w_move rfl rfl ?_
    refine w_call rfl rfl (cw_fn rfl rfl (.cons fz (.cons fz .nil)) (pickK_fn _ _ (by assumption) (by omega)) ?_)
    refine w_move rfl rfl ?_
    first | refine w_len rfl rfl (len_lst u59) ?_ | refine w_len rfl rfl (len_slice u59) ?_ | refine w_lenO rfl u59 rfl rfl tk ?_
    refine w_sub u3 rfl rfl rfl (by omega) ?_
    refine w_call rfl rfl (CallW.mono (within_nat (pickK k.vals i) 7 (by decide) (by decide) _) ?_)
    rintro _ _ ⟨rfl, rfl⟩
    try simp only [List.cons_append, List.nil_append]
    first | refine w_lidx u59 s9 rfl rfl rfl (by omega) ?_ | refine w_slidx u59 s9 rfl rfl rfl (by omega) ?_
    first | refine w_ldC1 a9 rfl rfl rdc ?_ | refine w_ldP1 a9 rfl rfl tk rdp ?_
    refine w_build (v := .agg [_, _]) B42 rfl rfl rfl ?_
    refine w_buildSF (cs := [⟨n, y⟩].flatMap eL) u43 s42 z42 (by decide) rfl rfl rfl (by decide) rfl rfl ?_
    refine w_appO (enc := eL) (l := setK k i) (m := [⟨n, y⟩]) rfl u43 s42 b42 z42 u43 (by simp) rfl rfl rfl tk nw bg bg (fun v45 => ?_)
    refine w_assign rfl rfl ?_
    refine ws_nil ?_
    refine wc_text ?_
    first | rw [set_one' (k := k) (by rw [bit_some hb]; first | exact h6 | exact decide_eq_true h6) hn2 hy] | rw [set_no (k := k) (i := i) (by rw [bit_some hb]; first | exact h6 | exact decide_eq_false h6)] | rw [set_no (k := k) (i := i) (bit_none (by omega))]
    refine w_add u3 rfl rfl rfl (by omega) ?_
    refine w_move rfl rfl ?_
    refine ws_nil ?_
    exact ⟨⟨(i + 1, v45), (by omega : i + 1 ≤ 3)⟩, by simp only; omega, (.cons rfl (.cons rfl (.cons rfl (.cons rfl (.cons rfl (.cons rfl (.nil _))))))), (Sel.weak (.cons tk .nil))⟩
   ·skip
    refine wc_stay ?_
    refine wc_text ?_
    first | rw [set_one' (k := k) (by rw [bit_some hb]; first | exact h6 | exact decide_eq_true h6) hn2 hy] | rw [set_no (k := k) (i := i) (by rw [bit_some hb]; first | exact h6 | exact decide_eq_false h6)] | rw [set_no (k := k) (i := i) (bit_none (by omega))]
    refine w_add u3 rfl rfl rfl (by omega) ?_
    refine w_move rfl rfl ?_
    refine ws_nil ?_
    exact ⟨⟨(i + 1, vk), (by omega : i + 1 ≤ 3)⟩, by simp only; omega, (.cons rfl (.cons rfl (.cons rfl (.cons rfl (.cons rfl (.cons rfl (.nil _))))))), (Sel.weak (.cons tk .nil))⟩
  ·first | replace g21 := dT g21 | replace g21 := dF g21 | replace g21 := dFT g21 | replace g21 := dTF g21 | replace g21 := nb_T g21 | replace g21 := nb_F g21 | skip
   first | replace g21 := nL g21 | replace g21 := nM g21 | replace g21 := nN g21 | skip
   refine ws_off rfl rfl rfl rfl ?_
   refine ws_off rfl rfl rfl rfl ?_
   refine ws_off rfl rfl rfl rfl ?_
   refine ws_off rfl rfl rfl rfl ?_
   refine ws_off rfl rfl rfl rfl ?_
   refine ws_off rfl rfl rfl rfl ?_
   refine ws_off rfl rfl rfl rfl ?_
   first | refine w_pickT rfl rfl rfl ⟨_, rfl⟩ ?_ | refine w_pickF rfl rfl ⟨_, rfl⟩ rfl ?_ | refine w_pick rfl rfl rfl rfl ?_
   refine ws_nil ?_
   refine wc_condF rfl ?_
   refine wc_stay ?_
   refine wc_text ?_
   first | rw [set_one' (k := k) (by rw [bit_some hb]; first | exact h6 | exact decide_eq_true h6) hn2 hy] | rw [set_no (k := k) (i := i) (by rw [bit_some hb]; first | exact h6 | exact decide_eq_false h6)] | rw [set_no (k := k) (i := i) (bit_none (by omega))]
   refine w_add u3 rfl rfl rfl (by omega) ?_
   refine w_move rfl rfl ?_
   refine ws_nil ?_
   exact ⟨⟨(i + 1, vk), (by omega : i + 1 ≤ 3)⟩, by simp only; omega, (.cons rfl (.cons rfl (.cons rfl (.cons rfl (.cons rfl (.cons rfl (.nil _))))))), (Sel.weak (.cons tk .nil))⟩
 ·replace h4 := of_decide_eq_false h4
  obtain rfl : i = 3 := by omega
  refine wc_exit ?_
  refine wc_seq ?_
  refine wc_text ?_
  refine w_move rfl rfl ?_
  refine w_assign rfl rfl ?_
  refine ws_nil ?_
  refine wc_ret ?_
  refine ⟨_, _, _, (.cons (.tmp rfl) .nil), (.cons fr .nil), ?_, ?_⟩
  · first | rfl | simp [doneV]
  rfl

theorem samplesK_fn (l : List Int) (hl : l.length ≤ 9223372036854775807) : PFn C 39 [AL eI l] (AL eSm (samplesK l)) := by
 refine fn_keep rfl rfl (fn := Tryz.f39) rfl rfl rfl rfl rfl ?_
 refine wc_seq ?_
 refine wc_text ?_
 refine w_assign rfl rfl ?_
 refine ws_nil ?_
 refine wc_seq ?_
 refine wc_text ?_
 refine w_assign rfl rfl ?_
 refine ws_nil ?_
 refine WC.ownNil 46 2 ?_
 refine wc_seq ?_
 refine wc_text ?_
 refine w_assign rfl rfl ?_
 refine ws_nil ?_
 refine wc_seq ?_
 refine wc_seq ?_
 refine wc_text ?_
 refine w_assign rfl rfl ?_
 refine ws_nil ?_
 refine wc_block ?_
 refine wc_loop (σ := { u : Nat × AV // u.1 ≤ l.length ∧ u.1 ≤ 20 }) (fun u => [(0, AL eI l), (3, u.1.2), (4, .int .i64 (timeK l u.1.1)), (5, .int .i64 (u.1.1 : Nat))]) (fun u => [.own u.1.2 46 2 ((sampsK l u.1.1).flatMap eSm) (sampsK l u.1.1).length]) (fun u => 20 - u.1.1) ?_ ⟨(0, nilSlice), Nat.zero_le _, Nat.zero_le _⟩ (.cons rfl (.cons rfl (.cons rfl (.cons rfl (.nil _))))) (Sel.weak (.cons tk .nil))
 rintro ⟨⟨i, vk⟩, hil, hi20⟩
 try dsimp only
 simp only at hil hi20
 have hsl := samps_len l i
 have hti := time_in l i
 refine wc_seq ?_
 refine wc_seq ?_
 refine wc_text ?_
 refine w_move rfl rfl ?_
 refine w_move rfl rfl ?_
 first | refine w_len rfl rfl (len_lst u33) ?_ | refine w_len rfl rfl (len_slice u33) ?_ | refine w_lenO rfl u33 rfl rfl tk ?_
 refine w_lss u3 rfl rfl rfl ?_
 refine w_move rfl rfl ?_
 refine ws_split (t := 10) rfl (fun g10 => ?_) (fun g10 => ?_)
 ·first | replace g10 := dT g10 | replace g10 := dF g10 | replace g10 := dFT g10 | replace g10 := dTF g10 | replace g10 := nb_T g10 | replace g10 := nb_F g10 | skip
  first | replace g10 := nL g10 | replace g10 := nM g10 | replace g10 := nN g10 | skip
  refine ws_on rfl rfl ?_
  refine w_move rfl rfl ?_
  refine ws_on rfl rfl ?_
  refine w_lss u3 rfl rfl rfl ?_
  first | refine w_pickT rfl rfl rfl ⟨_, rfl⟩ ?_ | refine w_pickF rfl rfl ⟨_, rfl⟩ rfl ?_ | refine w_pick rfl rfl rfl rfl ?_
  refine ws_nil ?_
  refine wc_cond rfl (fun h4 => ?_) (fun h4 => ?_)
  ·replace h4 := of_decide_eq_true h4
   refine wc_stay ?_
   refine wc_seq ?_
   refine wc_block ?_
   refine wc_seq ?_
   refine wc_text ?_
   obtain ⟨x, hx⟩ := get_of_lt (l := l) (k := i) (by omega)
   have hw := withinV_in x 1 12 (by decide)
   have hte : timeK l i + withinV x 1 12 = timeK l (i + 1) := by
     show _ = timeK l i + withinV ((l[i]?).getD 0) 1 12
     rw [hx]; rfl
   refine w_move rfl rfl ?_
   refine w_move rfl rfl ?_
   refine w_move rfl rfl ?_
   first | refine w_lidx u33 s3 rfl rfl rfl (by omega) ?_ | refine w_slidx u33 s3 rfl rfl rfl (by omega) ?_
   first | refine w_ldC1 a3 rfl rfl rdc ?_ | refine w_ldP1 a3 rfl rfl tk rdp ?_
   refine w_call rfl rfl (cw_fn rfl rfl (.cons fz (.cons fz (.cons fz .nil))) (within_fn _ _ _ (by omega) (by omega) (by omega)) ?_)
   refine w_add u3 rfl rfl rfl (by omega) ?_
   refine w_assign rfl rfl ?_
   refine ws_nil ?_
   refine wc_text ?_
   refine w_move rfl rfl ?_
   refine w_move rfl rfl ?_
   refine w_move rfl rfl ?_
   refine w_move rfl rfl ?_
   first | refine w_lidx u33 s3 rfl rfl rfl (by omega) ?_ | refine w_slidx u33 s3 rfl rfl rfl (by omega) ?_
   first | refine w_ldC1 a3 rfl rfl rdc ?_ | refine w_ldP1 a3 rfl rfl tk rdp ?_
   refine w_quo u3 rfl rfl rfl (by omega) ?_
   refine w_call rfl rfl (cw_fn rfl rfl (.cons fz (.cons fz (.cons fz .nil))) (within_fn _ _ _ (by omega) (by omega) (by omega)) ?_)
   refine w_build (v := .agg [_, _]) B46 rfl rfl rfl ?_
   refine w_buildSF (cs := [(⟨timeK l i + withinV x 1 12, withinV (IntKind.i64.wrap (x.tdiv 12)) (-4) 9⟩ : SM)].flatMap eSm) u52 s46 z46 (by decide) rfl rfl rfl (by decide) rfl rfl ?_
   refine w_appO (enc := eSm) (l := sampsK l i) (m := [(⟨timeK l i + withinV x 1 12, withinV (IntKind.i64.wrap (x.tdiv 12)) (-4) 9⟩ : SM)]) rfl u52 s46 b46 z46 u52 (by simp) rfl rfl rfl tk nw bg bg (fun v33 => ?_)
   refine w_assign rfl rfl ?_
   refine ws_nil ?_
   refine wc_text ?_
   rw [hte]
   rw [show ([⟨timeK l (i + 1), withinV (IntKind.i64.wrap (x.tdiv 12)) (-4) 9⟩] : List SM) = [sampK l i] by unfold sampK; rw [hx]; rfl]
   rw [samps_succ]
   refine w_move rfl rfl ?_
   refine w_add u3 rfl rfl rfl (by omega) ?_
   refine w_assign rfl rfl ?_
   refine ws_nil ?_
   exact ⟨⟨(i + 1, v33), (by omega : i + 1 ≤ l.length), (by omega : i + 1 ≤ 20)⟩, by simp only; omega, (.cons rfl (.cons rfl (.cons rfl (.cons rfl (.nil _))))), (Sel.weak (.cons tk .nil))⟩
  ·replace h4 := of_decide_eq_false h4
   obtain rfl : i = 20 := by omega
   refine wc_exit ?_
   refine wc_seq ?_
   refine wc_text ?_
   refine w_move rfl rfl ?_
   refine w_assign rfl rfl ?_
   refine ws_nil ?_
   refine wc_ret ?_
   refine ⟨_, _, _, (.cons (.tmp rfl) .nil), (.cons fr .nil), ?_, ?_⟩
   · first | rfl | simp [doneV]
   unfold samplesK
   first | (rw [show min l.length 20 = i by omega]; rfl) | (rw [show min l.length 20 = 20 by omega]; rfl)
 ·first | replace g10 := dT g10 | replace g10 := dF g10 | replace g10 := dFT g10 | replace g10 := dTF g10 | replace g10 := nb_T g10 | replace g10 := nb_F g10 | skip
  first | replace g10 := nL g10 | replace g10 := nM g10 | replace g10 := nN g10 | skip
  refine ws_off rfl rfl rfl rfl ?_
  refine ws_off rfl rfl rfl rfl ?_
  first | refine w_pickT rfl rfl rfl ⟨_, rfl⟩ ?_ | refine w_pickF rfl rfl ⟨_, rfl⟩ rfl ?_ | refine w_pick rfl rfl rfl rfl ?_
  refine ws_nil ?_
  refine wc_condF rfl ?_
  refine wc_exit ?_
  refine wc_seq ?_
  refine wc_text ?_
  refine w_move rfl rfl ?_
  refine w_assign rfl rfl ?_
  refine ws_nil ?_
  refine wc_ret ?_
  refine ⟨_, _, _, (.cons (.tmp rfl) .nil), (.cons fr .nil), ?_, ?_⟩
  · first | rfl | simp [doneV]
  unfold samplesK
  first | (rw [show min l.length 20 = i by omega]; rfl) | (rw [show min l.length 20 = 20 by omega]; rfl)

theorem points_fn (a b : List PT) (ha : a.length ≤ 1000000) (hs : ∀ p ∈ a, p.set.length ≤ 1000000) : PFn C 15 [AL eP a, AL eP b] (.bool (decide (a = b))) := by
 refine fn_view rfl rfl (fn := Tryz.f15) rfl rfl rfl rfl rfl ?_
 refine wc_seq ?_
 refine wc_text ?_
 refine w_assign rfl rfl ?_
 refine ws_nil ?_
 refine wc_seq ?_
 refine wc_seq ?_
 refine wc_text ?_
 refine w_move rfl rfl ?_
 first | refine w_len rfl rfl (len_lst u36) ?_ | refine w_len rfl rfl (len_slice u36) ?_ | refine w_lenO rfl u36 rfl rfl tk ?_
 refine w_move rfl rfl ?_
 first | refine w_len rfl rfl (len_lst u36) ?_ | refine w_len rfl rfl (len_slice u36) ?_ | refine w_lenO rfl u36 rfl rfl tk ?_
 refine w_neq u3 rfl rfl rfl ?_
 refine ws_nil ?_
 refine wc_cond rfl (fun h1 => ?_) (fun h1 => ?_)
 ·first | replace h1 := dT h1 | replace h1 := dF h1 | replace h1 := dFT h1 | replace h1 := dTF h1 | replace h1 := nb_T h1 | replace h1 := nb_F h1 | skip
  first | replace h1 := nL h1 | replace h1 := nM h1 | replace h1 := nN h1 | skip
  refine wc_seq ?_
  refine wc_text ?_
  refine w_assign rfl rfl ?_
  refine ws_nil ?_
  refine wc_ret ?_
  refine ⟨_, (.cons (.tmp rfl) .nil), ?_, rfl⟩
  congr 1; simp; rintro rfl; exact h1 rfl
 ·first | replace h1 := dT h1 | replace h1 := dF h1 | replace h1 := dFT h1 | replace h1 := dTF h1 | replace h1 := nb_T h1 | replace h1 := nb_F h1 | skip
  first | replace h1 := nL h1 | replace h1 := nM h1 | replace h1 := nN h1 | skip
  refine wc_stay ?_
  refine wc_seq ?_
  refine wc_seq ?_
  refine wc_text ?_
  refine w_move rfl rfl ?_
  first | refine w_len rfl rfl (len_lst u36) ?_ | refine w_len rfl rfl (len_slice u36) ?_ | refine w_lenO rfl u36 rfl rfl tk ?_
  refine w_move rfl rfl ?_
  refine ws_nil ?_
  refine wc_block ?_
  refine wc_loop (σ := { k : Nat // k ≤ a.length ∧ a.take k = b.take k }) (fun u => [(0, AL eP a), (1, AL eP b), (12, .int .i64 (a.length : Nat)), (13, .int .i64 (u.1 : Nat))]) (fun u => []) (fun u => a.length - u.1) ?_ ⟨0, Nat.zero_le _, rfl⟩ (.cons rfl (.cons rfl (.cons rfl (.cons rfl (.nil _))))) (Sel.weak .nil)
  rintro ⟨k, hk, hs0⟩
  try dsimp only
  refine wc_seq ?_
  refine wc_text ?_
  refine w_lss u3 rfl rfl rfl ?_
  refine ws_nil ?_
  refine wc_seq ?_
  refine wc_cond rfl (fun h4 => ?_) (fun h4 => ?_)
  ·first | replace h4 := dT h4 | replace h4 := dF h4 | replace h4 := dFT h4 | replace h4 := dTF h4 | replace h4 := nb_T h4 | replace h4 := nb_F h4 | skip
   first | replace h4 := nL h4 | replace h4 := nM h4 | replace h4 := nN h4 | skip
   refine wc_stay ?_
   refine wc_seq ?_
   refine wc_block ?_
   refine wc_seq ?_
   refine wc_text ?_
   refine w_move rfl rfl ?_
   refine w_assign rfl rfl ?_
   refine ws_nil ?_
   refine wc_seq ?_
   refine wc_free [0, 0, 3, 7, 15, 0, 0, 96, 224, 480, 1023, 2047, 4095, 8191, 8191, 32767, 65535, 131071, 8191, 8191, 794623, 1843199, 3940351, 8388607, 16777215] (by kernel_rfl) (by kernel_rfl) (fun F => ?_)
   obtain ⟨x, hx⟩ := get_of_lt (l := a) (k := k) (by omega)
   obtain ⟨y, hy⟩ := get_of_lt (l := b) (k := k) (by omega)
   have hxs := hs x (List.mem_of_getElem? hx)
   refine wr_float F 0 rfl (by kernel_rfl) (.inl (by kernel_rfl)) ?_
   refine w_move rfl rfl ?_
   refine ws_nil ?_
   refine wr_float F 1 rfl (by kernel_rfl) (.inl (by kernel_rfl)) ?_
   refine w_move rfl rfl ?_
   refine ws_nil ?_
   refine wr_float F 2 rfl (by kernel_rfl) (.inl (by kernel_rfl)) ?_
   first | refine w_lidx u36 s73 rfl rfl rfl (by omega) ?_ | refine w_slidx u36 s73 rfl rfl rfl (by omega) ?_
   refine ws_nil ?_
   refine wr_float F 3 rfl (by kernel_rfl) (.inl (by kernel_rfl)) ?_
   first | refine w_faddrC O73_0 rfl rfl ?_ | refine w_faddrP O73_0 rfl rfl ?_
   refine ws_nil ?_
   refine wr_pure F 4 rfl (by kernel_rfl) rfl rfl (pf_ldC1 a43 rfl rdc) (.inl rfl) ?_
   refine wr_float F 5 rfl (by kernel_rfl) (.inl (by kernel_rfl)) ?_
   refine w_move rfl rfl ?_
   refine ws_nil ?_
   refine wr_float F 6 rfl (by kernel_rfl) (.inl (by kernel_rfl)) ?_
   refine w_move rfl rfl ?_
   refine ws_nil ?_
   refine wr_float F 7 rfl (by kernel_rfl) (.inl (by kernel_rfl)) ?_
   first | refine w_lidx u36 s73 rfl rfl rfl (by omega) ?_ | refine w_slidx u36 s73 rfl rfl rfl (by omega) ?_
   refine ws_nil ?_
   refine wr_float F 8 rfl (by kernel_rfl) (.inl (by kernel_rfl)) ?_
   first | refine w_faddrC O73_0 rfl rfl ?_ | refine w_faddrP O73_0 rfl rfl ?_
   refine ws_nil ?_
   refine wr_pure F 9 rfl (by kernel_rfl) rfl rfl (pf_ldC1 a43 rfl rdc) (.inl rfl) ?_
   refine wr_next F (l := [10]) (by kernel_rfl) (by simp) (.cons rfl ?_ (.nil))
   refine w_call rfl rfl (cw_fn rfl rfl (.cons fz (.cons fz .nil)) (sameL_fn _ _ (by omega)) ?_)
   refine ws_nil ?_
   refine wr_float F 11 rfl (by kernel_rfl) (.inl (by kernel_rfl)) ?_
   refine w_not rfl rfl ?_
   refine ws_nil ?_
   refine wr_float F 12 rfl (by kernel_rfl) (.inl (by kernel_rfl)) ?_
   refine w_move rfl rfl ?_
   refine ws_nil ?_
   refine wr_split (t := 28) rfl (fun g28 => ?_) (fun g28 => ?_)
   ·first | replace g28 := dT g28 | replace g28 := dF g28 | replace g28 := dFT g28 | replace g28 := dTF g28 | replace g28 := nb_T g28 | replace g28 := nb_F g28 | skip
    first | replace g28 := nL g28 | replace g28 := nM g28 | replace g28 := nN g28 | skip
    refine wr_float F 13 rfl (by kernel_rfl) (.inr (off_of rfl rfl rfl rfl)) ?_
    refine ws_off rfl rfl rfl rfl ?_
    refine ws_nil ?_
    refine wr_float F 14 rfl (by kernel_rfl) (.inr (off_of rfl rfl rfl rfl)) ?_
    refine ws_off rfl rfl rfl rfl ?_
    refine ws_nil ?_
    refine wr_float F 15 rfl (by kernel_rfl) (.inr (off_of rfl rfl rfl rfl)) ?_
    refine ws_off rfl rfl rfl rfl ?_
    refine ws_nil ?_
    refine wr_float F 16 rfl (by kernel_rfl) (.inr (off_of rfl rfl rfl rfl)) ?_
    refine ws_off rfl rfl rfl rfl ?_
    refine ws_nil ?_
    refine wr_float F 17 rfl (by kernel_rfl) (.inr (off_of rfl rfl rfl rfl)) ?_
    refine ws_off rfl rfl rfl rfl ?_
    refine ws_nil ?_
    refine wr_float F 18 rfl (by kernel_rfl) (.inr (off_of rfl rfl rfl rfl)) ?_
    refine ws_off rfl rfl rfl rfl ?_
    refine ws_nil ?_
    refine wr_float F 19 rfl (by kernel_rfl) (.inr (off_of rfl rfl rfl rfl)) ?_
    refine ws_off rfl rfl rfl rfl ?_
    refine ws_nil ?_
    refine wr_float F 20 rfl (by kernel_rfl) (.inr (off_of rfl rfl rfl rfl)) ?_
    refine ws_off rfl rfl rfl rfl ?_
    refine ws_nil ?_
    refine wr_float F 21 rfl (by kernel_rfl) (.inr (off_of rfl rfl rfl rfl)) ?_
    refine ws_off rfl rfl rfl rfl ?_
    refine ws_nil ?_
    refine wr_float F 22 rfl (by kernel_rfl) (.inr (off_of rfl rfl rfl rfl)) ?_
    refine ws_off rfl rfl rfl rfl ?_
    refine ws_nil ?_
    refine wr_float F 23 rfl (by kernel_rfl) (.inr (off_of rfl rfl rfl rfl)) ?_
    refine ws_off rfl rfl rfl rfl ?_
    refine ws_nil ?_
    refine wr_float F 24 rfl (by kernel_rfl) (.inl (by kernel_rfl)) ?_
    first | refine w_pickT rfl rfl rfl ⟨_, rfl⟩ ?_ | refine w_pickF rfl rfl ⟨_, rfl⟩ rfl ?_ | refine w_pick rfl rfl rfl rfl ?_
    refine ws_nil ?_
    refine wr_end F (by kernel_rfl) ?_
    refine wc_condT rfl ?_
    refine wc_seq ?_
    refine wc_text ?_
    refine w_assign rfl rfl ?_
    refine ws_nil ?_
    refine wc_ret ?_
    refine ⟨_, (.cons (.tmp rfl) .nil), ?_, rfl⟩
    congr 1; simp; rintro rfl; rw [hx] at hy; cases hy; simp_all
   ·first | replace g28 := dT g28 | replace g28 := dF g28 | replace g28 := dFT g28 | replace g28 := dTF g28 | replace g28 := nb_T g28 | replace g28 := nb_F g28 | skip
    first | replace g28 := nL g28 | replace g28 := nM g28 | replace g28 := nN g28 | skip
    refine wr_float F 13 rfl (by kernel_rfl) (.inl (by kernel_rfl)) ?_
    refine ws_on rfl rfl ?_ (hn := rfl)
    refine w_move rfl rfl ?_
    refine ws_nil ?_
    refine wr_float F 14 rfl (by kernel_rfl) (.inl (by kernel_rfl)) ?_
    refine ws_on rfl rfl ?_ (hn := rfl)
    refine w_move rfl rfl ?_
    refine ws_nil ?_
    refine wr_float F 15 rfl (by kernel_rfl) (.inl (by kernel_rfl)) ?_
    refine ws_on rfl rfl ?_ (hn := rfl)
    first | refine w_lidx u36 s73 rfl rfl rfl (by omega) ?_ | refine w_slidx u36 s73 rfl rfl rfl (by omega) ?_
    refine ws_nil ?_
    refine wr_float F 16 rfl (by kernel_rfl) (.inl (by kernel_rfl)) ?_
    refine ws_on rfl rfl ?_ (hn := rfl)
    first | refine w_faddrC O73_1 rfl rfl ?_ | refine w_faddrP O73_1 rfl rfl ?_
    refine ws_nil ?_
    refine wr_pure F 17 rfl (by kernel_rfl) rfl rfl (pf_ldC1 a3 rfl rdc) (.inr ⟨_, _, _, rfl, rfl, rfl⟩) ?_
    refine wr_float F 18 rfl (by kernel_rfl) (.inl (by kernel_rfl)) ?_
    refine ws_on rfl rfl ?_ (hn := rfl)
    refine w_move rfl rfl ?_
    refine ws_nil ?_
    refine wr_float F 19 rfl (by kernel_rfl) (.inl (by kernel_rfl)) ?_
    refine ws_on rfl rfl ?_ (hn := rfl)
    refine w_move rfl rfl ?_
    refine ws_nil ?_
    refine wr_float F 20 rfl (by kernel_rfl) (.inl (by kernel_rfl)) ?_
    refine ws_on rfl rfl ?_ (hn := rfl)
    first | refine w_lidx u36 s73 rfl rfl rfl (by omega) ?_ | refine w_slidx u36 s73 rfl rfl rfl (by omega) ?_
    refine ws_nil ?_
    refine wr_float F 21 rfl (by kernel_rfl) (.inl (by kernel_rfl)) ?_
    refine ws_on rfl rfl ?_ (hn := rfl)
    first | refine w_faddrC O73_1 rfl rfl ?_ | refine w_faddrP O73_1 rfl rfl ?_
    refine ws_nil ?_
    refine wr_pure F 22 rfl (by kernel_rfl) rfl rfl (pf_ldC1 a3 rfl rdc) (.inr ⟨_, _, _, rfl, rfl, rfl⟩) ?_
    refine wr_float F 23 rfl (by kernel_rfl) (.inl (by kernel_rfl)) ?_
    refine ws_on rfl rfl ?_ (hn := rfl)
    refine w_neq u3 rfl rfl rfl ?_
    refine ws_nil ?_
    refine wr_float F 24 rfl (by kernel_rfl) (.inl (by kernel_rfl)) ?_
    first | refine w_pickT rfl rfl rfl ⟨_, rfl⟩ ?_ | refine w_pickF rfl rfl ⟨_, rfl⟩ rfl ?_ | refine w_pick rfl rfl rfl rfl ?_
    refine ws_nil ?_
    refine wr_end F (by kernel_rfl) ?_
    refine wc_cond rfl (fun h6 => ?_) (fun h6 => ?_)
    ·first | replace h6 := dT h6 | replace h6 := dF h6 | replace h6 := dFT h6 | replace h6 := dTF h6 | replace h6 := nb_T h6 | replace h6 := nb_F h6 | skip
     first | replace h6 := nL h6 | replace h6 := nM h6 | replace h6 := nN h6 | skip
     refine wc_seq ?_
     refine wc_text ?_
     refine w_assign rfl rfl ?_
     refine ws_nil ?_
     refine wc_ret ?_
     refine ⟨_, (.cons (.tmp rfl) .nil), ?_, rfl⟩
     congr 1; simp; rintro rfl; rw [hx] at hy; cases hy; simp_all
    ·first | replace h6 := dT h6 | replace h6 := dF h6 | replace h6 := dFT h6 | replace h6 := dTF h6 | replace h6 := nb_T h6 | replace h6 := nb_F h6 | skip
     first | replace h6 := nL h6 | replace h6 := nM h6 | replace h6 := nN h6 | skip
     refine wc_stay ?_
     refine wc_text ?_
     refine w_add u3 rfl rfl rfl (by omega) ?_
     refine w_move rfl rfl ?_
     refine ws_nil ?_
     exact ⟨⟨k + 1, by omega, by rw [take_one hx, take_one hy, hs0, (show x = y by cases x; cases y; simp_all)]⟩, by simp only; omega, (.cons rfl (.cons rfl (.cons rfl (.cons rfl (.nil _))))), (Sel.weak .nil)⟩
  ·first | replace h4 := dT h4 | replace h4 := dF h4 | replace h4 := dFT h4 | replace h4 := dTF h4 | replace h4 := nb_T h4 | replace h4 := nb_F h4 | skip
   first | replace h4 := nL h4 | replace h4 := nM h4 | replace h4 := nN h4 | skip
   refine wc_exit ?_
   refine wc_seq ?_
   refine wc_text ?_
   refine w_assign rfl rfl ?_
   refine ws_nil ?_
   refine wc_ret ?_
   refine ⟨_, (.cons (.tmp rfl) .nil), ?_, rfl⟩
   congr 1; simp
   have := hs0
   rw [List.take_of_length_le (by omega), List.take_of_length_le (by omega)] at this; exact this

set_option maxHeartbeats 4000000 in
theorem fillS_in (o : Nat) (ks : List KS) (ls : List (List Int)) (hks : ks.length ≤ 9223372036854775807) (hls : ls.length ≤ 9223372036854775807) (hk : ∀ k ∈ ks, k.has.length ≤ 9223372036854775807 ∧ k.vals.length ≤ 9223372036854775807) (hl : ∀ l ∈ ls, l.length ≤ 9223372036854775807) (R : List HI) : CallW C 11 [.agg [AL eKS ks, AL eLL ls], .func (.func 12) [.ptr (some ⟨o, 0⟩)] []] ([hiS o []] ++ R) fun v H => ∃ H', H = H' ++ R ∧ (v = .bool true ∧ H' = [hiS o (fillW ks ls)]) := by
 refine cw_sharedA (fn := Tryz.f11) rfl rfl rfl rfl (K := fun v H' => (v = .bool true ∧ H' = [hiS o (fillW ks ls)])) ?_ R
 refine wc_seq ?_
 refine wc_text ?_
 refine w_box (cs := [AL eKS ks, AL eLL ls]) s25 rfl rfl rfl rfl rfl (fun o2 => ?_)
 refine w_assign rfl rfl ?_
 refine ws_nil ?_
 refine WC.freezePtr (t := 2) (cs := [AL eKS ks, AL eLL ls]) rfl rfl .head rfl ?_
 refine wc_seq ?_
 refine wc_text ?_
 refine w_makeMap rfl (fun o13 => ?_)
 refine w_assign rfl rfl ?_
 refine ws_nil ?_
 refine WC.mapA AV.str AV.bool tk ?_
 refine wc_seq ?_
 refine wc_seq ?_
 refine wc_text ?_
 refine w_assign rfl rfl ?_
 refine ws_nil ?_
 refine wc_block ?_
 refine wc_loop (σ := { i : Nat // i ≤ ks.length ∧ i ≤ 5 }) (fun u => [(1, .func (.func 12) [.ptr (some ⟨o, 0⟩)] []), (2, .cptr [AL eKS ks, AL eLL ls] 0), (5, .map (some o13)), (6, .int .i64 (u.1 : Nat))]) (fun u => [.obj o13 (.map (entsA AV.str AV.bool (fillN ks ls u.1).2 0) (fillN ks ls u.1).2.length), hiS o (fillN ks ls u.1).1]) (fun u => 5 - u.1) ?_ ⟨0, Nat.zero_le _, Nat.zero_le _⟩ (.cons rfl (.cons rfl (.cons rfl (.cons rfl (.nil _))))) (Sel.weak (.cons tk (.cons tk .nil)))
 rintro ⟨i, hik, hi5⟩
 try dsimp only
 have hG := fill_good ks ls i hi5
 refine wc_seq ?_
 refine wc_seq ?_
 refine wc_text ?_
 refine w_move rfl rfl ?_
 first | refine w_faddrC O25_0 rfl rfl ?_ | refine w_faddrP O25_0 rfl rfl ?_
 first | refine w_ldC1 a22 rfl rfl rdc ?_ | refine w_ldP1 a22 rfl rfl tk rdp ?_
 first | refine w_len rfl rfl (len_lst u22) ?_ | refine w_len rfl rfl (len_slice u22) ?_ | refine w_lenO rfl u22 rfl rfl tk ?_
 refine w_lss u3 rfl rfl rfl ?_
 refine w_move rfl rfl ?_
 refine ws_split (t := 19) rfl (fun g19 => ?_) (fun g19 => ?_)
 ·first | replace g19 := dT g19 | replace g19 := dF g19 | replace g19 := dFT g19 | replace g19 := dTF g19 | replace g19 := nb_T g19 | replace g19 := nb_F g19 | skip
  first | replace g19 := nL g19 | replace g19 := nM g19 | replace g19 := nN g19 | skip
  refine ws_on rfl rfl ?_
  refine w_move rfl rfl ?_
  refine ws_on rfl rfl ?_
  refine w_lss u3 rfl rfl rfl ?_
  first | refine w_pickT rfl rfl rfl ⟨_, rfl⟩ ?_ | refine w_pickF rfl rfl ⟨_, rfl⟩ rfl ?_ | refine w_pick rfl rfl rfl rfl ?_
  refine ws_nil ?_
  refine wc_cond rfl (fun h3 => ?_) (fun h3 => ?_)
  ·replace h3 := of_decide_eq_true h3
   refine wc_stay ?_
   refine wc_seq ?_
   refine wc_block ?_
   refine wc_seq ?_
   refine wc_text ?_
   obtain ⟨k, hki⟩ := get_of_lt (l := ks) (k := i) (by omega)
   have hkb := hk k (List.mem_of_getElem? hki)
   have hs3 := set_len k 3
   have hfl := full_len k i
   have htm : 0 ≤ (i : Int).tmod 2 ∧ (i : Int).tmod 2 ≤ 1 := by rw [show (i : Int).tmod 2 = ((i % 2 : Nat) : Int) from rfl]; omega
   have hf1 : setK k 3 ++ [(⟨[110, 97, 109, 101], [nb i]⟩ : LD)] = fullK k i := rfl
   refine w_buildS (cs := []) u43 s42 z42 (by decide) rfl rfl rfl (fun o25 => ?_)
   first | refine w_faddrC O25_0 rfl rfl ?_ | refine w_faddrP O25_0 rfl rfl ?_
   first | refine w_ldC1 a22 rfl rfl rdc ?_ | refine w_ldP1 a22 rfl rfl tk rdp ?_
   refine w_move rfl rfl ?_
   first | refine w_lidx u22 s95 rfl rfl rfl (by omega) ?_ | refine w_slidx u22 s95 rfl rfl rfl (by omega) ?_
   first | refine w_ldC a95 s95 rfl rfl agc ?_ | refine w_ldP a95 s95 rfl rfl tk agp ?_
   refine w_call rfl rfl (cw_fn rfl rfl (.cons fz .nil) (setK_fn _ (by omega) (by omega)) ?_)
   refine WS.ownEmpty (v := .slice (some ⟨o25, 0⟩) 0 (.exact 0)) (.inl ⟨_, rfl⟩) 42 2 ?_
   refine w_appO (enc := eL) (l := []) (m := setK k 3) rfl u43 s42 b42 z42 u43 (by simp) rfl rfl rfl tk nw bg bg (fun v32 => ?_)
   refine w_assign rfl rfl ?_
   refine ws_nil ?_
   refine wc_seq ?_
   refine wc_text ?_
   refine w_move rfl rfl ?_
   refine w_move rfl rfl ?_
   refine w_rem u3 rfl rfl rfl (by omega) ?_
   refine w_add u3 rfl rfl rfl (by omega) ?_
   refine w_conv rfl rfl (conv_int u3 u5) ?_
   rw [nb_wrap (by omega)]
   refine w_buildSF (cs := [nb i].flatMap eB) u40 s5 z5 (by decide) rfl rfl rfl (by decide) rfl rfl ?_
   refine w_text (l := [nb i]) u9 u40 u5 rfl rfl ?_
   refine w_build (v := .agg [_, _]) B42 rfl rfl rfl ?_
   refine w_buildSF (cs := [(⟨[110, 97, 109, 101], [nb i]⟩ : LD)].flatMap eL) u43 s42 z42 (by decide) rfl rfl rfl (by decide) rfl rfl ?_
   refine w_appO (enc := eL) (l := setK k 3) (m := [(⟨[110, 97, 109, 101], [nb i]⟩ : LD)]) rfl u43 s42 b42 z42 u43 (by simp) rfl rfl rfl tk nw bg bg (fun v42 => ?_)
   refine w_assign rfl rfl ?_
   refine ws_nil ?_
   refine WC.freeze (t := 7) (v' := AL eL (fullK k i)) rfl rfl (.ownK rfl tk (flat_done (by intro _; rfl) _)) rfl ?_
   refine wc_seq ?_
   refine wc_text ?_
   skip
   refine w_assign (v := .str []) rfl rfl ?_
   refine ws_nil ?_
   refine wc_seq ?_
   refine wc_seq ?_
   refine wc_text ?_
   refine w_move rfl rfl ?_
   first | refine w_len rfl rfl (len_lst u43) ?_ | refine w_len rfl rfl (len_slice u43) ?_ | refine w_lenO rfl u43 rfl rfl tk ?_
   refine w_move rfl rfl ?_
   refine ws_nil ?_
   refine wc_block ?_
   refine wc_loop (σ := { j : Nat // j ≤ (fullK k i).length }) (fun w => [(1, .func (.func 12) [.ptr (some ⟨o, 0⟩)] []), (2, .cptr [AL eKS ks, AL eLL ls] 0), (5, .map (some o13)), (6, .int .i64 (i : Nat)), (7, AL eL (fullK k i)), (8, .str (keyT ((fullK k i).take w.1))), (43, AL eL (fullK k i)), (44, .int .i64 ((fullK k i).length : Nat)), (45, .int .i64 (w.1 : Nat))]) (fun w => [.obj o13 (.map (entsA AV.str AV.bool (fillN ks ls i).2 0) (fillN ks ls i).2.length), hiS o (fillN ks ls i).1]) (fun w => (fullK k i).length - w.1) ?_ ⟨0, Nat.zero_le _⟩ (.cons rfl (.cons rfl (.cons rfl (.cons rfl (.cons rfl (.cons rfl (.cons rfl (.cons rfl (.cons rfl (.nil _)))))))))) (Sel.weak (.cons tk (.cons tk .nil)))
   rintro ⟨j, hj⟩
   try dsimp only
   have hkl := key_len k i j
   refine wc_seq ?_
   refine wc_text ?_
   refine w_lss u3 rfl rfl rfl ?_
   refine ws_nil ?_
   refine wc_seq ?_
   refine wc_cond rfl (fun h9 => ?_) (fun h9 => ?_)
   ·replace h9 := of_decide_eq_true h9
    refine wc_stay ?_
    refine wc_seq ?_
    refine wc_block ?_
    refine wc_seq ?_
    refine wc_text ?_
    obtain ⟨x, hx⟩ := get_of_lt (l := (fullK k i)) (k := j) (by omega)
    first | refine w_lidx u43 s42 rfl rfl rfl (by omega) ?_ | refine w_slidx u43 s42 rfl rfl rfl (by omega) ?_
    first | refine w_ldC a42 s42 rfl rfl agc ?_ | refine w_ldP a42 s42 rfl rfl tk agp ?_
    refine w_alloc z42 s42 rfl (fun o10 => ?_)
    refine w_st s42 rfl rfl rfl tk rfl rfl ovw ?_
    refine ws_nil ?_
    refine WC.freezePtr (t := 10) (cs := eL x) rfl rfl .head rfl ?_
    refine wc_text ?_
    have hxo := full_ok (List.mem_of_getElem? hx)
    have hxn := ok_name hxo
    have hxv := (ok_value hxo).1
    refine w_move rfl rfl ?_
    first | refine w_faddrC O42_0 rfl rfl ?_ | refine w_faddrP O42_0 rfl rfl ?_
    first | refine w_ldC1 a9 rfl rfl rdc ?_ | refine w_ldP1 a9 rfl rfl tk rdp ?_
    refine w_sadd u9 rfl rfl rfl (by first | omega | (simp only [List.length_append, List.length_cons, List.length_nil]; omega)) ?_
    refine w_sadd (b := [61]) u9 rfl rfl rfl (by first | omega | (simp only [List.length_append, List.length_cons, List.length_nil]; omega)) ?_
    first | refine w_faddrC O42_1 rfl rfl ?_ | refine w_faddrP O42_1 rfl rfl ?_
    first | refine w_ldC1 a9 rfl rfl rdc ?_ | refine w_ldP1 a9 rfl rfl tk rdp ?_
    refine w_sadd u9 rfl rfl rfl (by first | omega | (simp only [List.length_append, List.length_cons, List.length_nil]; omega)) ?_
    refine w_sadd (b := [59]) u9 rfl rfl rfl (by first | omega | (simp only [List.length_append, List.length_cons, List.length_nil]; omega)) ?_
    refine w_assign rfl rfl ?_
    refine ws_nil ?_
    refine wc_text ?_
    rw [key_one hx]
    refine w_add u3 rfl rfl rfl (by omega) ?_
    refine w_move rfl rfl ?_
    refine ws_nil ?_
    exact ⟨⟨j + 1, by omega⟩, by simp only; omega, (.cons rfl (.cons rfl (.cons rfl (.cons rfl (.cons rfl (.cons rfl (.cons rfl (.cons rfl (.cons rfl (.nil _)))))))))), (Sel.weak (.cons tk (.cons tk .nil)))⟩
   ·replace h9 := of_decide_eq_false h9
    obtain rfl : j = (fullK k i).length := by omega
    rw [List.take_length]
    refine wc_exit ?_
    refine wc_seq ?_
    refine wc_seq ?_
    refine wc_text ?_
    refine w_move rfl rfl ?_
    refine w_move rfl rfl ?_
    refine w_lookA u93 (key_str u9) y4 rfl rfl rfl rfl tk ?_
    dsimp only [okV]
    refine w_move rfl rfl ?_
    refine ws_split (t := 62) rfl (fun g62 => ?_) (fun g62 => ?_)
    ·first | replace g62 := dT g62 | replace g62 := dF g62 | replace g62 := dFT g62 | replace g62 := dTF g62 | replace g62 := nb_T g62 | replace g62 := nb_F g62 | skip
     first | replace g62 := nL g62 | replace g62 := nM g62 | replace g62 := nN g62 | skip
     refine ws_off rfl rfl rfl rfl ?_
     refine ws_off rfl rfl rfl rfl ?_
     refine ws_off rfl rfl rfl rfl ?_
     refine ws_off rfl rfl rfl rfl ?_
     refine ws_off rfl rfl rfl rfl ?_
     first | refine w_pickT rfl rfl rfl ⟨_, rfl⟩ ?_ | refine w_pickF rfl rfl ⟨_, rfl⟩ rfl ?_ | refine w_pick rfl rfl rfl rfl ?_
     refine ws_nil ?_
     refine wc_condT rfl ?_
     refine wc_exit ?_
     refine wc_text ?_
     first | rw [fill_met hki g62] | rw [fill_out (ls := ls) hki (by omega)] | rw [show putAll (fillN ks ls i).1 (fullK k i) (samplesK l) = (fillN ks ls (i + 1)).1 by rw [fill_in hki hil g62], show putA (fillN ks ls i).2 (keyT (fullK k i)) true = (fillN ks ls (i + 1)).2 by rw [fill_in hki hil g62]]
     refine w_move rfl rfl ?_
     refine w_add u3 rfl rfl rfl (by omega) ?_
     refine w_assign rfl rfl ?_
     refine ws_nil ?_
     exact ⟨⟨i + 1, by omega, by omega⟩, by simp only; omega, (.cons rfl (.cons rfl (.cons rfl (.cons rfl (.nil _))))), (Sel.weak (.cons tk (.cons tk .nil)))⟩
    ·first | replace g62 := dT g62 | replace g62 := dF g62 | replace g62 := dFT g62 | replace g62 := dTF g62 | replace g62 := nb_T g62 | replace g62 := nb_F g62 | skip
     first | replace g62 := nL g62 | replace g62 := nM g62 | replace g62 := nN g62 | skip
     refine ws_on rfl rfl ?_
     refine w_move rfl rfl ?_
     refine ws_on rfl rfl ?_
     first | refine w_faddrC O25_1 rfl rfl ?_ | refine w_faddrP O25_1 rfl rfl ?_
     refine ws_on rfl rfl ?_
     first | refine w_ldC1 a23 rfl rfl rdc ?_ | refine w_ldP1 a23 rfl rfl tk rdp ?_
     refine ws_on rfl rfl ?_
     first | refine w_len rfl rfl (len_lst u23) ?_ | refine w_len rfl rfl (len_slice u23) ?_ | refine w_lenO rfl u23 rfl rfl tk ?_
     refine ws_on rfl rfl ?_
     refine w_geq u3 rfl rfl rfl ?_
     first | refine w_pickT rfl rfl rfl ⟨_, rfl⟩ ?_ | refine w_pickF rfl rfl ⟨_, rfl⟩ rfl ?_ | refine w_pick rfl rfl rfl rfl ?_
     refine ws_nil ?_
     refine wc_cond rfl (fun h13 => ?_) (fun h13 => ?_)
     ·replace h13 := of_decide_eq_true h13
      refine wc_exit ?_
      refine wc_text ?_
      first | rw [fill_met hki g62] | rw [fill_out (ls := ls) hki (by omega)] | rw [show putAll (fillN ks ls i).1 (fullK k i) (samplesK l) = (fillN ks ls (i + 1)).1 by rw [fill_in hki hil g62], show putA (fillN ks ls i).2 (keyT (fullK k i)) true = (fillN ks ls (i + 1)).2 by rw [fill_in hki hil g62]]
      refine w_move rfl rfl ?_
      refine w_add u3 rfl rfl rfl (by omega) ?_
      refine w_assign rfl rfl ?_
      refine ws_nil ?_
      exact ⟨⟨i + 1, by omega, by omega⟩, by simp only; omega, (.cons rfl (.cons rfl (.cons rfl (.cons rfl (.nil _))))), (Sel.weak (.cons tk (.cons tk .nil)))⟩
     ·replace h13 := of_decide_eq_false h13
      obtain ⟨l, hil⟩ := get_of_lt (l := ls) (k := i) (by omega)
      have hll := hl l (List.mem_of_getElem? hil)
      have hP := hG.puts (by omega) g62 l
      have hsl := samples_len l
      refine wc_stay ?_
      refine wc_seq ?_
      refine wc_text ?_
      refine w_move rfl rfl ?_
      refine w_move rfl rfl ?_
      refine w_mapUpdA u93 (key_str u9) rfl rfl rfl rfl tk ?_
      refine ws_nil ?_
      refine wc_seq ?_
      refine wc_text ?_
      first | refine w_faddrC O25_1 rfl rfl ?_ | refine w_faddrP O25_1 rfl rfl ?_
      first | refine w_ldC1 a23 rfl rfl rdc ?_ | refine w_ldP1 a23 rfl rfl tk rdp ?_
      refine w_move rfl rfl ?_
      first | refine w_lidx u23 s33 rfl rfl rfl (by omega) ?_ | refine w_slidx u23 s33 rfl rfl rfl (by omega) ?_
      first | refine w_ldC1 a33 rfl rfl rdc ?_ | refine w_ldP1 a33 rfl rfl tk rdp ?_
      refine w_call rfl rfl (cw_fn rfl rfl (.cons fz .nil) (samplesK_fn _ (by omega)) ?_)
      first | refine w_len rfl rfl (len_lst u52) ?_ | refine w_len rfl rfl (len_slice u52) ?_ | refine w_lenO rfl u52 rfl rfl tk ?_
      refine w_move rfl rfl ?_
      refine ws_nil ?_
      refine wc_block ?_
      refine wc_loop (σ := { j : Nat // j ≤ (samplesK l).length }) (fun w => [(1, .func (.func 12) [.ptr (some ⟨o, 0⟩)] []), (2, .cptr [AL eKS ks, AL eLL ls] 0), (5, .map (some o13)), (6, .int .i64 (i : Nat)), (7, AL eL (fullK k i)), (76, AL eSm (samplesK l)), (77, .int .i64 ((samplesK l).length : Nat)), (78, .int .i64 (w.1 : Nat))]) (fun w => [.obj o13 (.map (entsA AV.str AV.bool (putA (fillN ks ls i).2 (keyT (fullK k i)) true) 0) (putA (fillN ks ls i).2 (keyT (fullK k i)) true).length), hiS o (putAll (fillN ks ls i).1 (fullK k i) ((samplesK l).take w.1))]) (fun w => (samplesK l).length - w.1) ?_ ⟨0, Nat.zero_le _⟩ (.cons rfl (.cons rfl (.cons rfl (.cons rfl (.cons rfl (.cons rfl (.cons rfl (.cons rfl (.nil _))))))))) (Sel.weak (.cons tk (.cons tk .nil)))
      rintro ⟨j, hj⟩
      try dsimp only
      refine wc_seq ?_
      refine wc_text ?_
      refine w_lss u3 rfl rfl rfl ?_
      refine ws_nil ?_
      refine wc_seq ?_
      refine wc_cond rfl (fun h16 => ?_) (fun h16 => ?_)
      ·replace h16 := of_decide_eq_true h16
       refine wc_stay ?_
       refine wc_seq ?_
       refine wc_block ?_
       refine wc_seq ?_
       refine wc_text ?_
       obtain ⟨x, hx⟩ := get_of_lt (l := (samplesK l)) (k := j) (by omega)
       first | refine w_lidx u52 s46 rfl rfl rfl (by omega) ?_ | refine w_slidx u52 s46 rfl rfl rfl (by omega) ?_
       first | refine w_ldC a46 s46 rfl rfl agc ?_ | refine w_ldP a46 s46 rfl rfl tk agp ?_
       refine w_alloc z46 s46 rfl (fun o12 => ?_)
       refine w_st s46 rfl rfl rfl tk rfl rfl ovw ?_
       refine ws_nil ?_
       refine WC.freezePtr (t := 12) (cs := eSm x) rfl rfl .head rfl ?_
       refine wc_seq ?_
       refine wc_text ?_
       refine w_move rfl rfl ?_
       refine w_move rfl rfl ?_
       first | refine w_ldC a46 s46 rfl rfl agc ?_ | refine w_ldP a46 s46 rfl rfl tk agp ?_
       refine w_callVX (l' := [.ptr (some ⟨o, 0⟩), AL eL (fullK k i), .agg (eSm x)]) rfl rfl rfl rfl (CallW.mono (CallW.take tk (put_fn o (putAll (fillN ks ls i).1 (fullK k i) ((samplesK l).take j)) (sane_all hG.sane _ _) (fullK k i) x (by omega) _)) ?_)
       rintro _ _ ⟨rfl, rfl⟩
       rw [hP.1 j x hx, putAll_one hx]
       refine w_neq u44 rfl rfl rfl ?_
       refine ws_nil ?_
       refine wc_cond rfl (fun h18 => ?_) (fun h18 => ?_)
       ·first | replace h18 := dT h18 | replace h18 := dF h18 | replace h18 := dFT h18 | replace h18 := dTF h18 | replace h18 := nb_T h18 | replace h18 := nb_F h18 | skip
        first | replace h18 := nL h18 | replace h18 := nM h18 | replace h18 := nN h18 | skip
        exact absurd rfl h18
       ·skip
        refine wc_stay ?_
        refine wc_text ?_
        refine w_add u3 rfl rfl rfl (by omega) ?_
        refine w_move rfl rfl ?_
        refine ws_nil ?_
        exact ⟨⟨j + 1, by omega⟩, by simp only; omega, (.cons rfl (.cons rfl (.cons rfl (.cons rfl (.cons rfl (.cons rfl (.cons rfl (.cons rfl (.nil _))))))))), (Sel.weak (.cons tk (.cons tk .nil)))⟩
      ·replace h16 := of_decide_eq_false h16
       obtain rfl : j = (samplesK l).length := by omega
       rw [List.take_length]
       refine wc_exit ?_
       refine wc_text ?_
       first | rw [fill_met hki g62] | rw [fill_out (ls := ls) hki (by omega)] | rw [show putAll (fillN ks ls i).1 (fullK k i) (samplesK l) = (fillN ks ls (i + 1)).1 by rw [fill_in hki hil g62], show putA (fillN ks ls i).2 (keyT (fullK k i)) true = (fillN ks ls (i + 1)).2 by rw [fill_in hki hil g62]]
       refine w_move rfl rfl ?_
       refine w_add u3 rfl rfl rfl (by omega) ?_
       refine w_assign rfl rfl ?_
       refine ws_nil ?_
       exact ⟨⟨i + 1, by omega, by omega⟩, by simp only; omega, (.cons rfl (.cons rfl (.cons rfl (.cons rfl (.nil _))))), (Sel.weak (.cons tk (.cons tk .nil)))⟩
  ·replace h3 := of_decide_eq_false h3
   obtain rfl : i = 5 := by omega
   refine wc_exit ?_
   refine wc_seq ?_
   refine wc_text ?_
   refine WS.drop (i := .obj o13 _) tk ?_
   refine w_assign rfl rfl ?_
   refine ws_nil ?_
   refine wc_ret ?_
   refine ⟨_, _, (.cons (.tmp rfl) .nil), (Sel.weak (.cons tk .nil)), ?_⟩
   refine ⟨rfl, ?_⟩
   unfold fillW
   first | rw [show min ks.length 5 = i by omega] | rw [show min ks.length 5 = 5 by omega]
 ·first | replace g19 := dT g19 | replace g19 := dF g19 | replace g19 := dFT g19 | replace g19 := dTF g19 | replace g19 := nb_T g19 | replace g19 := nb_F g19 | skip
  first | replace g19 := nL g19 | replace g19 := nM g19 | replace g19 := nN g19 | skip
  refine ws_off rfl rfl rfl rfl ?_
  refine ws_off rfl rfl rfl rfl ?_
  first | refine w_pickT rfl rfl rfl ⟨_, rfl⟩ ?_ | refine w_pickF rfl rfl ⟨_, rfl⟩ rfl ?_ | refine w_pick rfl rfl rfl rfl ?_
  refine ws_nil ?_
  refine wc_condF rfl ?_
  refine wc_exit ?_
  refine wc_seq ?_
  refine wc_text ?_
  refine WS.drop (i := .obj o13 _) tk ?_
  refine w_assign rfl rfl ?_
  refine ws_nil ?_
  refine wc_ret ?_
  refine ⟨_, _, (.cons (.tmp rfl) .nil), (Sel.weak (.cons tk .nil)), ?_⟩
  refine ⟨rfl, ?_⟩
  unfold fillW
  first | rw [show min ks.length 5 = i by omega] | rw [show min ks.length 5 = 5 by omega]
end Go.Proofs.YtlgofplbbmjdjaaGreatDoor.kx
