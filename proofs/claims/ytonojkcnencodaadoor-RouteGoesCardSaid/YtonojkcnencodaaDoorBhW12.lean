/-
  BH: walking by facts: channels (one goroutine; a select of one case with a default); bytes turned into texts.
-/
import Derived.Test.YtonojkcnencodaaDoorBhW11
namespace Go.Proofs.YtonojkcnencodaaDoor.BH
noncomputable section
section
variable {C : Ctx} {n d : Nat} {all r : List Oper} {ty : TypeId} {pos : String} {after : Array Edge} {E : Fs} {HF HR : List HI} {Q : Fs → List HI → Prop}

theorem chanAt_of {h : AHeap} {o cap s k : Nat} {buf : List AV} (hg : h.get o = some (.chan cap buf s k)) : chanAt h o = some (cap, buf, s, k) := by unfold chanAt; rw [hg]

theorem w_makeChan {t e b m : Nat} {x : Operand} {dir : ChanDir} {k : IntKind} (hu : undOf C.P t = some (.chan dir e)) (hb : bytesOf C.P e = some b) (hd : Nat.blt d n = true) (hx : ev E x = some (.int k (m : Nat))) (h1 : m ≤ 9223372036854775807) (h2 : b * m ≤ 281474976710544)
    (hk : ∀ o, WS C n all r ((d, .chan (some o)) :: E) (.obj o (.chan m [] 0 0) :: HF) Q) : WS C n all (⟨some d, .makeChan t x, ty, pos, after, none⟩ :: r) E HF Q :=
  ws_stepX rfl fun e' h fp hs hh hw => by
    obtain ⟨k1, k2⟩ := sat_push hh hw (.chan m [] 0 0)
    refine ⟨_, _, _, _, _, ⟨0, fun q _ => ?_⟩, hs.put d _ hd, k1, hw.push _, k2, hk h.next⟩
    show (bnd (opv e' x) fun a => (makeChanF C.P t).run h a) = _
    rw [ev_opv hs hx]
    unfold makeChanF; simp only [hu, hb, bnd_some]
    show cnd (Nat.ble m 9223372036854775807 && Nat.ble (b * m) 281474976710544) (some (AV.chan (some h.next), h.push (.chan m [] 0 0))) none = _
    rw [(bleN _ _).mpr h1, (bleN _ _).mpr h2]; rfl

/-- A select of one case with a default: something is taken, or nothing is there. -/
theorem w_recv {c : Operand} {e cap o s k : Nat} {z a : AV} {buf : List AV} (hz : zeroOf C.P e = some z) (hd : Nat.blt d n = true) (hx : ev E c = some (.chan (some o))) (ht : Take HF (.obj o (.chan cap (a :: buf) s k)) HR)
    (hk : WS C n all r ((d, .tuple [.int .i64 0, .bool true, a]) :: E) (.obj o (.chan cap buf s (k + 1)) :: HR) Q) : WS C n all (⟨some d, .select #[⟨c, none, e⟩] false, ty, pos, after, none⟩ :: r) E HF Q :=
  ws_step rfl (fun e' h fp hs hh hw => by
    obtain ⟨fp1, k1, k2⟩ := ht.sat hh
    obtain ⟨m1, m2, m3⟩ := sat_set (x' := .chan cap buf s (k + 1)) k1 hw
    refine ⟨_, _, fp1, ⟨0, fun q _ => ?_⟩, hs.put d _ hd, m1, m2, m3.left k2⟩
    show (selectF C.P [⟨c, none, e⟩] false).run _ e' h = _
    unfold selectF; simp only [hz]
    show (bnd (opv e' c) fun x => bnd (chanRef x) fun r => bnd r fun r => bnd (chanAt h r) fun q => lcase q.2.1 _ _) = _
    rw [ev_opv hs hx]
    show (bnd (chanAt h o) fun q => lcase q.2.1 (some (AV.tuple [.int .i64 (.negSucc 0), .bool false, z], h)) fun a rest => some (AV.tuple [.int .i64 (.ofNat 0), .bool true, a], h.set o (.chan q.1 rest q.2.2.1 (q.2.2.2 + 1)))) = _
    rw [chanAt_of (ht.obj hh).1]; rfl) hk
theorem w_recv0 {c : Operand} {e cap o s k : Nat} {z : AV} (hz : zeroOf C.P e = some z) (hd : Nat.blt d n = true) (hx : ev E c = some (.chan (some o))) (ht : Take HF (.obj o (.chan cap [] s k)) HR)
    (hk : WS C n all r ((d, .tuple [.int .i64 (-1), .bool false, z]) :: E) HF Q) : WS C n all (⟨some d, .select #[⟨c, none, e⟩] false, ty, pos, after, none⟩ :: r) E HF Q :=
  ws_step rfl (fun e' h fp hs hh hw => by
    refine ⟨_, h, fp, ⟨0, fun q _ => ?_⟩, hs.put d _ hd, hh, hw, .refl _ _⟩
    show (selectF C.P [⟨c, none, e⟩] false).run _ e' h = _
    unfold selectF; simp only [hz]
    show (bnd (opv e' c) fun x => bnd (chanRef x) fun r => bnd r fun r => bnd (chanAt h r) fun q => lcase q.2.1 _ _) = _
    rw [ev_opv hs hx]
    show (bnd (chanAt h o) fun q => lcase q.2.1 (some (AV.tuple [.int .i64 (.negSucc 0), .bool false, z], h)) fun a rest => some (AV.tuple [.int .i64 (.ofNat 0), .bool true, a], h.set o (.chan q.1 rest q.2.2.1 (q.2.2.2 + 1)))) = _
    rw [chanAt_of (ht.obj hh).1]; rfl) hk
theorem w_send {c x : Operand} {e cap o s k : Nat} {z a : AV} {buf : List AV} (hz : zeroOf C.P e = some z) (hd : Nat.blt d n = true) (hx : ev E c = some (.chan (some o))) (hy : ev E x = some a) (ht : Take HF (.obj o (.chan cap buf s k)) HR) (hl : buf.length < cap)
    (hk : WS C n all r ((d, .tuple [.int .i64 0, .bool false]) :: E) (.obj o (.chan cap (buf ++ [a]) (s + 1) k) :: HR) Q) : WS C n all (⟨some d, .select #[⟨c, some x, e⟩] false, ty, pos, after, none⟩ :: r) E HF Q :=
  ws_step rfl (fun e' h fp hs hh hw => by
    obtain ⟨fp1, k1, k2⟩ := ht.sat hh
    obtain ⟨m1, m2, m3⟩ := sat_set (x' := .chan cap (buf ++ [a]) (s + 1) k) k1 hw
    refine ⟨_, _, fp1, ⟨0, fun q _ => ?_⟩, hs.put d _ hd, m1, m2, m3.left k2⟩
    show (selectF C.P [⟨c, some x, e⟩] false).run _ e' h = _
    unfold selectF; simp only [hz]
    show (bnd (opv e' c) fun x => bnd (opv e' _) fun y => bnd (chanRef x) fun r => bnd r fun r => bnd (chanAt h r) fun q => cnd _ _ _) = _
    rw [ev_opv hs hx, ev_opv hs hy]
    show (bnd (chanAt h o) fun q => cnd (Nat.blt (lenA q.2.1) q.1) (some (AV.tuple [.int .i64 (.ofNat 0), .bool false], h.set o (.chan q.1 (app q.2.1 [a]) (q.2.2.1 + 1) q.2.2.2))) (some (AV.tuple [.int .i64 (.negSucc 0), .bool false], h))) = _
    rw [chanAt_of (ht.obj hh).1, bnd_some]
    simp only [lenA_eq, app_eq]
    rw [show Nat.blt buf.length cap = true by rw [Nat.blt_eq]; exact hl]; rfl) hk
theorem w_send0 {c x : Operand} {e cap o s k : Nat} {z a : AV} {buf : List AV} (hz : zeroOf C.P e = some z) (hd : Nat.blt d n = true) (hx : ev E c = some (.chan (some o))) (hy : ev E x = some a) (ht : Take HF (.obj o (.chan cap buf s k)) HR) (hl : cap ≤ buf.length)
    (hk : WS C n all r ((d, .tuple [.int .i64 (-1), .bool false]) :: E) HF Q) : WS C n all (⟨some d, .select #[⟨c, some x, e⟩] false, ty, pos, after, none⟩ :: r) E HF Q :=
  ws_step rfl (fun e' h fp hs hh hw => by
    refine ⟨_, h, fp, ⟨0, fun q _ => ?_⟩, hs.put d _ hd, hh, hw, .refl _ _⟩
    show (selectF C.P [⟨c, some x, e⟩] false).run _ e' h = _
    unfold selectF; simp only [hz]
    show (bnd (opv e' c) fun x => bnd (opv e' _) fun y => bnd (chanRef x) fun r => bnd r fun r => bnd (chanAt h r) fun q => cnd _ _ _) = _
    rw [ev_opv hs hx, ev_opv hs hy]
    show (bnd (chanAt h o) fun q => cnd (Nat.blt (lenA q.2.1) q.1) (some (AV.tuple [.int .i64 (.ofNat 0), .bool false], h.set o (.chan q.1 (app q.2.1 [a]) (q.2.2.1 + 1) q.2.2.2))) (some (AV.tuple [.int .i64 (.negSucc 0), .bool false], h))) = _
    rw [chanAt_of (ht.obj hh).1, bnd_some]
    simp only [lenA_eq]
    rw [show Nat.blt buf.length cap = false by rw [← Bool.not_eq_true, Nat.blt_eq]; omega]; rfl) hk
theorem w_lenC {t e cap o s k : Nat} {dir : ChanDir} {ts : List TypeId} {tys : Array TypeId} {x : Operand} {buf : List AV} (htys : tys.toList = t :: ts) (hu : undOf C.P t = some (.chan dir e)) (hd : Nat.blt d n = true) (hx : ev E x = some (.chan (some o))) (ht : Take HF (.obj o (.chan cap buf s k)) HR)
    (hk : WS C n all r ((d, .int .i64 buf.length) :: E) HF Q) : WS C n all (⟨some d, .call ⟨.builtin .len, #[x], tys⟩, ty, pos, after, none⟩ :: r) E HF Q :=
  ws_step rfl (fun ee h fp h1 h2 h3 => by
    refine ⟨.int .i64 buf.length, h, fp, ⟨0, fun q _ => ?_⟩, h1.put d _ hd, h2, h3, .refl _ _⟩
    show (bnd (opvs ee [x]) fun l => (builtR (lenF C.P tys.toList)).run h l) = _
    rw [show opvs ee [x] = some [.chan (some o)] from evs_opvs h1 (by show (bnd (ev E x) fun a => bnd (some []) fun l => some (a :: l)) = _; rw [hx]; rfl)]
    show (bnd ((lenF C.P tys.toList).run h (.chan (some o))) fun v => some (v, h)) = _
    rw [htys]
    unfold lenF; simp only [hu]
    show (bnd (bnd (chanAt h o) fun c => some (AV.int .i64 (.ofNat (lenA c.2.1)))) fun v => some (v, h)) = _
    rw [chanAt_of (ht.obj h2).1]
    simp only [bnd_some, lenA_eq]; rfl) hk

theorem WC.reobj {c : Code} {Q : Post} {o : Nat} {x : AObj} (x' : AObj) (t : Take HF (.obj o x) HR) (h : x = x') (k : WC C n c E (.obj o x' :: HR) Q) : WC C n c E HF Q := by subst h; exact WC.take t k
theorem WS.reobj {o : Nat} {x : AObj} (x' : AObj) (t : Take HF (.obj o x) HR) (h : x = x') (k : WS C n all r E (.obj o x' :: HR) Q) : WS C n all r E HF Q := by subst h; exact WS.take t k

theorem LazyF.weak {l : List Oper} {o : Oper} {v v' : AV} (h : LazyF C n l E o v) (hv : VRLe v v') : LazyF C n l E o v' := ⟨fun hs ρ h0 w a ea hw he hl H => (h.run hs ρ h0 w a ea hw he hl H).mono fun u w' ⟨ρ', h', g1, g2⟩ => ⟨ρ', h', hv.2 _ _ g1, g2⟩⟩
theorem LeL.vrl {l m : List AV} (h : LeL l m) {ρ : Rho} : ∀ {us : List Value}, VRL ρ l us → VRL ρ m us := by
  induction h with
  | nil => intro us hu; exact hu
  | cons h _ ih =>
    intro us hu
    simp only [VRL] at hu
    obtain ⟨u, us', rfl, g1, g2⟩ := hu
    exact VRL.cons (h.2 _ _ g1) (ih g2)
theorem lst_le {cs cs' : List AV} {m : Nat} {f p : Bool} (h : LeL cs cs') (hs : cs'.all AV.scalar = true) (hm : m ≠ 0) : VRLe (.lst cs m f p) (.lst cs' m f p) := by
  refine ⟨fun _ => rfl, fun ρ u hu => ?_⟩
  simp only [VR] at hu ⊢
  obtain ⟨ao, cap, e1, e2, e3, e4, e6, e5⟩ := hu
  refine ⟨ao, cap, e1, e2, e3, hs, e6, ?_⟩
  rcases e5 with ⟨h0, _⟩ | ⟨b, off, x, us, k1, k2, k3, k4⟩
  · exact absurd h0 hm
  · exact .inr ⟨b, off, x, us, k1, k2, h.vrl k3, k4⟩

/-! ### texts of bytes -/
theorem bytes_cells : ∀ l : List UInt8, bytesOfCells (l.flatMap eB) = some l
  | [] => rfl
  | b :: r => by
    show (bnd (byteOf (.int .u8 b.toNat)) fun a => bnd (bytesOfCells (r.flatMap eB)) fun l => some (a :: l)) = _
    rw [bytes_cells r]
    have : byteOf (.int .u8 (b.toNat : Nat)) = some b := by
      show cnd (Nat.ble b.toNat 255) (some (UInt8.ofNat b.toNat)) none = _
      rw [(bleN _ _).mpr (by have := b.toNat_lt; omega)]
      simp
    rw [this]; rfl
theorem w_text {s t e : TypeId} {x : Operand} {l : List UInt8} (hu : undOf C.P t = some .string) (hs : undOf C.P s = some (.slice e)) (hb : undOf C.P e = some (.int .u8)) (hd : Nat.blt d n = true) (hx : ev E x = some (AL eB l)) (hk : WS C n all r ((d, .str l) :: E) HF Q) :
    WS C n all (⟨some d, .convert s t x, ty, pos, after, none⟩ :: r) E HF Q :=
  ws_pure hd (fun e' h _ h1 => by
    show (bnd (opv e' x) fun a => (convF C.P s t).run h a) = _
    rw [ev_opv h1 hx]
    unfold convF; simp only [hu, hs]
    have e1 : isByte C.P e = true := by unfold isByte; rw [hb]
    simp only [e1, cnd_true, bnd_some]
    show (bnd (takeN l.length (l.flatMap eB)) fun cs => bnd (bytesOfCells cs) fun l => some (AV.str l, h)) = _
    have := slots_of (cs := l.flatMap eB) (o := 0) (k := l.length) (by rw [flat_length eB_len]; omega)
    rw [show takeN l.length (l.flatMap eB) = some (((l.flatMap eB).drop 0).take l.length) from this, bnd_some, List.drop_zero, List.take_of_length_le (by rw [flat_length eB_len]; omega), bytes_cells]; rfl) hk
end
end
end Go.Proofs.YtonojkcnencodaaDoor.BH
