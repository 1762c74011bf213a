/-
  The disk, played: what its calls come to, case by case (no program in sight).
-/
import Derived.Test.YtknpdigpendnjaaBhDkL
namespace Go.Proofs.Ytknpdigpendnjaa.BH.Dk

structure AskD where
  kind : Int
  n : Int
  a : List UInt8
  b : List UInt8
def eAsk (q : AskD) : List AV := [.int .i64 q.kind, .int .i64 q.n, AL eB q.a, AL eB q.b]
structure AskOk (q : AskD) : Prop where
  n0 : -9223372036854775808 ≤ q.n
  n1 : q.n ≤ 9223372036854775807
  a : q.a.length ≤ 9223372036854775807
  b : q.b.length ≤ 9223372036854775807
/-- The fuse, as it is told. -/
def fuz (s : St) : Int := if s.lit then s.fuse else -1
theorem fz_lit {s : St} (h : 0 ≤ fuz s) : s.lit = true ∧ fuz s = s.fuse := by
  unfold fuz at *
  cases hl : s.lit with
  | true => exact ⟨rfl, by simp⟩
  | false => rw [hl] at h; simp at h
theorem fz_un {s : St} (k : Ok s) (h : fuz s < 0) : s.lit = false := by
  cases hl : s.lit with
  | false => rfl
  | true => unfold fuz at h; rw [hl] at h; have := k.l0 hl; simp at h; omega
theorem fz_le (s : St) (k : Ok s) : -1 ≤ fuz s ∧ fuz s ≤ 9223372036854775807 := by
  unfold fuz
  have := k.l0; have := k.l1
  cases hl : s.lit with
  | false => simp
  | true => have := k.l0 hl; simp; omega

/-! ### Write -/
theorem wr_off {s : St} {l : List UInt8} (h : s.off = true) : writeV s l = 9 ∧ writeS s l = s := by
  constructor
  · unfold writeV; rw [h]; rfl
  · unfold writeS; rw [h]; rfl
theorem wr_cut {s : St} {l : List UInt8} (ho : s.off = false) (hf : (s.b.length : Int) + l.length ≤ s.room) (hl : s.lit = true) (h : s.fuse < l.length) :
    writeV s l = 9 ∧ writeS s l = ⟨s.room, s.firm, s.b ++ l.take s.fuse.toNat, true, true, 0⟩ := by
  have hm : min (l.length : Int) s.fuse = s.fuse := by omega
  constructor
  · unfold writeV putS burnS; rw [ho, if_neg (by simp), if_neg (by omega), hl]; simp [hm, h]
  · unfold writeS putS burnS burnV; rw [ho, if_neg (by simp), if_neg (by omega), hl]; simp [hm, h]
theorem wr_fuse {s : St} {l : List UInt8} (ho : s.off = false) (hf : (s.b.length : Int) + l.length ≤ s.room) (hl : s.lit = true) (h : (l.length : Int) ≤ s.fuse) :
    writeV s l = 0 ∧ writeS s l = ⟨s.room, s.firm, s.b ++ l, false, true, s.fuse - l.length⟩ := by
  have hm : min (l.length : Int) s.fuse = l.length := by omega
  constructor
  · unfold writeV putS burnS; rw [ho, if_neg (by simp), if_neg (by omega), hl]; simp [hm]
  · unfold writeS putS burnS burnV; rw [ho, if_neg (by simp), if_neg (by omega), hl]; simp [hm]
theorem wr_free {s : St} {l : List UInt8} (ho : s.off = false) (hf : (s.b.length : Int) + l.length ≤ s.room) (hl : s.lit = false) :
    writeV s l = 0 ∧ writeS s l = ⟨s.room, s.firm, s.b ++ l, false, false, s.fuse⟩ := by
  constructor
  · unfold writeV putS burnS; rw [ho, if_neg (by simp), if_neg (by omega), hl]; simp [ho]
  · unfold writeS putS burnS burnV; rw [ho, if_neg (by simp), if_neg (by omega), hl]; simp [ho, hl]
theorem write_ok {s : St} (l : List UInt8) (k : Ok s) : Ok (writeS s l) := by
  have r0 := k.r0; have r1 := k.r1; have kb := k.b; have f0 := k.f0; have f1 := k.f1; have l0 := k.l0; have l1 := k.l1; have l2 := k.l2
  cases ho : s.off with
  | true => rw [(wr_off ho).2]; exact k
  | false =>
    by_cases hf : s.room < s.b.length + l.length
    · rw [(writeF ho hf).2]; exact k
    · cases hl : s.lit with
      | false =>
        rw [(wr_free ho (by omega) hl).2]
        exact ⟨r0, r1, by simp; omega, f0, by simp; omega, fun h => (by cases h), l1, l2⟩
      | true =>
        by_cases h : s.fuse < l.length
        · rw [(wr_cut ho (by omega) hl h).2]
          exact ⟨r0, r1, by simp; omega, f0, by simp; omega, fun _ => by simp, by simp, by simp⟩
        · have := l0 hl
          rw [(wr_fuse ho (by omega) hl (by omega)).2]
          exact ⟨r0, r1, by simp; omega, f0, by simp; omega, fun _ => by simp; omega, by simp; omega, by simp; omega⟩

/-! ### Sync, Back -/
def opV (s : St) (kind n : Int) : Int := if kind = 2 then syncV s else backV s n
def opS (s : St) (kind n : Int) : St := if kind = 2 then syncS s else backS s n
def badQ (s : St) (kind n : Int) : Bool := decide (kind = 3) && (decide (n < 0) || decide ((s.b.length : Int) < n))
theorem op_off {s : St} {kind n : Int} (h : s.off = true) : opV s kind n = 9 ∧ opS s kind n = s := by
  have h1 : oneV s = false := by unfold oneV; rw [h]; rfl
  have h2 : oneS s = s := by unfold oneS; rw [h]; rfl
  constructor
  · unfold opV syncV backV; rw [h1, h]; split <;> rfl
  · unfold opS syncS backS; rw [h1, h, h2]; split <;> rfl
theorem op_bad {s : St} {kind n : Int} (hk : kind = 2 ∨ kind = 3) (ho : s.off = false) (h : badQ s kind n = true) : opV s kind n = 1 ∧ opS s kind n = s := by
  unfold badQ at h
  simp only [Bool.and_eq_true, Bool.or_eq_true, decide_eq_true_eq] at h
  have h3 : ¬ kind = 2 := by omega
  constructor
  · unfold opV; rw [if_neg h3]; exact (backF ho h.2).1
  · unfold opS; rw [if_neg h3]; exact (backF ho h.2).2
theorem op_zero {s : St} {kind n : Int} (hk : kind = 2 ∨ kind = 3) (ho : s.off = false) (h : badQ s kind n = false) (hl : s.lit = true) (hf : s.fuse = 0) :
    opV s kind n = 9 ∧ opS s kind n = ⟨s.room, s.firm, s.b, true, true, 0⟩ := by
  have hm : min (1 : Int) s.fuse = 0 := by omega
  have h1 : oneV s = false := by unfold oneV burnV; rw [ho, hl]; simp [hm]
  have h2 : oneS s = ⟨s.room, s.firm, s.b, true, true, 0⟩ := by unfold oneS burnS; rw [ho, hl]; simp [hf]; exact ⟨by decide, by decide⟩
  have hb : kind = 3 → ¬ (n < 0 ∨ (s.b.length : Int) < n) := by
    intro h3 hb
    unfold badQ at h
    rw [h3] at h; simp at h; omega
  rcases hk with rfl | rfl
  · exact ⟨by unfold opV syncV; simp [h1], by unfold opS syncS; simp [h1, h2]⟩
  · exact ⟨by unfold opV backV; rw [if_neg (by decide), ho, if_neg (by simp), if_neg (hb rfl), h1]; rfl, by unfold opS backS; rw [if_neg (by decide), ho, if_neg (by simp), if_neg (hb rfl), h1, h2]; rfl⟩
/-- What goes. -/
def goS (s : St) (kind n fuse : Int) : St := if kind = 2 then ⟨s.room, s.b.length, s.b, false, s.lit, fuse⟩ else ⟨s.room, min s.firm n, s.b.take n.toNat, false, s.lit, fuse⟩
theorem op_fuse {s : St} {kind n : Int} (hk : kind = 2 ∨ kind = 3) (ho : s.off = false) (h : badQ s kind n = false) (hl : s.lit = true) (hf : 0 < s.fuse) : opV s kind n = 0 ∧ opS s kind n = goS s kind n (s.fuse - 1) := by
  have hm : min (1 : Int) s.fuse = 1 := by omega
  have h1 : oneV s = true := by unfold oneV burnV; rw [ho, hl]; simp [hm]
  have h2 : oneS s = ⟨s.room, s.firm, s.b, false, true, s.fuse - 1⟩ := by unfold oneS burnS; rw [ho, hl]; simp [hm]
  have hb : kind = 3 → ¬ (n < 0 ∨ (s.b.length : Int) < n) := by
    intro h3 hb
    unfold badQ at h
    rw [h3] at h; simp at h; omega
  rcases hk with rfl | rfl
  · exact ⟨by unfold opV syncV; simp [h1], by unfold opS syncS goS; simp [h1, h2, hl]⟩
  · exact ⟨by unfold opV backV; rw [if_neg (by decide), ho, if_neg (by simp), if_neg (hb rfl), h1]; rfl, by unfold opS backS goS; simp only [show ¬ (3 : Int) = 2 by decide, if_false]; rw [if_neg (by simp [ho]), if_neg (hb rfl), h1, h2, hl]; rfl⟩
theorem op_free {s : St} {kind n : Int} (hk : kind = 2 ∨ kind = 3) (ho : s.off = false) (h : badQ s kind n = false) (hl : s.lit = false) : opV s kind n = 0 ∧ opS s kind n = goS s kind n s.fuse := by
  have h1 : oneV s = true := by unfold oneV burnV; rw [ho, hl]; simp
  have h2 : oneS s = ⟨s.room, s.firm, s.b, false, false, s.fuse⟩ := by obtain ⟨r, f, b, o, l, u⟩ := s; simp only at ho hl; subst ho; subst hl; rfl
  have hb : kind = 3 → ¬ (n < 0 ∨ (s.b.length : Int) < n) := by
    intro h3 hb
    unfold badQ at h
    rw [h3] at h; simp at h; omega
  rcases hk with rfl | rfl
  · exact ⟨by unfold opV syncV; simp [h1], by unfold opS syncS goS; simp [h1, h2, hl]⟩
  · exact ⟨by unfold opV backV; rw [if_neg (by decide), ho, if_neg (by simp), if_neg (hb rfl), h1]; rfl, by unfold opS backS goS; simp only [show ¬ (3 : Int) = 2 by decide, if_false]; rw [if_neg (by simp [ho]), if_neg (hb rfl), h1, h2, hl]; rfl⟩
theorem bad_not {s : St} {n : Int} (h : badQ s 3 n = false) : 0 ≤ n ∧ n ≤ s.b.length := by
  unfold badQ at h; simp at h; omega
theorem op_ok {s : St} {kind : Int} (n : Int) (hk : kind = 2 ∨ kind = 3) (k : Ok s) : Ok (opS s kind n) := by
  have r0 := k.r0; have r1 := k.r1; have kb := k.b; have f0 := k.f0; have f1 := k.f1; have l0 := k.l0; have l1 := k.l1; have l2 := k.l2
  cases ho : s.off with
  | true => rw [(op_off ho).2]; exact k
  | false =>
    cases hb : badQ s kind n with
    | true => rw [(op_bad hk ho hb).2]; exact k
    | false =>
      have hgo : ∀ fuse, (s.lit = true → 0 ≤ fuse) → fuse ≤ 9223372036854775807 → -9223372036854775808 ≤ fuse → Ok (goS s kind n fuse) := by
        intro fuse g0 g1 g2
        unfold goS
        rcases hk with rfl | rfl
        · exact ⟨r0, r1, kb, by simp, by simp, g0, g1, g2⟩
        · obtain ⟨b0, b1⟩ := bad_not hb
          rw [if_neg (by decide)]
          exact ⟨r0, r1, by simp; omega, by simp; omega, by simp; omega, g0, g1, g2⟩
      cases hl : s.lit with
      | false => rw [(op_free hk ho hb hl).2]; exact hgo _ (fun h => by rw [hl] at h; cases h) l1 l2
      | true =>
        have := l0 hl
        by_cases hf : s.fuse = 0
        · rw [(op_zero hk ho hb hl hf).2]; exact ⟨r0, r1, kb, f0, f1, fun _ => by simp, by simp, by simp⟩
        · rw [(op_fuse hk ho hb hl (by omega)).2]; exact hgo _ (fun _ => by omega) (by omega) (by omega)
theorem arm_ok {s : St} {n : Int} (k : Ok s) (h0 : -9223372036854775808 ≤ n) (h1 : n ≤ 9223372036854775807) : Ok (armS s n) :=
  ⟨k.r0, k.r1, k.b, k.f0, k.f1, fun h => of_decide_eq_true h, h1, h0⟩
theorem fz_arm (s : St) (n : Int) : fuz (armS s n) = max n (-1) := by
  unfold fuz armS
  by_cases h : 0 ≤ n
  · simp [h]; omega
  · simp [h]; omega
theorem boot_ok {s : St} (n : Int) (k : Ok s) : Ok (bootS s n) := by
  have hb := bootN_in s n k
  have kb := k.b
  exact ⟨k.r0, k.r1, by simp [bootS]; omega, hb.1, by simp [bootS]; omega, fun h => (by cases h), by simp [bootS], by simp [bootS]⟩
theorem boot_len {s : St} (n : Int) (k : Ok s) : ((s.b.take (bootN s n).toNat).length : Int) = bootN s n := by
  have hb := bootN_in s n k
  rw [List.length_take]; omega
theorem boot_clamp (s : St) (n : Int) (k : Ok s) : s.firm + clampV n 0 (s.b.length - s.firm) = bootN s n := by
  have := k.f1
  unfold clampV bootN
  split <;> (try split) <;> omega
theorem clamp_new (room : Int) : clampV room 0 20000 = (newS room).room := by
  show clampV room 0 20000 = max 0 (min room 20000)
  unfold clampV
  split <;> (try split) <;> omega
theorem read_len {s : St} (k : Ok s) : (readL s).length ≤ 20000 := by
  have := k.b; have := k.r1
  unfold readL
  split
  · simp
  · omega

theorem writeS_firm (s : St) (l : List UInt8) : (writeS s l).firm = s.firm := by
  unfold writeS; split
  · rfl
  · split
    · rfl
    · unfold putS; exact burnS_firm _ _
theorem writeS_room (s : St) (l : List UInt8) : (writeS s l).room = s.room := by
  unfold writeS; split
  · rfl
  · split
    · rfl
    · unfold putS; exact burnS_room _ _
theorem opS_room (s : St) (kind n : Int) : (opS s kind n).room = s.room := by
  unfold opS syncS backS
  split
  · split
    · exact oneS_room s
    · exact oneS_room s
  · split
    · rfl
    · split
      · rfl
      · split <;> exact oneS_room s
/-- Bytes as numbers. -/
def eU (z : Int) : List AV := [.int .u8 z]
theorem bytes_nums (l : List UInt8) : l.flatMap eB = (l.map fun b => (b.toNat : Int)).flatMap eU := by
  rw [List.flatMap_map]; rfl
/-- Two parts. -/
theorem two_parts {va vb : AV} {A B : List UInt8} {H1 R : List HI} {k : Nat} (h : k < 2) :
    ∃ v L HR, [va, vb][k]? = some v ∧ [A, B][k]? = some L ∧ Take (H1 ++ (.own va 5 1 (A.flatMap eB) A.length :: .own vb 5 1 (B.flatMap eB) B.length :: R)) (.own v 5 1 (L.flatMap eB) L.length) HR := by
  have tl : ∀ {H1 T HR : List HI} {i : HI}, Take T i HR → Take (H1 ++ T) i (H1 ++ HR) := by
    intro H1
    induction H1 with
    | nil => intro T HR i t; exact t
    | cons j r ih => intro T HR i t; exact .tail (ih t)
  match k, h with
  | 0, _ => exact ⟨va, A, _, rfl, rfl, tl .head⟩
  | 1, _ => exact ⟨vb, B, _, rfl, rfl, tl (.tail .head)⟩
theorem eU_len (z : Int) : (eU z).length = 1 := rfl
theorem over_oneP {cs : List AV} {i : Int} {k : Nat} {v : AV} (hi : i = (k : Nat)) (h : k < cs.length) : over cs (0 + i.toNat * 1) [v] = some (cs.set k v) := by
  subst hi
  rw [Nat.zero_add, Nat.mul_one, Int.toNat_natCast]; exact over_one h
theorem setU {l : List Int} {k : Nat} {x y : Int} (hx : l[k]? = some x) : (l.flatMap eU).set k (.int .u8 y) = (l.set k y).flatMap eU := by
  have e : ∀ l : List Int, l.flatMap eU = l.map fun z => AV.int .u8 z := by
    intro l
    induction l with
    | nil => rfl
    | cons a r ih => rw [List.flatMap_cons, ih]; rfl
  rw [e, e, List.map_set]
end Go.Proofs.Ytknpdigpendnjaa.BH.Dk
