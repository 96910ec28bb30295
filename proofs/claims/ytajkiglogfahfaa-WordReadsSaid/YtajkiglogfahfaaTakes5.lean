/- The walk of the law's takes: bytes; every kind; told. -/
import Derived.Test.YtajkiglogfahfaaTakes
set_option linter.unusedVariables false
set_option linter.unusedSimpArgs false
namespace Go.Proofs.Ytajkiglogfahfaa
open Go.RowKit

/-- what takes comes to, with the book -/
def TakesBk (w : World) (B gx gr : Nat) (rr : Option Nat) (gv : Nat) (A : Option Addr) (c : Nat) (bs : List Nat) (cs : List Value) (S : List Nat) (e : Ending) (w' : World) : Prop :=
  e = .returned (.bool true) ∧ ∃ s' cs' S', Pd w' B gr rr gv A c s' ∧ Bk w' gx 3 75 cs' S' ∧ Chg (gr :: gv :: gx :: S) w w' ∧ (∀ k ∈ S', k ∈ S ∨ w.heap.size ≤ k) ∧ (∀ i, (i < 3 ∨ 3 + 4 ≤ i) → cs'[i]? = cs[i]?) ∧ s'.b = bs
theorem Pd.chg {T : List Nat} {w w' : World} {B gr gv c : Nat} {rr : Option Nat} {A : Option Addr} {s : Wd.R} (h : Pd w B gr rr gv A c s) (hc : Chg T w w') (h1 : gr ∉ T) (h2 : gv ∉ T) (h3 : ∀ k, rr = some k → k ∉ T) (hT : ∀ k ∈ T, B ≤ k) (hB : B ≤ w.heap.size) : Pd w' B gr rr gv A c s :=
  ⟨h.rd.chg hc h1 h3, h.ry.chg hc h2 hT hB, h.base⟩
theorem takes_bk {w w' : World} {B gx gr gv c : Nat} {rr : Option Nat} {A : Option Addr} {bs : List Nat} {cs : List Value} {S : List Nat} {e : Ending} (h : TakesPost w B gr rr gv A c bs e w') (hbk : Bk w gx 3 75 cs S) (h1 : gr ∉ S ∧ gv ∉ S) (h2 : gx ≠ gr ∧ gx ≠ gv) : TakesBk w B gx gr rr gv A c bs cs S e w' := by
  obtain ⟨he, s', hp, hc, hb⟩ := h
  refine ⟨he, s', cs, S, hp, hbk.chg hc (fun k hk hm => ?_) (by simp; exact h2), hc.wide (by simp), fun k hk => .inl hk, fun _ _ => rfl, hb⟩
  simp at hm
  rcases hm with e | e
  · exact h1.1 (by rw [← e]; exact hk)
  · exact h1.2 (by rw [← e]; exact hk)
set_option maxRecDepth 100000 in
set_option maxHeartbeats 1000000 in
theorem takes_5 (gx B gr gv c : Nat) (rr : Option Nat) (A : Option Addr) (s : Wd.R) (at_ : Int) (n : Nat) (num : Int) (pa : Option Addr) (pn pc : Nat) (t : ByteArray) (w : World) (hw : Pd w B gr rr gv A c s) (hB : B ≤ w.heap.size) (hnum : -9223372036854775808 ≤ num ∧ num ≤ 9223372036854775807) (hl : s.b.length ≤ 70368744177664)
    (cs : List Value) (S : List Nat) (hbk : Bk w gx 3 75 cs S) (h1 : gr ∉ S ∧ gv ∉ S ∧ ∀ k, rr = some k → k ∉ S) (h2 : gx ≠ gr ∧ gx ≠ gv ∧ rr ≠ some gx) (hSB : B ≤ gx ∧ ∀ k ∈ S, B ≤ k) :
    Calls Try.prog 88 #[.pointer (some ⟨gx, 0, none⟩), .pointer (some ⟨gr, 0, none⟩), .pointer (some ⟨gv, 0, none⟩), .agg #[.int .i64 5, .int .i64 at_, .int .u64 (n : Nat), .int .i64 num, .slice pa pn pc, .string t]] w (TakesBk w B gx gr rr gv A c s.b cs S) := by
  have hbx : Below w.heap.size w (w.alloc (.cells #[.int .i64 5, .int .i64 at_, .int .u64 (n : Nat), .int .i64 num, .slice pa pn pc, .string t] 54)) := (Below.refl _ _).alloc (Nat.le_refl _) _
  have hrow := Row.new w 54 [.int .i64 5, .int .i64 at_, .int .u64 (n : Nat), .int .i64 num, .slice pa pn pc, .string t]
  obtain ⟨w0, hw0⟩ : ∃ w0, w0 = w.alloc (.cells #[.int .i64 5, .int .i64 at_, .int .u64 (n : Nat), .int .i64 num, .slice pa pn pc, .string t] 54) := ⟨_, rfl⟩
  obtain ⟨g0, hg0⟩ : ∃ g0, g0 = w.heap.size := ⟨_, rfl⟩
  have hrow : Row w0 g0 54 [.int .i64 5, .int .i64 at_, .int .u64 (n : Nat), .int .i64 num, .slice pa pn pc, .string t] := by rw [hw0, hg0]; exact hrow
  have HBX : Hid (Below w.heap.size w w0) := Lib.hid (by rw [hw0]; exact hbx)
  have hp0 := hw.below HBX.out hB
  have hB0 : B ≤ w0.heap.size := by have := HBX.out.size; omega
  have HP := Lib.hid hp0
  have hgrl : gr < w.heap.size := by obtain ⟨cs, h⟩ := hw.rd.blk.1; exact h.lt
  have hgvl : gv < w.heap.size := hw.ry.1.lt
  have hgxl : gx < w.heap.size := hbk.row.lt
  have hSl : Hid (∀ k ∈ S, k < w.heap.size) := Lib.hid (by obtain ⟨xs, L, M, held, SL, SM, _, _, _, _, _, hk⟩ := hbk.rest; exact hk.lt)
  have hsz0 := HBX.out.size
  have HROW := Lib.hid hrow
  have HBK := Lib.hid (hbk.chg (T := []) (Chg.of_below HBX.out) (by simp) (by simp))
  have HR := Lib.hid (rbytes_any gr rr s num w0 hp0.rd hl hnum.2)
  have HSB := Lib.hid (bytes_b s num)
  have hyl : (s.bytes num).2.length ≤ s.b.length := by
    by_cases he : s.e = 0
    · by_cases h0 : num < 0
      · rw [dbytes_neg s num he h0]; simp
      · obtain ⟨m, rfl⟩ : ∃ m : Nat, num = m := ⟨num.toNat, by omega⟩
        rw [dbytes_eq s m he]
        unfold Wd.R.dtake
        split
        · simp
        · split
          · simp
          · simp; omega
    · rw [dbytes_not s num he]; simp
  obtain ⟨s1, y, hy⟩ : ∃ s1 y, s.bytes num = (s1, y) := ⟨_, _, rfl⟩
  rw [hy] at HR HSB hyl
  simp only at HR HSB hyl
  have HY := Lib.hid hy
  have H1 := Lib.hid h1; have H2 := Lib.hid h2; have H3 := Lib.hid hSB
  have b3 := hrow.cell 3
  simp only [List.getElem?_cons_zero, List.getElem?_cons_succ] at b3
  obtain ⟨ny, hny⟩ : ∃ ny, ny = y.length := ⟨_, rfl⟩
  rw [← hny] at hyl
  have HNY := Lib.hid hny
  have HG0 := Lib.hid hg0
  clear hw hbx hrow hp0 hbk h1 h2 hSB hy hny
  go_enter Try.func88, Try.ntmps88
  go_wp2_with fail
  rw [← hw0]
  first | rw [← hg0] | skip
  clear hw0 hg0
  refine HR.out.mono ?_
  rintro e w1 ⟨⟨v, rfl, A1, c1', rfl, hown⟩, r1, c1⟩
  rw [← HNY.out] at hown ⊢
  have hs1 := c1.size
  have HD := Lib.hid (drbytes_any B gv c num A s w1 (HP.out.mid c1 hB0) (by omega) hnum.2 hl)
  rw [HY.out] at HD
  simp only at HD
  have hn0 : g0 ∉ [gr] := by simp; have := HG0.out; omega
  have b3' := (c1.row HROW.out hn0).cell 3
  simp only [List.getElem?_cons_zero, List.getElem?_cons_succ] at b3'
  have HR1 := Lib.hid r1; have HC1 := Lib.hid c1; have HOWN := Lib.hid hown
  clear r1 c1 hown
  go_wp2_with fail
  refine HD.out.mono ?_
  rintro e w2 ⟨⟨A2, m2, c2', rfl, hb2⟩, r2, c2⟩
  have hm2 : m2 = ny := by have := hb2.len; have := HNY.out; omega
  subst hm2
  have hob : ∀ k, (Value.slice A1 m2 c1').ownBlock = some k → w0.heap.size ≤ k := by
    intro k hk
    rcases HOWN.out.1.2 with ⟨hv, _⟩ | ⟨g, cap, cur, hv, hg, _⟩
    · rw [hv] at hk; cases hk
    · rw [hv] at hk
      simp [Value.ownBlock] at hk
      omega
  have hown2 : Own w2 w0.heap.size A1 m2 c1' y := own_chg HOWN.out c2 (fun k hk => by have := hob k hk; simp; omega)
  have HOB := Lib.hid hob
  have HOWN2 := Lib.hid hown2
  have HSAME := Lib.hid (same_yes A1 A2 m2 c1' c2' y w2 hown2.isB hb2)
  have hs2 := c2.size
  have HPD := Lib.hid (HP.out.done HR1.out HC1.out r2 c2)
  clear r2 c2 hb2 hown2 hob
  go_wp2_with fail
  refine HSAME.out.mono ?_
  rintro e w3 ⟨rfl, k3, rfl⟩
  have hbk2 : Bk (w2.drewN k3) gx 3 75 cs S := HBK.out.chg (HPD.out.2.drewN k3) (fun k hk hm => by
    simp at hm
    rcases hm with e | e
    · exact H1.out.1 (by rw [← e]; exact hk)
    · exact H1.out.2.1 (by rw [← e]; exact hk)) (by simp; exact ⟨H2.out.1, H2.out.2.1⟩)
  have HKEEP := Lib.hid (keep_any gx 3 _ cs S A1 m2 c1' y (w2.drewN k3) hbk2 ((HOWN2.out.mono (Nat.zero_le _)).below (below_drewN (Below.refl _ _) k3)) (by omega) (fun k hk => ⟨fun hm => by have := HOB.out k hk; have := hSl.out k hm; omega, by have := HOB.out k hk; omega⟩))
  clear hbk2
  go_wp2_with fail
  refine HKEEP.out.mono ?_
  rintro e w4 ⟨rfl, cs', S', q1, q2, q3, q4⟩
  have HQ1 := Lib.hid q1; have HQ2 := Lib.hid q2; have HQ3 := Lib.hid q3; have HQ4 := Lib.hid q4
  clear q1 q2 q3 q4
  go_wp2_with fail
  go_ret
  have hpd : Pd (w2.drewN k3) B gr rr gv A c s1 := HPD.out.1.chg (T := []) ((Chg.refl [] w2).drewN k3) (by simp) (by simp) (by simp) (by simp) (by omega)
  refine ⟨rfl, s1, cs', S', hpd.chg HQ2.out ?_ ?_ ?_ ?_ (by show B ≤ w2.heap.size; omega), HQ1.out, ?_, fun k hk => ?_, HQ4.out, HSB.out⟩
  · simp; exact ⟨fun e => H2.out.1 e.symm, H1.out.1⟩
  · simp; exact ⟨fun e => H2.out.2.1 e.symm, H1.out.2.1⟩
  · intro k hk
    simp
    exact ⟨fun e => H2.out.2.2 (by rw [hk, e]), H1.out.2.2 k hk⟩
  · intro k hk
    rcases List.mem_cons.1 hk with rfl | hk
    · exact H3.out.1
    · exact H3.out.2 k hk
  · have ha : Chg [gr, gv] w (w2.drewN k3) := (Chg.of_below HBX.out).trans (HPD.out.2.drewN k3) (fun x hx => .inl hx)
    exact (ha.wide (T := gr :: gv :: gx :: S) (by simp)).trans (HQ2.out.wide (T := gr :: gv :: gx :: S) (by intro k hk; simp at hk ⊢; rcases hk with hk | hk <;> simp [hk])) (fun x hx => .inl hx)
  · rcases HQ3.out k hk with h | h | h
    · exact .inl h
    · have h : w2.heap.size ≤ k := h
      exact .inr (by omega)
    · have := HOB.out k h; exact .inr (by omega)
set_option maxRecDepth 100000 in
set_option maxHeartbeats 1000000 in
theorem takes_0 (gx B gr gv c : Nat) (rr : Option Nat) (A : Option Addr) (s : Wd.R) (kind at_ : Int) (n : Nat) (num : Int) (pa : Option Addr) (pn pc : Nat) (t : ByteArray) (w : World) (hw : Pd w B gr rr gv A c s) (hB : B ≤ w.heap.size) (hk : kind ≠ 1 ∧ kind ≠ 2 ∧ kind ≠ 3 ∧ kind ≠ 4 ∧ kind ≠ 5 ∧ kind ≠ 6 ∧ kind ≠ 7 ∧ kind ≠ 8) :
    Calls Try.prog 88 #[.pointer (some ⟨gx, 0, none⟩), .pointer (some ⟨gr, 0, none⟩), .pointer (some ⟨gv, 0, none⟩), .agg #[.int .i64 kind, .int .i64 at_, .int .u64 (n : Nat), .int .i64 num, .slice pa pn pc, .string t]] w (TakesPost w B gr rr gv A c s.b) := by
  obtain ⟨k1, k2, k3, k4, k5, k6, k7, k8⟩ := hk
  have h1 : (kind == 1) = false := beq_eq_false_iff_ne.2 k1
  have h2 : (kind == 2) = false := beq_eq_false_iff_ne.2 k2
  have h3 : (kind == 3) = false := beq_eq_false_iff_ne.2 k3
  have h4 : (kind == 4) = false := beq_eq_false_iff_ne.2 k4
  have h5 : (kind == 5) = false := beq_eq_false_iff_ne.2 k5
  have h6 : (kind == 6) = false := beq_eq_false_iff_ne.2 k6
  have h7 : (kind == 7) = false := beq_eq_false_iff_ne.2 k7
  have h8 : (kind == 8) = false := beq_eq_false_iff_ne.2 k8
  have hbx : Below w.heap.size w (w.alloc (.cells #[.int .i64 kind, .int .i64 at_, .int .u64 (n : Nat), .int .i64 num, .slice pa pn pc, .string t] 54)) := (Below.refl _ _).alloc (Nat.le_refl _) _
  have HB := Lib.hid hbx
  have HW := Lib.hid (hw.below hbx hB)
  clear hw hbx k1 k2 k3 k4 k5 k6 k7 k8
  go_enter Try.func88, Try.ntmps88
  go_wp2_with fail
  go_ret
  exact ⟨rfl, s, HW.out, Chg.of_below HB.out, rfl⟩
/-- one step on a reader and on the document's -/
theorem takes_any (gx B gr gv c : Nat) (rr : Option Nat) (A : Option Addr) (s : Wd.R) (o : OpA) (w : World) (hw : Pd w B gr rr gv A c s) (hB : B ≤ w.heap.size) (hnum : -9223372036854775808 ≤ o.num ∧ o.num ≤ 9223372036854775807) (hl : s.b.length ≤ 70368744177664)
    (cs : List Value) (S : List Nat) (hbk : Bk w gx 3 75 cs S) (h1 : gr ∉ S ∧ gv ∉ S ∧ ∀ k, rr = some k → k ∉ S) (h2 : gx ≠ gr ∧ gx ≠ gv ∧ rr ≠ some gx) (hSB : B ≤ gx ∧ ∀ k ∈ S, B ≤ k) :
    Calls Try.prog 88 #[.pointer (some ⟨gx, 0, none⟩), .pointer (some ⟨gr, 0, none⟩), .pointer (some ⟨gv, 0, none⟩), .agg #[.int .i64 o.kind, .int .i64 o.at_, .int .u64 (o.n : Nat), .int .i64 o.num, .slice o.pa o.pn o.pc, .string o.s]] w (TakesBk w B gx gr rr gv A c s.b cs S) := by
  obtain ⟨kind, at_, n, num, pa, pn, pc, t⟩ := o
  simp only at hnum ⊢
  have up : ∀ {e w'}, TakesPost w B gr rr gv A c s.b e w' → TakesBk w B gx gr rr gv A c s.b cs S e w' := fun h => takes_bk h hbk ⟨h1.1, h1.2.1⟩ ⟨h2.1, h2.2.1⟩
  by_cases k1 : kind = 1
  · subst k1; exact (takes_1 gx B gr gv c rr A s at_ n num pa pn pc t w hw hB hnum hl).mono fun _ _ h => up h
  by_cases k2 : kind = 2
  · subst k2; exact (takes_2 gx B gr gv c rr A s at_ n num pa pn pc t w hw hB hnum hl).mono fun _ _ h => up h
  by_cases k3 : kind = 3
  · subst k3; exact (takes_3 gx B gr gv c rr A s at_ n num pa pn pc t w hw hB hnum hl).mono fun _ _ h => up h
  by_cases k4 : kind = 4
  · subst k4; exact (takes_4 gx B gr gv c rr A s at_ n num pa pn pc t w hw hB hnum hl).mono fun _ _ h => up h
  by_cases k5 : kind = 5
  · subst k5; exact takes_5 gx B gr gv c rr A s at_ n num pa pn pc t w hw hB hnum hl cs S hbk h1 h2 hSB
  by_cases k6 : kind = 6
  · subst k6; exact (takes_6 gx B gr gv c rr A s at_ n num pa pn pc t w hw hB hnum hl).mono fun _ _ h => up h
  by_cases k7 : kind = 7
  · subst k7; exact (takes_7 gx B gr gv c rr A s at_ n num pa pn pc t w hw hB hnum hl).mono fun _ _ h => up h
  by_cases k8 : kind = 8
  · subst k8; exact (takes_8 gx B gr gv c rr A s at_ n num pa pn pc t w hw hB hnum hl).mono fun _ _ h => up h
  · exact (takes_0 gx B gr gv c rr A s kind at_ n num pa pn pc t w hw hB ⟨k1, k2, k3, k4, k5, k6, k7, k8⟩).mono fun _ _ h => up h
set_option maxRecDepth 100000 in
set_option maxHeartbeats 400000 in
theorem rleft_q (g : Nat) (r : Option Nat) (s : Wd.R) (w : World) (hw : Rd w g r s) : Calls Try.prog 53 #[.pointer (some ⟨g, 0, none⟩)] w fun e w' => e = .returned (.int .i64 ((s.b.length - s.at_ : Nat) : Int)) ∧ ∃ m, w' = w.drewN m := by
  obtain ⟨A, c, c0, c1, c2, f0, f1, f2, hlt, hat, hcn, HB, HD, HROW, HOWN⟩ := hw.open_
  have hmx := HB.out.b.1.2.2
  have w1 : IntKind.i64.wrap ((s.b.length : Int) - (s.at_ : Int)) = ((s.b.length - s.at_ : Nat) : Int) := by rw [IntKind.wrap_i64]; omega
  clear hw
  go_enter Try.func53, Try.ntmps53
  go_wp2_with fail
  go_quiet (fail)
  go_wp2_with fail
  go_ret
  exact ⟨rfl, _, rfl⟩
set_option maxRecDepth 100000 in
set_option maxHeartbeats 400000 in
theorem rend_q (g : Nat) (r : Option Nat) (s : Wd.R) (w : World) (hw : Rd w g r s) : Calls Try.prog 40 #[.pointer (some ⟨g, 0, none⟩)] w fun e w' => e = .returned (.int .i64 (s.end_ : Nat)) ∧ ∃ m, w' = w.drewN m := by
  obtain ⟨A, c, c0, c1, c2, f0, f1, f2, hlt, hat, hcn, HB, HD, HROW, HOWN⟩ := hw.open_
  have HW := Lib.hid hw
  have HE := Lib.hid (show s.end_ = if s.e = 0 ∧ s.at_ < s.b.length then 12 else s.e from rfl)
  by_cases he : s.e = 0
  · have c2' : w.cell? ⟨g, 2, none⟩ = some (.int .i64 0) := by rw [he] at c2; exact c2
    have HL := Lib.hid (rleft_q g r s w hw)
    have HZ := Lib.hid he
    clear hw he c2
    by_cases hl : s.at_ < s.b.length
    · have HX := Lib.hid (show s.end_ = 12 by rw [HE.out, if_pos ⟨HZ.out, hl⟩])
      have hpos : 0 < s.b.length - s.at_ := by omega
      obtain ⟨m, hm⟩ : ∃ m, m = s.b.length - s.at_ := ⟨_, rfl⟩
      rw [← hm] at HL hpos
      clear hm hl
      go_enter Try.func40, Try.ntmps40
      go_wp2_with fail
      refine HL.out.mono ?_
      rintro e w1 ⟨rfl, k1, rfl⟩
      go_wp2_with fail
      go_ret
      rw [HX.out]
      exact ⟨rfl, _, rfl⟩
    · have HX := Lib.hid (show s.end_ = 0 by rw [HE.out, if_neg (by omega)]; exact HZ.out)
      have hz : s.b.length - s.at_ = 0 := by omega
      rw [hz] at HL
      clear hl hz
      go_enter Try.func40, Try.ntmps40
      go_wp2_with fail
      refine HL.out.mono ?_
      rintro e w1 ⟨rfl, k1, rfl⟩
      go_wp2_with fail
      go_ret
      rw [HX.out]
      exact ⟨rfl, _, rfl⟩
  · have he1 : ((s.e : Int) == 0) = false := beq_eq_false_iff_ne.2 (by omega)
    have HX := Lib.hid (show s.end_ = s.e by rw [HE.out, if_neg (by omega)])
    clear hw he
    go_enter Try.func40, Try.ntmps40
    go_wp2_with fail
    go_ret
    rw [HX.out]
    exact ⟨rfl, 0, rfl⟩
set_option maxRecDepth 100000 in
set_option maxHeartbeats 1000000 in
theorem told_any (B gr gv c : Nat) (rr : Option Nat) (A : Option Addr) (s : Wd.R) (w : World) (hw : Pd w B gr rr gv A c s) (hB : B ≤ w.heap.size) (hl : s.b.length ≤ 70368744177664) :
    Calls Try.prog 45 #[.pointer (some ⟨gr, 0, none⟩), .pointer (some ⟨gv, 0, none⟩)] w fun e w' => e = .returned (.bool true) ∧ ∃ m, w' = w.drewN m := by
  have HR : Hid (∀ m, Rd (w.drewN m) gr rr s) := Lib.hid fun m => hw.rd.below (below_drewN (Below.refl _ _) m)
  have HY : Hid (∀ m, Ry (w.drewN m) B gv A c s) := Lib.hid fun m => hw.ry.below (below_drewN (Below.refl _ _) m) hB
  have hat := hw.ry.2.2.2.1
  have c0 := hw.ry.1.cell 0; have c1 := hw.ry.1.cell 1; have c2 := hw.ry.1.cell 2
  simp only [List.getElem?_cons_zero, List.getElem?_cons_succ] at c0 c1 c2
  have hlt := hw.ry.1.lt
  obtain ⟨nb, hnb⟩ : ∃ nb, nb = s.b.length := ⟨_, rfl⟩
  rw [← hnb] at c0 hat hl
  have HNB := Lib.hid hnb
  obtain ⟨a, ha⟩ : ∃ a, a = s.at_ := ⟨_, rfl⟩
  obtain ⟨er, her⟩ : ∃ er, er = s.e := ⟨_, rfl⟩
  obtain ⟨en, hen⟩ : ∃ en, en = s.end_ := ⟨_, rfl⟩
  rw [← ha] at c1 hat
  rw [← her] at c2
  have ws : IntKind.i64.wrap ((nb : Int) - (a : Int)) = ((nb - a : Nat) : Int) := by rw [IntKind.wrap_i64]; omega
  have HA : Hid (∀ m, Calls Try.prog 42 #[.pointer (some ⟨gr, 0, none⟩)] (w.drewN m) fun e w' => e = .returned (.int .i64 (a : Nat)) ∧ w' = w.drewN m) := Lib.hid fun m => (rat_any gr rr s (w.drewN m) (HR.out m)).mono fun e w' h => ⟨by rw [h.1, ha], h.2.symm⟩
  have HER : Hid (∀ m, Calls Try.prog 41 #[.pointer (some ⟨gr, 0, none⟩)] (w.drewN m) fun e w' => e = .returned (.int .i64 (er : Nat)) ∧ w' = w.drewN m) := Lib.hid fun m => (rerr_any gr rr s (w.drewN m) (HR.out m)).mono fun e w' h => ⟨by rw [h.1, her], h.2.symm⟩
  have HLF : Hid (∀ m, Calls Try.prog 53 #[.pointer (some ⟨gr, 0, none⟩)] (w.drewN m) fun e w' => e = .returned (.int .i64 ((nb - a : Nat) : Int)) ∧ ∃ k, w' = (w.drewN m).drewN k) := Lib.hid fun m => (rleft_q gr rr s (w.drewN m) (HR.out m)).mono fun e w' h => ⟨by rw [h.1, ha, hnb], h.2⟩
  have HEN : Hid (∀ m, Calls Try.prog 40 #[.pointer (some ⟨gr, 0, none⟩)] (w.drewN m) fun e w' => e = .returned (.int .i64 (en : Nat)) ∧ ∃ k, w' = (w.drewN m).drewN k) := Lib.hid fun m => (rend_q gr rr s (w.drewN m) (HR.out m)).mono fun e w' h => ⟨by rw [h.1, hen], h.2⟩
  have HDE : Hid (∀ m, Calls Try.prog 89 #[.pointer (some ⟨gv, 0, none⟩)] (w.drewN m) fun e w' => e = .returned (.int .i64 (en : Nat)) ∧ ∃ k, w' = (w.drewN m).drewN k) := Lib.hid fun m => (drend_any B gv c A s (w.drewN m) (HY.out m)).mono fun e w' h => ⟨by rw [h.1, hen], h.2⟩
  have q1 : ((a : Int) != (a : Int)) = false := by simp
  have q2 : (((nb - a : Nat) : Int) != ((nb - a : Nat) : Int)) = false := by simp
  have q3 : ((er : Int) != (er : Int)) = false := by simp
  have q4 : ((en : Int) != (en : Int)) = false := by simp
  have ek : ((nb : Int) - (a : Int)) = ((nb - a : Nat) : Int) := by omega
  have ws2 : IntKind.i64.wrap ((nb - a : Nat) : Int) = ((nb - a : Nat) : Int) := by rw [IntKind.wrap_i64]; omega
  clear hw hnb ha her hen ws
  go_enter Try.func45, Try.ntmps45
  go_wp2_with fail
  go_loopw [5] (fun i wr => ∃ j : Nat, j ≤ 2 ∧ i = .int .i64 j ∧ Hid (∃ m, wr = w.drewN m)) (fun i _ => 2 - (intOf i).toNat)
  case atStart => exact ⟨0, by omega, rfl, Lib.hid ⟨0, rfl⟩⟩
  case round =>
    obtain ⟨j, hj, rfl, HM⟩ := hrel
    obtain ⟨m0, hm0⟩ := HM.out
    by_cases hj2 : j < 2
    · have c0' : wr.cell? ⟨gv, 0, none⟩ = some (.slice A nb c) := by rw [hm0]; exact c0
      have c1' : wr.cell? ⟨gv, 1, none⟩ = some (.int .i64 (a : Nat)) := by rw [hm0]; exact c1
      have c2' : wr.cell? ⟨gv, 2, none⟩ = some (.int .i64 (er : Nat)) := by rw [hm0]; exact c2
      have hlt' : gv < wr.heap.size := by rw [hm0]; exact hlt
      have HA' : Hid (∀ m, Calls Try.prog 42 #[.pointer (some ⟨gr, 0, none⟩)] (wr.drewN m) fun e w' => e = .returned (.int .i64 (a : Nat)) ∧ w' = wr.drewN m) := Lib.hid fun m => by rw [hm0, World.drewN_drewN]; exact HA.out _
      have HER' : Hid (∀ m, Calls Try.prog 41 #[.pointer (some ⟨gr, 0, none⟩)] (wr.drewN m) fun e w' => e = .returned (.int .i64 (er : Nat)) ∧ w' = wr.drewN m) := Lib.hid fun m => by rw [hm0, World.drewN_drewN]; exact HER.out _
      have HLF' : Hid (∀ m, Calls Try.prog 53 #[.pointer (some ⟨gr, 0, none⟩)] (wr.drewN m) fun e w' => e = .returned (.int .i64 ((nb - a : Nat) : Int)) ∧ ∃ k, w' = (wr.drewN m).drewN k) := Lib.hid fun m => by rw [hm0, World.drewN_drewN]; exact HLF.out _
      have HEN' : Hid (∀ m, Calls Try.prog 40 #[.pointer (some ⟨gr, 0, none⟩)] (wr.drewN m) fun e w' => e = .returned (.int .i64 (en : Nat)) ∧ ∃ k, w' = (wr.drewN m).drewN k) := Lib.hid fun m => by rw [hm0, World.drewN_drewN]; exact HEN.out _
      have HDE' : Hid (∀ m, Calls Try.prog 89 #[.pointer (some ⟨gv, 0, none⟩)] (wr.drewN m) fun e w' => e = .returned (.int .i64 (en : Nat)) ∧ ∃ k, w' = (wr.drewN m).drewN k) := Lib.hid fun m => by rw [hm0, World.drewN_drewN]; exact HDE.out _
      clear hm0 c0 c1 c2 HA HER HLF HEN HDE
      go_wp2_with fail
      go_quiet (first
        | (go_at_call 42; exact Calls.quiet_of_same (HA'.out _))
        | (go_at_call 53; exact Calls.quiet_of (HLF'.out _))
        | (go_at_call 41; exact Calls.quiet_of_same (HER'.out _))
        | (go_at_call 40; exact Calls.quiet_of (HEN'.out _))
        | (go_at_call 89; exact Calls.quiet_of (HDE'.out _)))
      go_wp2_with fail
      go_roundw
      case rel => exact ⟨j + 1, by omega, by go_num, Lib.hid (by obtain ⟨m0, h⟩ := HM.out; exact ⟨m0 + nq, by rw [h, World.drewN_drewN]⟩)⟩
      case measure => simp [intOf]; omega
    · clear hm0
      go_wp2_with fail
      go_ret
      exact ⟨rfl, HM.out⟩
end Go.Proofs.Ytajkiglogfahfaa
