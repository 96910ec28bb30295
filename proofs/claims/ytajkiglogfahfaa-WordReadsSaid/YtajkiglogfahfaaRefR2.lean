/- The walks of the document's reader: Number, Bytes, back, End. -/
import Derived.Test.YtajkiglogfahfaaRefR
set_option linter.unusedVariables false
set_option linter.unusedSimpArgs false
namespace Go.Proofs.Ytajkiglogfahfaa
open Go.RowKit

theorem dtake_len (s : Wd.R) (k : Nat) : (s.dtake k).2.length = 0 ∨ (s.dtake k).2.length = k := by
  unfold Wd.R.dtake
  by_cases he : s.e ≠ 0
  · rw [if_pos he]; exact .inl rfl
  · rw [if_neg he]
    by_cases hl : s.b.length < s.at_ + k
    · rw [if_pos hl]; exact .inl rfl
    · rw [if_neg hl]; exact .inr (by simp; omega)
set_option maxRecDepth 100000 in
set_option maxHeartbeats 1000000 in
theorem drnum_any (B g c k : Nat) (A : Option Addr) (s : Wd.R) (w : World) (hw : Ry w B g A c s) (hB : B ≤ w.heap.size) (h1 : 1 ≤ k) (h8 : k ≤ 8) :
    Calls Try.prog 115 #[.pointer (some ⟨g, 0, none⟩), .int .i64 (k : Nat)] w fun e w' => e = .returned (.int .u64 ((s.take k).2 : Nat)) ∧ Ry w' B g A c (s.take k).1 ∧ Chg [g] w w' := by
  have HQ := Lib.hid (Wd.dtake_num s k h1 hw.2.2.2.1)
  have HT := Lib.hid (dtake_any B g c k A s w hw hB (by omega))
  have HLN := Lib.hid (dtake_len s k)
  clear hw
  go_enter Try.func115, Try.ntmps115
  go_wp2_with fail
  refine HT.out.mono ?_
  rintro e w1 ⟨⟨A', m, c', rfl, hm, hb⟩, hr, hc⟩
  have HML := Lib.hid hb.len
  have HRC : Hid (Ry w1 B g A c (s.dtake k).1 ∧ Chg [g] w w1) := Lib.hid ⟨hr, hc⟩
  have HBB := Lib.hid (hb.more (B' := w1.heap.size) (by have := hc.size; omega))
  clear hb hr hc
  go_wp2_with fail
  by_cases hmk : m < k
  · have HV : Hid ((s.take k).2 = 0) := Lib.hid (by rw [HQ.out]; simp only; rw [if_pos (by have := HML.out; omega)])
    refine (dnum_no A' m c' k w1 hmk h8).mono ?_
    rintro e w2 ⟨rfl, rfl⟩
    clear hm hmk
    go_wp2_with fail
    go_ret
    rw [HV.out, HQ.out]
    exact ⟨rfl, HRC.out.1, HRC.out.2⟩
  · have hmk2 : m = k := by have := HLN.out; have := HML.out; omega
    subst hmk2
    have HV : Hid ((s.take m).2 = Wd.unle (s.dtake m).2) := Lib.hid (by rw [HQ.out]; simp only; rw [if_neg (by have := HML.out; omega)])
    refine (dnum_whole A' m c' _ w1 HBB.out h1 h8).mono ?_
    rintro e w2 ⟨rfl, rfl⟩
    clear hm hmk
    go_wp2_with fail
    go_ret
    rw [HV.out]
    refine ⟨rfl, ?_, HRC.out.2⟩
    rw [HQ.out]
    exact HRC.out.1
theorem dbytes_eq (s : Wd.R) (n : Nat) (he : s.e = 0) : s.bytes (n : Int) = s.dtake n := by
  have h0 : ¬ ((n : Int) < 0) := by omega
  unfold Wd.R.bytes Wd.R.next Wd.R.dtake
  by_cases hl : s.b.length < s.at_ + n
  · simp [he, h0, hl]
  · simp [he, h0, hl]
theorem dbytes_neg (s : Wd.R) (n : Int) (he : s.e = 0) (hn : n < 0) : s.bytes n = (⟨s.b, s.at_, 1⟩, []) := by
  unfold Wd.R.bytes
  rw [if_neg (by omega), if_pos hn]
theorem dbytes_not (s : Wd.R) (n : Int) (he : s.e ≠ 0) : s.bytes n = (s, []) := by
  unfold Wd.R.bytes
  rw [if_pos he]
set_option maxRecDepth 100000 in
set_option maxHeartbeats 1000000 in
theorem drbytes_pos (B g c n : Nat) (A : Option Addr) (s : Wd.R) (w : World) (hw : Ry w B g A c s) (hB : B ≤ w.heap.size) (he : s.e = 0) (hn : n ≤ 9223372036854775807) (hl : s.b.length ≤ 70368744177664) :
    Calls Try.prog 116 #[.pointer (some ⟨g, 0, none⟩), .int .i64 (n : Nat)] w fun e w' => (∃ A' m c', e = .returned (.slice A' m c') ∧ IsB w' w'.heap.size A' m (s.bytes (n : Int)).2) ∧ Ry w' B g A c (s.bytes (n : Int)).1 ∧ Chg [g] w w' := by
  obtain ⟨i0, hi0, hz1, hz2, hz3⟩ := info_parts info5w
  have HI := Lib.hid hi0; have HZ1 := Lib.hid hz1; have HZ2 := Lib.hid hz2; have HZ3 := Lib.hid hz3
  have HT := Lib.hid (dtake_any B g c n A s w hw hB hn)
  have HQ := Lib.hid (dbytes_eq s n he)
  have HLN : Hid ((s.dtake n).2.length ≤ 70368744177664) := Lib.hid (by
    unfold Wd.R.dtake
    rw [if_neg (by omega)]
    split
    · simp
    · simp; omega)
  have c2 := hw.1.cell 2
  simp only [List.getElem?_cons_zero, List.getElem?_cons_succ] at c2
  rw [he] at c2
  have hlt := hw.1.lt
  clear hw hi0 hz1 hz2 hz3 he
  go_enter Try.func116, Try.ntmps116
  go_wp2_with fail
  refine HT.out.mono ?_
  rintro e w1 ⟨⟨A', m, c', rfl, hm, hb⟩, hr, hc⟩
  have hml : m ≤ 70368744177664 := by have := hb.len; have := HLN.out; omega
  have hs1 := hc.size
  have HR := Lib.hid hr
  have HC := Lib.hid hc
  have HB := Lib.hid hb
  clear hr hc hb c2
  go_wp2_with (at_builtin; refine wpList_append_sl _ rfl (.const (.slice none 0 0)) (.tmp 24) _ rfl w1.heap.size 5 i0 _ 1 1 Try.underlying22 HI.out HZ1.out HZ2.out HZ3.out rfl (by omega) (.slice none 0 0) 0 [] rfl (World.ownsRow_nil _ _ _ _) B A' m c' ((s.dtake n).2.map Go.Proofs.Ytajkiglogfahfaa.u8) rfl HB.out.1 (one_u8w _) (by unfold maxLen; omega) (by omega) (Nat.le_refl _) ?_; intro A2 c2 w2 hown2 hrd2 hg2 hat2; simp only [Nat.zero_add, List.nil_append] at hown2; have HO2 : Hid (Own w2 w1.heap.size A2 m c2 (s.dtake n).2) := Lib.hid ⟨hown2, HB.out.2⟩; have HG2 := Lib.hid hg2; clear hown2 hrd2 hg2 hat2)
  go_ret
  have hb2 : Below w1.heap.size w1 w2 := (Below.refl _ _).grown HG2.out (Nat.le_refl _) (fun k hk => by cases hk)
  rw [HQ.out]
  refine ⟨⟨A2, m, c2, by first | rfl | simp, HO2.out.isB⟩, HR.out.below hb2 (by omega), HC.out.trans (Chg.of_below hb2) (fun x hx => .inl hx)⟩
set_option maxRecDepth 100000 in
set_option maxHeartbeats 1000000 in
theorem drbytes_neg (B g c : Nat) (n : Int) (A : Option Addr) (s : Wd.R) (w : World) (hw : Ry w B g A c s) (hB : B ≤ w.heap.size) (he : s.e = 0) (hn : n < 0) :
    Calls Try.prog 116 #[.pointer (some ⟨g, 0, none⟩), .int .i64 n] w fun e w' => e = .returned (.slice none 0 0) ∧ Ry w' B g A c ⟨s.b, s.at_, 1⟩ ∧ Chg [g] w w' := by
  have c2 := hw.1.cell 2
  have f2 := hw.1.frozen 2
  simp only [List.getElem?_cons_zero, List.getElem?_cons_succ] at c2
  rw [he] at c2
  have hlt := hw.1.lt
  have HW := Lib.hid hw
  have hc : Chg [g] w (w.setCell ⟨g, 2, none⟩ (.int .i64 1)) := (Chg.refl [g] w).set_ (p := ⟨g, 2, none⟩) (.inl (by simp)) _
  have HR : Hid (Ry (w.setCell ⟨g, 2, none⟩ (.int .i64 1)) B g A c ⟨s.b, s.at_, 1⟩) := Lib.hid (hw.turn hc hB (a := s.at_) (e := 1) (hw.1.set_ 2 _) hw.2.2.2.1)
  have HC := Lib.hid hc
  clear hw he hc
  go_enter Try.func116, Try.ntmps116
  go_wp2_with fail
  go_ret
  exact ⟨rfl, HR.out, HC.out⟩
set_option maxRecDepth 100000 in
set_option maxHeartbeats 1000000 in
theorem drbytes_not (B g c : Nat) (n : Int) (A : Option Addr) (s : Wd.R) (w : World) (hw : Ry w B g A c s) (hB : B ≤ w.heap.size) (he : s.e ≠ 0) :
    Calls Try.prog 116 #[.pointer (some ⟨g, 0, none⟩), .int .i64 n] w fun e w' => e = .returned (.slice none 0 0) ∧ Ry w' B g A c s ∧ Chg [g] w w' := by
  have c2 := hw.1.cell 2
  simp only [List.getElem?_cons_zero, List.getElem?_cons_succ] at c2
  have hlt := hw.1.lt
  have he1 : ((s.e : Int) == 0) = false := beq_eq_false_iff_ne.2 (by omega)
  have he2 : ((s.e : Int) != 0) = true := by rw [bne_iff_ne]; omega
  have HW := Lib.hid hw
  clear hw he
  go_enter Try.func116, Try.ntmps116
  go_wp2_with fail
  go_ret
  exact ⟨rfl, HW.out, Chg.refl _ _⟩
theorem drbytes_any (B g c : Nat) (n : Int) (A : Option Addr) (s : Wd.R) (w : World) (hw : Ry w B g A c s) (hB : B ≤ w.heap.size) (hn : n ≤ 9223372036854775807) (hl : s.b.length ≤ 70368744177664) :
    Calls Try.prog 116 #[.pointer (some ⟨g, 0, none⟩), .int .i64 n] w fun e w' => (∃ A' m c', e = .returned (.slice A' m c') ∧ IsB w' w'.heap.size A' m (s.bytes n).2) ∧ Ry w' B g A c (s.bytes n).1 ∧ Chg [g] w w' := by
  by_cases he : s.e = 0
  · by_cases h0 : n < 0
    · rw [dbytes_neg s n he h0]
      refine (drbytes_neg B g c n A s w hw hB he h0).mono ?_
      rintro e1 w' ⟨h1, h4, h5⟩
      exact ⟨⟨none, 0, 0, h1, isB_nil _ _⟩, h4, h5⟩
    · obtain ⟨m, rfl⟩ : ∃ m : Nat, n = m := ⟨n.toNat, by omega⟩
      exact drbytes_pos B g c m A s w hw hB he (by omega) hl
  · rw [dbytes_not s n he]
    refine (drbytes_not B g c n A s w hw hB he).mono ?_
    rintro e1 w' ⟨h1, h4, h5⟩
    exact ⟨⟨none, 0, 0, h1, isB_nil _ _⟩, h4, h5⟩
namespace Wd
def R.dback (s : R) (a : Nat) : R := if s.e ≠ 0 then ⟨s.b, a, s.e⟩ else s
end Wd
set_option maxRecDepth 100000 in
set_option maxHeartbeats 1000000 in
theorem drback_any (B g c a : Nat) (A : Option Addr) (s : Wd.R) (w : World) (hw : Ry w B g A c s) (hB : B ≤ w.heap.size) (ha : a ≤ s.b.length) :
    Calls Try.prog 131 #[.pointer (some ⟨g, 0, none⟩), .int .i64 (a : Nat)] w fun e w' => e = .returned (.tuple #[]) ∧ Ry w' B g A c (s.dback a) ∧ Chg [g] w w' := by
  have c2 := hw.1.cell 2
  have c1 := hw.1.cell 1
  have f1 := hw.1.frozen 1
  simp only [List.getElem?_cons_zero, List.getElem?_cons_succ] at c2 c1
  have hlt := hw.1.lt
  by_cases he : s.e = 0
  · rw [he] at c2
    have HE : Hid (s.dback a = s) := Lib.hid (by unfold Wd.R.dback; rw [if_neg (by omega)])
    have HW := Lib.hid hw
    clear hw he
    go_enter Try.func131, Try.ntmps131
    go_wp2_with fail
    go_end0
    rw [HE.out]
    exact ⟨rfl, HW.out, Chg.refl _ _⟩
  · have he2 : ((s.e : Int) != 0) = true := by rw [bne_iff_ne]; omega
    have HE : Hid (s.dback a = ⟨s.b, a, s.e⟩) := Lib.hid (by unfold Wd.R.dback; rw [if_pos he])
    have hc : Chg [g] w (w.setCell ⟨g, 1, none⟩ (.int .i64 (a : Nat))) := (Chg.refl [g] w).set_ (p := ⟨g, 1, none⟩) (.inl (by simp)) _
    have HR : Hid (Ry (w.setCell ⟨g, 1, none⟩ (.int .i64 (a : Nat))) B g A c ⟨s.b, a, s.e⟩) := Lib.hid (hw.turn hc hB (a := a) (e := s.e) (hw.1.set_ 1 _) ha)
    have HC := Lib.hid hc
    clear hw he hc
    go_enter Try.func131, Try.ntmps131
    go_wp2_with fail
    go_end0
    rw [HE.out]
    exact ⟨rfl, HR.out, HC.out⟩
set_option maxRecDepth 100000 in
set_option maxHeartbeats 1000000 in
theorem drend_any (B g c : Nat) (A : Option Addr) (s : Wd.R) (w : World) (hw : Ry w B g A c s) :
    Calls Try.prog 89 #[.pointer (some ⟨g, 0, none⟩)] w fun e w' => e = .returned (.int .i64 (s.end_ : Nat)) ∧ ∃ m, w' = w.drewN m := by
  have c0 := hw.1.cell 0; have c2 := hw.1.cell 2
  have c1 := hw.1.cell 1
  simp only [List.getElem?_cons_zero, List.getElem?_cons_succ] at c0 c2 c1
  have hlt := hw.1.lt
  obtain ⟨m, hm⟩ : ∃ m, m = s.b.length := ⟨_, rfl⟩
  rw [← hm] at c0
  by_cases he : s.e = 0
  · rw [he] at c2
    by_cases hl : s.at_ < m
    · have HE : Hid (s.end_ = 12) := Lib.hid (by unfold Wd.R.end_; rw [if_pos ⟨he, by omega⟩])
      have h1 : decide ((s.at_ : Int) < (m : Int)) = true := decide_eq_true (by omega)
      clear hw he hm
      go_enter Try.func89, Try.ntmps89
      go_wp2_with fail
      go_quiet (fail)
      go_wp2_with fail
      go_ret
      rw [HE.out]
      exact ⟨rfl, _, rfl⟩
    · have HE : Hid (s.end_ = 0) := Lib.hid (by unfold Wd.R.end_; rw [if_neg (by omega)]; exact he)
      have h1 : decide ((s.at_ : Int) < (m : Int)) = false := decide_eq_false (by omega)
      clear hw he hm
      go_enter Try.func89, Try.ntmps89
      go_wp2_with fail
      go_quiet (fail)
      go_wp2_with fail
      go_ret
      rw [HE.out]
      exact ⟨rfl, _, rfl⟩
  · have HE : Hid (s.end_ = s.e) := Lib.hid (by unfold Wd.R.end_; rw [if_neg (by omega)])
    have he1 : ((s.e : Int) == 0) = false := beq_eq_false_iff_ne.2 (by omega)
    clear hw he hm
    go_enter Try.func89, Try.ntmps89
    go_wp2_with fail
    go_quiet (fail)
    go_wp2_with fail
    go_ret
    rw [HE.out]
    exact ⟨rfl, _, rfl⟩
end Go.Proofs.Ytajkiglogfahfaa
