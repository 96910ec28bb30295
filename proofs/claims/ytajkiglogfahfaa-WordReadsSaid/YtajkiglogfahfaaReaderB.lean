/- The walks of NewReader and of the reader's Left, End, Bytes. -/
import Derived.Test.YtajkiglogfahfaaTake
set_option linter.unusedVariables false
set_option linter.unusedSimpArgs false
namespace Go.Proofs.Ytajkiglogfahfaa
open Go.RowKit

set_option maxHeartbeats 400000 in
theorem newreader_any (A : Option Addr) (n c : Nat) (bs : List Nat) (w : World) (ha : IsB w w.heap.size A n bs) (hn : n ≤ 140737488351232) (hA : A = none → c = 0) :
    Calls Try.prog 36 #[.slice A n c] w fun e w' => (∃ g r, e = .returned (.pointer (some ⟨g, 0, none⟩)) ∧ w.heap.size ≤ g ∧ (∀ k, r = some k → w.heap.size ≤ k) ∧ Rd w' g r ⟨bs, 0, 0⟩) ∧ Below w.heap.size w w' := by
  have HC := Lib.hid (clone_any A n c bs w ha hn hA)
  have HL := Lib.hid ha.len
  clear ha
  go_enter Try.func36, Try.ntmps36
  go_wp2_with fail
  refine HC.out.mono ?_
  rintro e w1 ⟨⟨A', c', rfl, hown⟩, hb⟩
  have HO := Lib.hid hown; have HB := Lib.hid hb
  clear hown hb
  go_wp2_with fail
  go_ret
  have hbb : Below w1.heap.size w1 (w1.alloc (.cells #[.slice A' n c', .int .i64 0, .int .i64 0] 112)) := (Below.refl _ _).alloc (Nat.le_refl _) _
  refine ⟨⟨_, (Value.slice A' n c').ownBlock, rfl, HB.out.size, ?_, ⟨A', c', ?_, ?_, ?_, HO.out.2.1, by simp⟩⟩, HB.out.trans (hbb.mono HB.out.size)⟩
  · rcases HO.out.1.2 with ⟨h, _⟩ | ⟨g', cap, cur, hv, hg, _⟩
    · intro k hk
      injection h with hA _ hc
      rw [hA] at hk
      cases hk
    · intro k hk
      rw [hv] at hk
      injection hk with hk
      exact hk ▸ hg
  · show Row _ _ _ [.slice A' bs.length c', .int .i64 0, .int .i64 0]
    rw [HL.out]
    exact Row.new w1 112 [.slice A' n c', .int .i64 0, .int .i64 0]
  · show World.ownsRow _ 0 5 1 (.slice A' bs.length c') bs.length (bs.map u8)
    rw [HL.out]
    exact (Own.mono (HO.out.below hbb) (Nat.zero_le _)).1
  · show (Value.slice A' bs.length c').ownBlock = _
    rw [HL.out]
set_option maxRecDepth 100000 in
set_option maxHeartbeats 400000 in
theorem rleft_any (g : Nat) (r : Option Nat) (s : Wd.R) (w : World) (hw : Rd w g r s) : Calls Try.prog 53 #[.pointer (some ⟨g, 0, none⟩)] w fun e w' => e = .returned (.int .i64 ((s.b.length - s.at_ : Nat) : Int)) ∧ Rd w' g r s ∧ Chg [] w w' := by
  obtain ⟨A, c, c0, c1, c2, f0, f1, f2, hlt, hat, hcn, HB, HD, HROW, HOWN⟩ := hw.open_
  have HW := Lib.hid hw
  have hmx := HB.out.b.1.2.2
  have w1 : IntKind.i64.wrap ((s.b.length : Int) - (s.at_ : Int)) = ((s.b.length - s.at_ : Nat) : Int) := by rw [IntKind.wrap_i64]; omega
  clear hw
  go_enter Try.func53, Try.ntmps53
  go_wp2_with fail
  go_quiet (fail)
  go_wp2_with fail
  go_ret
  have hch : ∀ k, Chg [] w (w.drewN k) := fun k => (Chg.refl _ _).drewN k
  exact ⟨rfl, HW.out.chg (hch _) (by simp) (by simp), hch _⟩
set_option maxRecDepth 100000 in
set_option maxHeartbeats 400000 in
theorem rend_any (g : Nat) (r : Option Nat) (s : Wd.R) (w : World) (hw : Rd w g r s) : Calls Try.prog 40 #[.pointer (some ⟨g, 0, none⟩)] w fun e w' => e = .returned (.int .i64 (s.end_ : Nat)) ∧ Rd w' g r s ∧ Chg [] w w' := by
  obtain ⟨A, c, c0, c1, c2, f0, f1, f2, hlt, hat, hcn, HB, HD, HROW, HOWN⟩ := hw.open_
  have HW := Lib.hid hw
  have HE := Lib.hid (show s.end_ = if s.e = 0 ∧ s.at_ < s.b.length then 12 else s.e from rfl)
  by_cases he : s.e = 0
  · have c2' : w.cell? ⟨g, 2, none⟩ = some (.int .i64 0) := by rw [he] at c2; exact c2
    have HL := Lib.hid (rleft_any g r s w hw)
    have HZ := Lib.hid he
    clear hw he c2
    by_cases hl : s.at_ < s.b.length
    · have HX := Lib.hid (show s.end_ = 12 by rw [HE.out, if_pos ⟨HZ.out, hl⟩])
      have hpos : 0 < s.b.length - s.at_ := by omega
      obtain ⟨m, hm⟩ : ∃ m, m = s.b.length - s.at_ := ⟨_, rfl⟩
      rw [← hm] at HL hpos
      clear hm hl
      go_enter Try.func40, Try.ntmps40
      go_wp2_with fail
      refine HL.out.mono ?_
      rintro e w1 ⟨rfl, hr1, hch⟩
      have HR := Lib.hid hr1; have HCH := Lib.hid hch
      clear hr1 hch
      go_wp2_with fail
      go_ret
      exact ⟨by rw [HX.out]; rfl, HR.out, HCH.out⟩
    · have HX := Lib.hid (show s.end_ = 0 by rw [HE.out, if_neg (by omega)]; exact HZ.out)
      have hpos : s.b.length - s.at_ = 0 := by omega
      rw [hpos] at HL
      clear hpos hl
      go_enter Try.func40, Try.ntmps40
      go_wp2_with fail
      refine HL.out.mono ?_
      rintro e w1 ⟨rfl, hr1, hch⟩
      obtain ⟨A1, c1', d0, d1, d2, _⟩ := hr1.open_
      have d2' : w1.cell? ⟨g, 2, none⟩ = some (.int .i64 0) := by rw [HZ.out] at d2; exact d2
      have HR := Lib.hid hr1; have HCH := Lib.hid hch
      clear hr1 hch d2
      go_wp2_with fail
      go_ret
      exact ⟨by rw [HX.out]; rfl, HR.out, HCH.out⟩
  · have he1 : ((s.e : Int) == 0) = false := beq_eq_false_iff_ne.2 (by omega)
    have HX := Lib.hid (show s.end_ = s.e by rw [HE.out, if_neg (by omega)])
    clear hw he
    go_enter Try.func40, Try.ntmps40
    go_wp2_with fail
    go_ret
    exact ⟨by rw [HX.out]; rfl, HW.out, Chg.refl _ _⟩

theorem bytes_refused (s : Wd.R) (n : Int) (he : s.e ≠ 0) : s.bytes n = (s, []) := by unfold Wd.R.bytes; rw [if_pos he]
theorem bytes_arg (s : Wd.R) (n : Int) (he : s.e = 0) (hn : n < 0) : s.bytes n = (⟨s.b, s.at_, 1⟩, []) := by unfold Wd.R.bytes; rw [if_neg (by omega), if_pos hn]
theorem bytes_short (s : Wd.R) (n : Nat) (he : s.e = 0) (h : s.b.length < s.at_ + n) : s.bytes n = (⟨s.b, s.at_, 10⟩, []) := by
  unfold Wd.R.bytes Wd.R.next; rw [if_neg (by omega), if_neg (by omega), if_neg (by omega), if_pos (by simp; omega)]
theorem bytes_ok (s : Wd.R) (n : Nat) (he : s.e = 0) (h : s.at_ + n ≤ s.b.length) : s.bytes n = (⟨s.b, s.at_ + n, s.e⟩, (s.b.drop s.at_).take n) := by
  unfold Wd.R.bytes Wd.R.next; rw [if_neg (by omega), if_neg (by omega), if_neg (by omega), if_neg (by simp; omega)]; simp
/-- what Bytes answers: a slice of these bytes, in new memory or none -/
def Took (w w' : World) (v : Value) (bs : List Nat) : Prop := ∃ A c, v = .slice A bs.length c ∧ Own w' w.heap.size A bs.length c bs
set_option maxRecDepth 100000 in
set_option maxHeartbeats 400000 in
theorem rbytes_ok (g : Nat) (r : Option Nat) (s : Wd.R) (n : Nat) (w : World) (hw : Rd w g r s) (hl : s.b.length ≤ 70368744177664) (he : s.e = 0) (hn : s.at_ + n ≤ s.b.length) :
    Calls Try.prog 38 #[.pointer (some ⟨g, 0, none⟩), .int .i64 (n : Nat)] w fun e w' => (∃ v, e = .returned v ∧ Took w w' v (s.bytes n).2) ∧ Rd w' g r (s.bytes n).1 ∧ Chg [g] w w' := by
  obtain ⟨A, c, c0, c1, c2, f0, f1, f2, hlt, hat, hcn, HB, HD, HROW, HOWN⟩ := hw.open_
  have c2' : w.cell? ⟨g, 2, none⟩ = some (.int .i64 0) := by rw [he] at c2; exact c2
  have HT := Lib.hid (bytes_ok s n he hn)
  have HN := Lib.hid (next_ok g r s 0 n w hw he (by omega))
  have hln := len_of_next (s := s) (k := n) (by omega)
  obtain ⟨X, hX⟩ : ∃ X, X = (s.b.drop (s.at_ + 0)).take n := ⟨_, rfl⟩
  rw [← hX] at HN hln
  have HX := Lib.hid hX
  have HL := Lib.hid hln
  clear hw he hX hln c2
  go_enter Try.func38, Try.ntmps38
  go_wp2_with fail
  refine HN.out.mono ?_
  rintro e w1 ⟨⟨A1, c1', rfl, hc1, hB1⟩, hr1, hch1⟩
  obtain ⟨A2, c2, d0, d1, d2, f0, f1, f2, hlt1, hat, hcn, HB, HD, HROW, HOWN⟩ := hr1.open_
  have HCH := Lib.hid hch1
  obtain ⟨h1, h2, h3⟩ := rd_set1 (s.at_ + n) HROW.out HOWN.out
  have hrg : r ≠ some g := by
    obtain ⟨A3, c3, k1, k2, k3, _⟩ := hr1
    rw [← k3]
    exact own_blk_ne (cs := #[.slice A3 s.b.length c3, .int .i64 (s.at_ : Nat), .int .i64 (s.e : Nat)]) k2 k1 (by decide)
  have hrl : ∀ k, r = some k → k < w1.heap.size := by
    obtain ⟨A3, c3, k1, k2, k3, _⟩ := hr1
    rw [← k3]
    exact own_lt k2
  have hIS := hB1.chg h3 (fun k hk => by rw [List.mem_singleton]; exact fun h => hrg (h ▸ hk)) hrl
  have HC := Lib.hid (clone_any A1 n c1' X _ hIS.b.1 (by omega) hIS.b.2)
  have HR2 := Lib.hid (HD.out _ _ s.e hn h1 h2)
  have HCH2 := Lib.hid (((Chg.refl [g] _).trans HCH.out (by simp)).trans h3 (fun x hx => .inl hx))
  have ew : ((s.at_ + n : Nat) : Int) = (s.at_ : Int) + (n : Int) := by omega
  rw [ew] at HC HR2 HCH2
  clear hB1 hr1 hch1 hIS h1 h2 h3 hrg hrl ew
  go_wp2_with fail
  refine HC.out.mono ?_
  rintro e w2 ⟨⟨A3, c3, rfl, hown⟩, hb⟩
  have HO := Lib.hid hown; have HB2 := Lib.hid hb
  clear hown hb
  go_wp2_with fail
  go_ret
  rw [HT.out]
  have hlx := HL.out
  have hsz2 : w.heap.size ≤ (w1.setCell ⟨g, 1, none⟩ (.int .i64 ((s.at_ : Int) + (n : Int)))).heap.size := HCH2.out.size
  refine ⟨⟨_, rfl, ⟨A3, c3, ?_, ?_⟩⟩, ?_, ?_⟩
  · show Value.slice A3 n c3 = .slice A3 ((s.b.drop s.at_).take n).length c3
    rw [Nat.add_zero] at HX
    rw [← HX.out, hlx]
  · show Own w2 w.heap.size A3 ((s.b.drop s.at_).take n).length c3 ((s.b.drop s.at_).take n)
    rw [Nat.add_zero] at HX
    rw [← HX.out, hlx]
    exact HO.out.mono hsz2
  · refine HR2.out.chg (S := []) (Chg.of_below HB2.out) (by simp) (by simp)
  · exact HCH2.out.trans (S' := []) (Chg.of_below HB2.out) (by simp)
set_option maxRecDepth 100000 in
set_option maxHeartbeats 400000 in
theorem rbytes_short (g : Nat) (r : Option Nat) (s : Wd.R) (n : Nat) (w : World) (hw : Rd w g r s) (he : s.e = 0) (hm : n ≤ 9223372036854775807) (hn : s.b.length < s.at_ + n) :
    Calls Try.prog 38 #[.pointer (some ⟨g, 0, none⟩), .int .i64 (n : Nat)] w fun e w' => (∃ v, e = .returned v ∧ Took w w' v (s.bytes n).2) ∧ Rd w' g r (s.bytes n).1 ∧ Chg [g] w w' := by
  obtain ⟨A, c, c0, c1, c2, f0, f1, f2, hlt, hat, hcn, HB, HD, HROW, HOWN⟩ := hw.open_
  have c2' : w.cell? ⟨g, 2, none⟩ = some (.int .i64 0) := by rw [he] at c2; exact c2
  have HT := Lib.hid (bytes_short s n he hn)
  have HN := Lib.hid (next_short g r s 0 n w hw he (by omega) hm (by omega))
  clear hw he c2
  go_enter Try.func38, Try.ntmps38
  go_wp2_with fail
  refine HN.out.mono ?_
  rintro e w1 ⟨rfl, hr1, hch1⟩
  have HR := Lib.hid hr1; have HCH := Lib.hid hch1
  clear hr1 hch1
  go_wp2_with fail
  go_ret
  rw [HT.out]
  exact ⟨⟨_, rfl, ⟨none, 0, rfl, ⟨World.ownsRow_nil _ _ _ _, by simp, by simp⟩⟩⟩, HR.out, HCH.out⟩
set_option maxRecDepth 100000 in
set_option maxHeartbeats 400000 in
theorem rbytes_refused (g : Nat) (r : Option Nat) (s : Wd.R) (n : Int) (w : World) (hw : Rd w g r s) (he : s.e ≠ 0) :
    Calls Try.prog 38 #[.pointer (some ⟨g, 0, none⟩), .int .i64 n] w fun e w' => (∃ v, e = .returned v ∧ Took w w' v (s.bytes n).2) ∧ Rd w' g r (s.bytes n).1 ∧ Chg [g] w w' := by
  obtain ⟨A, c, c0, c1, c2, f0, f1, f2, hlt, hat, hcn, HB, HD, HROW, HOWN⟩ := hw.open_
  have HT := Lib.hid (bytes_refused s n he)
  have he1 : ((s.e : Int) == 0) = false := beq_eq_false_iff_ne.2 (by omega)
  have he2 : ((s.e : Int) != 0) = true := by rw [bne_iff_ne]; omega
  have HW := Lib.hid hw
  clear hw he
  go_enter Try.func38, Try.ntmps38
  go_wp2_with fail
  go_ret
  rw [HT.out]
  exact ⟨⟨_, rfl, ⟨none, 0, rfl, ⟨World.ownsRow_nil _ _ _ _, by simp, by simp⟩⟩⟩, HW.out, Chg.refl _ _⟩
set_option maxRecDepth 100000 in
set_option maxHeartbeats 400000 in
theorem rbytes_arg (g : Nat) (r : Option Nat) (s : Wd.R) (n : Int) (w : World) (hw : Rd w g r s) (he : s.e = 0) (hn : n < 0) :
    Calls Try.prog 38 #[.pointer (some ⟨g, 0, none⟩), .int .i64 n] w fun e w' => (∃ v, e = .returned v ∧ Took w w' v (s.bytes n).2) ∧ Rd w' g r (s.bytes n).1 ∧ Chg [g] w w' := by
  obtain ⟨A, c, c0, c1, c2, f0, f1, f2, hlt, hat, hcn, HB, HD, HROW, HOWN⟩ := hw.open_
  have c2' : w.cell? ⟨g, 2, none⟩ = some (.int .i64 0) := by rw [he] at c2; exact c2
  have HT := Lib.hid (bytes_arg s n he hn)
  clear hw he c2
  go_enter Try.func38, Try.ntmps38
  go_wp2_with fail
  go_ret
  rw [HT.out]
  have h := rd_set2 1 HROW.out HOWN.out
  exact ⟨⟨_, rfl, ⟨none, 0, rfl, ⟨World.ownsRow_nil _ _ _ _, by simp, by simp⟩⟩⟩, HD.out _ _ _ hat h.1 h.2.1, h.2.2⟩
theorem rbytes_any (g : Nat) (r : Option Nat) (s : Wd.R) (n : Int) (w : World) (hw : Rd w g r s) (hl : s.b.length ≤ 70368744177664) (hm : n ≤ 9223372036854775807) :
    Calls Try.prog 38 #[.pointer (some ⟨g, 0, none⟩), .int .i64 n] w fun e w' => (∃ v, e = .returned v ∧ Took w w' v (s.bytes n).2) ∧ Rd w' g r (s.bytes n).1 ∧ Chg [g] w w' := by
  by_cases he : s.e = 0
  · by_cases h0 : n < 0
    · exact rbytes_arg g r s n w hw he h0
    · obtain ⟨k, rfl⟩ : ∃ k : Nat, n = k := ⟨n.toNat, by omega⟩
      by_cases hs : s.at_ + k ≤ s.b.length
      · exact rbytes_ok g r s k w hw hl he hs
      · exact rbytes_short g r s k w hw he (by omega) (by omega)
  · exact rbytes_refused g r s n w hw he
end Go.Proofs.Ytajkiglogfahfaa
