/- The walk of the law's again: the same step is taken by the reader. -/
import Derived.Test.YtajkiglogfahfaaLaid
set_option linter.unusedVariables false
set_option linter.unusedSimpArgs false
namespace Go.Proofs.Ytajkiglogfahfaa
open Go.RowKit

def AgainPost (g : Nat) (r : Option Nat) (s : Wd.R) (o : Wd.Op) (w : World) (e : Ending) (w' : World) : Prop :=
  ∃ (p : OpA) (qs : List Nat), e = .returned p.val ∧ p.Ok w' qs ∧ p.is qs = (s.op o).2 ∧ p.pn + p.s.size ≤ s.b.length ∧ Rd w' g r (s.op o).1 ∧ Chg [g] w w'
theorem nil_isB (w : World) (B : Nat) : IsB w B none 0 [] := isB_nil w B

theorem Rd.below {w w' : World} {g : Nat} {r : Option Nat} {s : Wd.R} (h : Rd w g r s) (hb : Below w.heap.size w w') : Rd w' g r s := h.chg (S := []) (Chg.of_below hb) (by simp) (by simp)
theorem Rd.lt {w : World} {g : Nat} {r : Option Nat} {s : Wd.R} (h : Rd w g r s) : g < w.heap.size := by obtain ⟨_, _, hrow, _⟩ := h; exact hrow.lt
theorem Rd.len {w : World} {g : Nat} {r : Option Nat} {s : Wd.R} (h : Rd w g r s) : ∀ b ∈ s.b, b < 256 := by obtain ⟨_, _, _, _, _, h, _⟩ := h; exact h
theorem take_lt (s : Wd.R) (k : Nat) (hb : ∀ b ∈ s.b, b < 256) : (s.take k).2 < 256 ^ k := by
  have hz : 0 < 256 ^ k := Nat.pow_pos (by decide)
  by_cases he : s.e = 0
  · by_cases h : s.at_ + k ≤ s.b.length
    · rw [take_ok s k he h]
      have := Wd.unle_lt ((s.b.drop s.at_).take k) (fun b hb' => hb b (List.mem_of_mem_drop (List.mem_of_mem_take hb')))
      rwa [show ((s.b.drop s.at_).take k).length = k by simp; omega] at this
    · rw [take_short s k he (by omega)]; exact hz
  · rw [take_refused s k he]; exact hz
theorem Rd.setB {w : World} {g B : Nat} {r : Option Nat} {s : Wd.R} (h : Rd w g r s) (hg : g < B) (hr : ∀ k, r = some k → k < B) {p : Addr} (hp : B ≤ p.block) (u : Value) : Rd (w.setCell p u) g r s :=
  h.chg (S := [p.block]) ((Chg.refl _ _).set_ (.inl (by simp)) u) (by simp; omega) (fun k hk => by have := hr k hk; simp; omega)
theorem Rd.rlt {w : World} {g : Nat} {r : Option Nat} {s : Wd.R} (h : Rd w g r s) : ∀ k, r = some k → k < w.heap.size := by
  obtain ⟨A, c, _, hown, hob, _⟩ := h
  intro k hk
  exact own_lt hown k (hob.trans hk)

theorem row_cells6 {w : World} {g : Nat} {t : TypeId} {a b c d e f : Value} (h : Row w g t [a, b, c, d, e, f]) : w.cell? ⟨g, 0, none⟩ = some a ∧ w.cell? ⟨g, 1, none⟩ = some b ∧ w.cell? ⟨g, 2, none⟩ = some c ∧ w.cell? ⟨g, 3, none⟩ = some d ∧ w.cell? ⟨g, 4, none⟩ = some e ∧ w.cell? ⟨g, 5, none⟩ = some f ∧
    w.frozen? ⟨g, 0, none⟩ = false ∧ w.frozen? ⟨g, 1, none⟩ = false ∧ w.frozen? ⟨g, 2, none⟩ = false ∧ w.frozen? ⟨g, 3, none⟩ = false ∧ w.frozen? ⟨g, 4, none⟩ = false ∧ w.frozen? ⟨g, 5, none⟩ = false :=
  ⟨h.cell 0, h.cell 1, h.cell 2, h.cell 3, h.cell 4, h.cell 5, h.frozen 0, h.frozen 1, h.frozen 2, h.frozen 3, h.frozen 4, h.frozen 5⟩
/-- the three boxes that again lays -/
theorem boxes (w : World) (x y z : List Value) (t : TypeId) : Below w.heap.size w (((w.alloc (.cells x.toArray t)).alloc (.cells y.toArray t)).alloc (.cells z.toArray t)) ∧
    Row (((w.alloc (.cells x.toArray t)).alloc (.cells y.toArray t)).alloc (.cells z.toArray t)) (w.heap.size + 1) t y ∧ Row (((w.alloc (.cells x.toArray t)).alloc (.cells y.toArray t)).alloc (.cells z.toArray t)) (w.heap.size + 2) t z := by
  refine ⟨(((Below.refl _ _).alloc (Nat.le_refl _) _).alloc (by simp) _).alloc (by simp; omega) _, ?_, ?_⟩
  · have := (Row.new (w.alloc (.cells x.toArray t)) t y).alloc (.cells z.toArray t)
    simpa using this
  · have := Row.new ((w.alloc (.cells x.toArray t)).alloc (.cells y.toArray t)) t z
    simpa using this
/-- what again's last stores leave -/
theorem again_end {w w0 w1 : World} {g : Nat} {r : Option Nat} {s : Wd.R} {ys : List Value} {z0 z1 z2 z3 z4 z5 x0 x1 x2 x3 x4 x5 : Value} (k : Nat) (u : Value) (hg : g < w.heap.size) (hr : ∀ k, r = some k → k < w.heap.size) (hb : Below w.heap.size w w0) (hch : Chg [g] w0 w1) (hrd : Rd w1 g r s)
    (hr1 : Row w0 (w.heap.size + 1) 54 [z0, z1, z2, z3, z4, z5]) (hr2 : Row w0 (w.heap.size + 2) 54 ys) :
    let w2 := (((((((w1.setCell ⟨w.heap.size + 1 + 1, k, none⟩ u).setCell ⟨w.heap.size + 1, 0, none⟩ x0).setCell ⟨w.heap.size + 1, 1, none⟩ x1).setCell ⟨w.heap.size + 1, 2, none⟩ x2).setCell ⟨w.heap.size + 1, 3, none⟩ x3).setCell ⟨w.heap.size + 1, 4, none⟩ x4).setCell ⟨w.heap.size + 1, 5, none⟩ x5)
    (w2.cell? ⟨w.heap.size + 1, 0, none⟩ = some x0 ∧ w2.cell? ⟨w.heap.size + 1, 1, none⟩ = some x1 ∧ w2.cell? ⟨w.heap.size + 1, 2, none⟩ = some x2 ∧ w2.cell? ⟨w.heap.size + 1, 3, none⟩ = some x3 ∧ w2.cell? ⟨w.heap.size + 1, 4, none⟩ = some x4 ∧ w2.cell? ⟨w.heap.size + 1, 5, none⟩ = some x5) ∧
    Rd w2 g r s ∧ Chg [g] w w2 := by
  intro w2
  have q1 := hch.row hr1 (by simp; omega)
  have q2 := ((((((q1.far (p := ⟨w.heap.size + 1 + 1, k, none⟩) (by simp) u).set_ 0 x0).set_ 1 x1).set_ 2 x2).set_ 3 x3).set_ 4 x4).set_ 5 x5
  refine ⟨⟨q2.cell 0, q2.cell 1, q2.cell 2, q2.cell 3, q2.cell 4, q2.cell 5⟩, ?_, ?_⟩
  · exact ((((((hrd.setB hg hr (by simp; omega) _).setB hg hr (by simp) _).setB hg hr (by simp) _).setB hg hr (by simp) _).setB hg hr (by simp) _).setB hg hr (by simp) _).setB hg hr (by simp) _
  · have h1 : Chg [g] w w1 := (Chg.of_below (S := [g]) hb).trans hch (fun x hx => .inl hx)
    exact ((((((h1.set_ (.inr (by simp; omega)) _).set_ (.inr (by simp)) _).set_ (.inr (by simp)) _).set_ (.inr (by simp)) _).set_ (.inr (by simp)) _).set_ (.inr (by simp)) _).set_ (.inr (by simp)) _
/-- the same where nothing is stored into the box -/
theorem again_end0 {w w0 w1 : World} {g : Nat} {r : Option Nat} {s : Wd.R} {ys : List Value} {z0 z1 z2 z3 z4 z5 x0 x1 x2 x3 x4 x5 : Value} (hg : g < w.heap.size) (hr : ∀ k, r = some k → k < w.heap.size) (hb : Below w.heap.size w w0) (hch : Chg [g] w0 w1) (hrd : Rd w1 g r s)
    (hr1 : Row w0 (w.heap.size + 1) 54 [z0, z1, z2, z3, z4, z5]) (hr2 : Row w0 (w.heap.size + 2) 54 ys) :
    let w2 := ((((((w1.setCell ⟨w.heap.size + 1, 0, none⟩ x0).setCell ⟨w.heap.size + 1, 1, none⟩ x1).setCell ⟨w.heap.size + 1, 2, none⟩ x2).setCell ⟨w.heap.size + 1, 3, none⟩ x3).setCell ⟨w.heap.size + 1, 4, none⟩ x4).setCell ⟨w.heap.size + 1, 5, none⟩ x5)
    (w2.cell? ⟨w.heap.size + 1, 0, none⟩ = some x0 ∧ w2.cell? ⟨w.heap.size + 1, 1, none⟩ = some x1 ∧ w2.cell? ⟨w.heap.size + 1, 2, none⟩ = some x2 ∧ w2.cell? ⟨w.heap.size + 1, 3, none⟩ = some x3 ∧ w2.cell? ⟨w.heap.size + 1, 4, none⟩ = some x4 ∧ w2.cell? ⟨w.heap.size + 1, 5, none⟩ = some x5) ∧
    Rd w2 g r s ∧ Chg [g] w w2 := by
  intro w2
  have q1 := hch.row hr1 (by simp; omega)
  have q2 := (((((q1.set_ 0 x0).set_ 1 x1).set_ 2 x2).set_ 3 x3).set_ 4 x4).set_ 5 x5
  refine ⟨⟨q2.cell 0, q2.cell 1, q2.cell 2, q2.cell 3, q2.cell 4, q2.cell 5⟩, ?_, ?_⟩
  · exact (((((hrd.setB hg hr (by simp) _).setB hg hr (by simp) _).setB hg hr (by simp) _).setB hg hr (by simp) _).setB hg hr (by simp) _).setB hg hr (by simp) _
  · have h1 : Chg [g] w w1 := (Chg.of_below (S := [g]) hb).trans hch (fun x hx => .inl hx)
    exact (((((h1.set_ (.inr (by simp)) _).set_ (.inr (by simp)) _).set_ (.inr (by simp)) _).set_ (.inr (by simp)) _).set_ (.inr (by simp)) _).set_ (.inr (by simp)) _
theorem bytes_len (s : Wd.R) (n : Nat) : (s.bytes n).2.length ≤ s.b.length := by
  by_cases he : s.e = 0
  · by_cases h : s.at_ + n ≤ s.b.length
    · rw [bytes_ok s n he h]; simp; omega
    · rw [bytes_short s n he (by omega)]; simp
  · rw [bytes_refused s n he]; simp
theorem rtext_facts (s : Wd.R) (most : Int) (hb : ∀ b ∈ s.b, b < 256) : (s.text most).2.length ≤ s.b.length ∧ ∀ b ∈ (s.text most).2, b < 256 := by
  by_cases he : s.e = 0
  · by_cases h : s.at_ + 2 ≤ s.b.length
    · obtain ⟨m, hm⟩ : ∃ m, m = Wd.unle ((s.b.drop (s.at_ + 0)).take 2) := ⟨_, rfl⟩
      by_cases hl : most < (m : Int)
      · rw [rtext_long s most m he h hm hl]; simp
      · by_cases h2 : s.b.length < s.at_ + 2 + m
        · rw [rtext_less s most m he h hm hl h2]; simp
        · rw [rtext_ok s most m he h hm hl (by omega)]
          exact ⟨by simp; omega, fun b hb' => hb b (List.mem_of_mem_drop (List.mem_of_mem_take hb'))⟩
    · rw [rtext_short s most he (by omega)]; simp
  · rw [rtext_refused s most he]; simp
theorem took_isB {w w0 w1 w2 : World} {A : Option Addr} {n c g : Nat} {bs : List Nat} (h : Own w1 w0.heap.size A n c bs) (hsz : w0.heap.size = w.heap.size + 3) (hc : Chg [w.heap.size + 1 + 1, w.heap.size + 1] w1 w2) : IsB w2 w2.heap.size A n bs := by
  have h2 : w2.ownsRow w0.heap.size 5 1 (.slice A n c) n (bs.map u8) := owns_chg h.1 hc (fun k hk => by
    have := (h.1.lt k hk).1
    simp
    omega)
  exact ⟨Reads.of_own h2, h.2⟩
set_option maxRecDepth 100000 in
set_option maxHeartbeats 1000000 in
theorem again_1 (g : Nat) (r : Option Nat) (s : Wd.R) (at_ : Int) (n : Nat) (num : Int) (pa : Option Addr) (pn pc : Nat) (ps : List Nat) (t : ByteArray) (w : World) (hw : Rd w g r s) (hp : IsB w w.heap.size pa pn ps) (hnum : -9223372036854775808 ≤ num ∧ num ≤ 9223372036854775807) (ht : t.size ≤ 9223372036854775807) (hl : s.b.length ≤ 70368744177664) :
    Calls Try.prog 57 #[.pointer (some ⟨g, 0, none⟩), .agg #[.int .i64 1, .int .i64 at_, .int .u64 (n : Nat), .int .i64 num, .slice pa pn pc, .string t]] w (AgainPost g r s ⟨1, n, num, ps, sb t⟩ w) := by
  have HE : Hid (Wd.R.op s ⟨1, n, num, ps, sb t⟩ = ((s.take 1).1, ⟨1, (s.take 1).2, num, [], []⟩)) := Lib.hid (by unfold Wd.R.op; simp only [Wd.kd, if_true, if_false])
  obtain ⟨hbx, hr1, hr2⟩ := boxes w [.int .i64 1, .int .i64 at_, .int .u64 (n : Nat), .int .i64 num, .slice pa pn pc, .string t] [.int .i64 0, .int .i64 0, .int .u64 0, .int .i64 0, .slice none 0 0, .string ⟨#[]⟩] [.int .i64 1, .int .i64 0, .int .u64 0, .int .i64 num, .slice none 0 0, .string ⟨#[]⟩] 54
  have hgl := hw.lt
  have hrl := hw.rlt
  obtain ⟨x, hx⟩ : ∃ x, x = (s.take 1).2 := ⟨_, rfl⟩
  have hxl : x < 18446744073709551616 := by have := take_lt s 1 hw.len; rw [hx]; simp at this; omega
  have HC := Lib.hid (ruint8_any g r s _ (hw.below hbx) hl)
  rw [← hx] at HE HC
  have hxw : IntKind.u64.wrap (x : Int) = (x : Int) := by rw [IntKind.wrap_u64]; omega
  have HX := Lib.hid hxl
  clear hx hxl
  have HB := Lib.hid hbx
  have HR1 := Lib.hid hr1; have HR2 := Lib.hid hr2
  have HRL := Lib.hid hrl
  clear hw hp hbx hr1 hr2 hrl
  go_enter Try.func57, Try.ntmps57
  go_wp2_with fail
  refine HC.out.mono ?_
  rintro e w1 ⟨rfl, hrd, hch⟩
  obtain ⟨a0, a1, a2, a3, a4, a5, b0, b1, b2, b3, b4, b5⟩ := row_cells6 (hch.row HR1.out (by simp; omega))
  obtain ⟨d0, d1, d2, d3, d4, d5, e0, e1, e2, e3, e4, e5⟩ := row_cells6 (hch.row HR2.out (by simp; omega))
  have HRD := Lib.hid hrd; have HCH := Lib.hid hch
  clear hrd hch
  go_wp2_with fail
  obtain ⟨⟨y0, y1, y2, y3, y4, y5⟩, HRD2, HCH2⟩ := again_end 2 (.int .u64 x) (x0 := .int .i64 1) (x1 := .int .i64 0) (x2 := .int .u64 x) (x3 := .int .i64 num) (x4 := .slice none 0 0) (x5 := .string ⟨#[]⟩) hgl HRL.out HB.out HCH.out HRD.out HR1.out HR2.out
  refine bodyPost_ret (v := OpA.val ⟨1, 0, x, num, none, 0, 0, ⟨#[]⟩⟩) (by simp [results, Try.results57, go_sem, y0, y1, y2, y3, y4, y5, OpA.val]) rfl ?_
  refine ⟨⟨1, 0, x, num, none, 0, 0, ⟨#[]⟩⟩, [], rfl, ⟨nil_isB _ _, HX.out, hnum, by simp, by simp, by simp [ByteArray.size]⟩, ?_, by simp [ByteArray.size], ?_, HCH2⟩
  · rw [HE.out]; rfl
  · rw [HE.out]; exact HRD2
set_option maxRecDepth 100000 in
set_option maxHeartbeats 1000000 in
theorem again_2 (g : Nat) (r : Option Nat) (s : Wd.R) (at_ : Int) (n : Nat) (num : Int) (pa : Option Addr) (pn pc : Nat) (ps : List Nat) (t : ByteArray) (w : World) (hw : Rd w g r s) (hp : IsB w w.heap.size pa pn ps) (hnum : -9223372036854775808 ≤ num ∧ num ≤ 9223372036854775807) (ht : t.size ≤ 9223372036854775807) (hl : s.b.length ≤ 70368744177664) :
    Calls Try.prog 57 #[.pointer (some ⟨g, 0, none⟩), .agg #[.int .i64 2, .int .i64 at_, .int .u64 (n : Nat), .int .i64 num, .slice pa pn pc, .string t]] w (AgainPost g r s ⟨2, n, num, ps, sb t⟩ w) := by
  have HE : Hid (Wd.R.op s ⟨2, n, num, ps, sb t⟩ = ((s.take 2).1, ⟨2, (s.take 2).2, num, [], []⟩)) := Lib.hid (by unfold Wd.R.op; simp only [Wd.kd, if_true, if_false])
  obtain ⟨hbx, hr1, hr2⟩ := boxes w [.int .i64 2, .int .i64 at_, .int .u64 (n : Nat), .int .i64 num, .slice pa pn pc, .string t] [.int .i64 0, .int .i64 0, .int .u64 0, .int .i64 0, .slice none 0 0, .string ⟨#[]⟩] [.int .i64 2, .int .i64 0, .int .u64 0, .int .i64 num, .slice none 0 0, .string ⟨#[]⟩] 54
  have hgl := hw.lt
  have hrl := hw.rlt
  obtain ⟨x, hx⟩ : ∃ x, x = (s.take 2).2 := ⟨_, rfl⟩
  have hxl : x < 18446744073709551616 := by have := take_lt s 2 hw.len; rw [hx]; simp at this; omega
  have HC := Lib.hid (ruint16_any g r s _ (hw.below hbx) hl)
  rw [← hx] at HE HC
  have hxw : IntKind.u64.wrap (x : Int) = (x : Int) := by rw [IntKind.wrap_u64]; omega
  have HX := Lib.hid hxl
  clear hx hxl
  have HB := Lib.hid hbx
  have HR1 := Lib.hid hr1; have HR2 := Lib.hid hr2
  have HRL := Lib.hid hrl
  clear hw hp hbx hr1 hr2 hrl
  go_enter Try.func57, Try.ntmps57
  go_wp2_with fail
  refine HC.out.mono ?_
  rintro e w1 ⟨rfl, hrd, hch⟩
  obtain ⟨a0, a1, a2, a3, a4, a5, b0, b1, b2, b3, b4, b5⟩ := row_cells6 (hch.row HR1.out (by simp; omega))
  obtain ⟨d0, d1, d2, d3, d4, d5, e0, e1, e2, e3, e4, e5⟩ := row_cells6 (hch.row HR2.out (by simp; omega))
  have HRD := Lib.hid hrd; have HCH := Lib.hid hch
  clear hrd hch
  go_wp2_with fail
  obtain ⟨⟨y0, y1, y2, y3, y4, y5⟩, HRD2, HCH2⟩ := again_end 2 (.int .u64 x) (x0 := .int .i64 2) (x1 := .int .i64 0) (x2 := .int .u64 x) (x3 := .int .i64 num) (x4 := .slice none 0 0) (x5 := .string ⟨#[]⟩) hgl HRL.out HB.out HCH.out HRD.out HR1.out HR2.out
  refine bodyPost_ret (v := OpA.val ⟨2, 0, x, num, none, 0, 0, ⟨#[]⟩⟩) (by simp [results, Try.results57, go_sem, y0, y1, y2, y3, y4, y5, OpA.val]) rfl ?_
  refine ⟨⟨2, 0, x, num, none, 0, 0, ⟨#[]⟩⟩, [], rfl, ⟨nil_isB _ _, HX.out, hnum, by simp, by simp, by simp [ByteArray.size]⟩, ?_, by simp [ByteArray.size], ?_, HCH2⟩
  · rw [HE.out]; rfl
  · rw [HE.out]; exact HRD2
set_option maxRecDepth 100000 in
set_option maxHeartbeats 1000000 in
theorem again_3 (g : Nat) (r : Option Nat) (s : Wd.R) (at_ : Int) (n : Nat) (num : Int) (pa : Option Addr) (pn pc : Nat) (ps : List Nat) (t : ByteArray) (w : World) (hw : Rd w g r s) (hp : IsB w w.heap.size pa pn ps) (hnum : -9223372036854775808 ≤ num ∧ num ≤ 9223372036854775807) (ht : t.size ≤ 9223372036854775807) (hl : s.b.length ≤ 70368744177664) :
    Calls Try.prog 57 #[.pointer (some ⟨g, 0, none⟩), .agg #[.int .i64 3, .int .i64 at_, .int .u64 (n : Nat), .int .i64 num, .slice pa pn pc, .string t]] w (AgainPost g r s ⟨3, n, num, ps, sb t⟩ w) := by
  have HE : Hid (Wd.R.op s ⟨3, n, num, ps, sb t⟩ = ((s.take 4).1, ⟨3, (s.take 4).2, num, [], []⟩)) := Lib.hid (by unfold Wd.R.op; simp only [Wd.kd, if_true, if_false])
  obtain ⟨hbx, hr1, hr2⟩ := boxes w [.int .i64 3, .int .i64 at_, .int .u64 (n : Nat), .int .i64 num, .slice pa pn pc, .string t] [.int .i64 0, .int .i64 0, .int .u64 0, .int .i64 0, .slice none 0 0, .string ⟨#[]⟩] [.int .i64 3, .int .i64 0, .int .u64 0, .int .i64 num, .slice none 0 0, .string ⟨#[]⟩] 54
  have hgl := hw.lt
  have hrl := hw.rlt
  obtain ⟨x, hx⟩ : ∃ x, x = (s.take 4).2 := ⟨_, rfl⟩
  have hxl : x < 18446744073709551616 := by have := take_lt s 4 hw.len; rw [hx]; simp at this; omega
  have HC := Lib.hid (ruint32_any g r s _ (hw.below hbx) hl)
  rw [← hx] at HE HC
  have hxw : IntKind.u64.wrap (x : Int) = (x : Int) := by rw [IntKind.wrap_u64]; omega
  have HX := Lib.hid hxl
  clear hx hxl
  have HB := Lib.hid hbx
  have HR1 := Lib.hid hr1; have HR2 := Lib.hid hr2
  have HRL := Lib.hid hrl
  clear hw hp hbx hr1 hr2 hrl
  go_enter Try.func57, Try.ntmps57
  go_wp2_with fail
  refine HC.out.mono ?_
  rintro e w1 ⟨rfl, hrd, hch⟩
  obtain ⟨a0, a1, a2, a3, a4, a5, b0, b1, b2, b3, b4, b5⟩ := row_cells6 (hch.row HR1.out (by simp; omega))
  obtain ⟨d0, d1, d2, d3, d4, d5, e0, e1, e2, e3, e4, e5⟩ := row_cells6 (hch.row HR2.out (by simp; omega))
  have HRD := Lib.hid hrd; have HCH := Lib.hid hch
  clear hrd hch
  go_wp2_with fail
  obtain ⟨⟨y0, y1, y2, y3, y4, y5⟩, HRD2, HCH2⟩ := again_end 2 (.int .u64 x) (x0 := .int .i64 3) (x1 := .int .i64 0) (x2 := .int .u64 x) (x3 := .int .i64 num) (x4 := .slice none 0 0) (x5 := .string ⟨#[]⟩) hgl HRL.out HB.out HCH.out HRD.out HR1.out HR2.out
  refine bodyPost_ret (v := OpA.val ⟨3, 0, x, num, none, 0, 0, ⟨#[]⟩⟩) (by simp [results, Try.results57, go_sem, y0, y1, y2, y3, y4, y5, OpA.val]) rfl ?_
  refine ⟨⟨3, 0, x, num, none, 0, 0, ⟨#[]⟩⟩, [], rfl, ⟨nil_isB _ _, HX.out, hnum, by simp, by simp, by simp [ByteArray.size]⟩, ?_, by simp [ByteArray.size], ?_, HCH2⟩
  · rw [HE.out]; rfl
  · rw [HE.out]; exact HRD2
set_option maxRecDepth 100000 in
set_option maxHeartbeats 1000000 in
theorem again_4 (g : Nat) (r : Option Nat) (s : Wd.R) (at_ : Int) (n : Nat) (num : Int) (pa : Option Addr) (pn pc : Nat) (ps : List Nat) (t : ByteArray) (w : World) (hw : Rd w g r s) (hp : IsB w w.heap.size pa pn ps) (hnum : -9223372036854775808 ≤ num ∧ num ≤ 9223372036854775807) (ht : t.size ≤ 9223372036854775807) (hl : s.b.length ≤ 70368744177664) :
    Calls Try.prog 57 #[.pointer (some ⟨g, 0, none⟩), .agg #[.int .i64 4, .int .i64 at_, .int .u64 (n : Nat), .int .i64 num, .slice pa pn pc, .string t]] w (AgainPost g r s ⟨4, n, num, ps, sb t⟩ w) := by
  have HE : Hid (Wd.R.op s ⟨4, n, num, ps, sb t⟩ = ((s.take 8).1, ⟨4, (s.take 8).2, num, [], []⟩)) := Lib.hid (by unfold Wd.R.op; simp only [Wd.kd, if_true, if_false])
  obtain ⟨hbx, hr1, hr2⟩ := boxes w [.int .i64 4, .int .i64 at_, .int .u64 (n : Nat), .int .i64 num, .slice pa pn pc, .string t] [.int .i64 0, .int .i64 0, .int .u64 0, .int .i64 0, .slice none 0 0, .string ⟨#[]⟩] [.int .i64 4, .int .i64 0, .int .u64 0, .int .i64 num, .slice none 0 0, .string ⟨#[]⟩] 54
  have hgl := hw.lt
  have hrl := hw.rlt
  obtain ⟨x, hx⟩ : ∃ x, x = (s.take 8).2 := ⟨_, rfl⟩
  have hxl : x < 18446744073709551616 := by have := take_lt s 8 hw.len; rw [hx]; simp at this; omega
  have HC := Lib.hid (ruint64_any g r s _ (hw.below hbx) hl)
  rw [← hx] at HE HC
  have hxw : IntKind.u64.wrap (x : Int) = (x : Int) := by rw [IntKind.wrap_u64]; omega
  have HX := Lib.hid hxl
  clear hx hxl
  have HB := Lib.hid hbx
  have HR1 := Lib.hid hr1; have HR2 := Lib.hid hr2
  have HRL := Lib.hid hrl
  clear hw hp hbx hr1 hr2 hrl
  go_enter Try.func57, Try.ntmps57
  go_wp2_with fail
  refine HC.out.mono ?_
  rintro e w1 ⟨rfl, hrd, hch⟩
  obtain ⟨a0, a1, a2, a3, a4, a5, b0, b1, b2, b3, b4, b5⟩ := row_cells6 (hch.row HR1.out (by simp; omega))
  obtain ⟨d0, d1, d2, d3, d4, d5, e0, e1, e2, e3, e4, e5⟩ := row_cells6 (hch.row HR2.out (by simp; omega))
  have HRD := Lib.hid hrd; have HCH := Lib.hid hch
  clear hrd hch
  go_wp2_with fail
  obtain ⟨⟨y0, y1, y2, y3, y4, y5⟩, HRD2, HCH2⟩ := again_end 2 (.int .u64 x) (x0 := .int .i64 4) (x1 := .int .i64 0) (x2 := .int .u64 x) (x3 := .int .i64 num) (x4 := .slice none 0 0) (x5 := .string ⟨#[]⟩) hgl HRL.out HB.out HCH.out HRD.out HR1.out HR2.out
  refine bodyPost_ret (v := OpA.val ⟨4, 0, x, num, none, 0, 0, ⟨#[]⟩⟩) (by simp [results, Try.results57, go_sem, y0, y1, y2, y3, y4, y5, OpA.val]) rfl ?_
  refine ⟨⟨4, 0, x, num, none, 0, 0, ⟨#[]⟩⟩, [], rfl, ⟨nil_isB _ _, HX.out, hnum, by simp, by simp, by simp [ByteArray.size]⟩, ?_, by simp [ByteArray.size], ?_, HCH2⟩
  · rw [HE.out]; rfl
  · rw [HE.out]; exact HRD2
set_option maxRecDepth 100000 in
set_option maxHeartbeats 1000000 in
theorem again_5 (g : Nat) (r : Option Nat) (s : Wd.R) (at_ : Int) (n : Nat) (num : Int) (pa : Option Addr) (pn pc : Nat) (ps : List Nat) (t : ByteArray) (w : World) (hw : Rd w g r s) (hp : IsB w w.heap.size pa pn ps) (hnum : -9223372036854775808 ≤ num ∧ num ≤ 9223372036854775807) (ht : t.size ≤ 9223372036854775807) (hl : s.b.length ≤ 70368744177664) :
    Calls Try.prog 57 #[.pointer (some ⟨g, 0, none⟩), .agg #[.int .i64 5, .int .i64 at_, .int .u64 (n : Nat), .int .i64 num, .slice pa pn pc, .string t]] w (AgainPost g r s ⟨5, n, num, ps, sb t⟩ w) := by
  have HE : Hid (Wd.R.op s ⟨5, n, num, ps, sb t⟩ = ((s.bytes ps.length).1, ⟨5, 0, num, (s.bytes ps.length).2, []⟩)) := Lib.hid (by unfold Wd.R.op; simp only [Wd.kd, if_true, if_false])
  obtain ⟨hbx, hr1, hr2⟩ := boxes w [.int .i64 5, .int .i64 at_, .int .u64 (n : Nat), .int .i64 num, .slice pa pn pc, .string t] [.int .i64 0, .int .i64 0, .int .u64 0, .int .i64 0, .slice none 0 0, .string ⟨#[]⟩] [.int .i64 5, .int .i64 0, .int .u64 0, .int .i64 num, .slice none 0 0, .string ⟨#[]⟩] 54
  have hgl := hw.lt
  have hrl := hw.rlt
  have hpl : ps.length = pn := hp.len
  have hmx := hp.2.2
  have HC := Lib.hid (rbytes_any g r s pn _ (hw.below hbx) hl (by omega))
  have hbl := bytes_len s pn
  rw [hpl] at HE
  obtain ⟨bs, hbs⟩ : ∃ bs, bs = (s.bytes pn).2 := ⟨_, rfl⟩
  rw [← hbs] at HE HC hbl
  obtain ⟨m, hm⟩ : ∃ m, m = bs.length := ⟨_, rfl⟩
  have HM := Lib.hid hm
  clear hpl hbs hm
  have HB := Lib.hid hbx
  have HR1 := Lib.hid hr1; have HR2 := Lib.hid hr2
  have HRL := Lib.hid hrl
  clear hw hp hbx hr1 hr2 hrl
  go_enter Try.func57, Try.ntmps57
  go_wp2_with fail
  refine HC.out.mono ?_
  rintro e w1 ⟨⟨v, rfl, A1, c1, rfl, hown⟩, hrd, hch⟩
  rw [← HM.out] at hown ⊢
  have HO := Lib.hid hown
  clear hown
  obtain ⟨a0, a1, a2, a3, a4, a5, b0, b1, b2, b3, b4, b5⟩ := row_cells6 (hch.row HR1.out (by simp; omega))
  obtain ⟨d0, d1, d2, d3, d4, d5, e0, e1, e2, e3, e4, e5⟩ := row_cells6 (hch.row HR2.out (by simp; omega))
  have HRD := Lib.hid hrd; have HCH := Lib.hid hch
  clear hrd hch
  go_wp2_with fail
  obtain ⟨⟨y0, y1, y2, y3, y4, y5⟩, HRD2, HCH2⟩ := again_end 4 (.slice A1 m c1) (x0 := .int .i64 5) (x1 := .int .i64 0) (x2 := .int .u64 0) (x3 := .int .i64 num) (x4 := .slice A1 m c1) (x5 := .string ⟨#[]⟩) hgl HRL.out HB.out HCH.out HRD.out HR1.out HR2.out
  refine bodyPost_ret (v := OpA.val ⟨5, 0, 0, num, A1, m, c1, ⟨#[]⟩⟩) (by simp [results, Try.results57, go_sem, y0, y1, y2, y3, y4, y5, OpA.val]) rfl ?_
  have hch3 : ∀ u, Chg [w.heap.size + 1 + 1, w.heap.size + 1] w1 (((((((w1.setCell ⟨w.heap.size + 1 + 1, 4, none⟩ (.slice A1 m c1)).setCell ⟨w.heap.size + 1, 0, none⟩ (.int .i64 5)).setCell ⟨w.heap.size + 1, 1, none⟩ (.int .i64 0)).setCell ⟨w.heap.size + 1, 2, none⟩ (.int .u64 0)).setCell ⟨w.heap.size + 1, 3, none⟩ (.int .i64 num)).setCell ⟨w.heap.size + 1, 4, none⟩ (.slice A1 m c1)).setCell ⟨w.heap.size + 1, 5, none⟩ u) := fun u =>
    (((((((Chg.refl _ w1).set_ (.inl (by simp)) _).set_ (.inl (by simp)) _).set_ (.inl (by simp)) _).set_ (.inl (by simp)) _).set_ (.inl (by simp)) _).set_ (.inl (by simp)) _).set_ (.inl (by simp)) _
  refine ⟨⟨5, 0, 0, num, A1, m, c1, ⟨#[]⟩⟩, bs, rfl, ⟨took_isB (g := g) HO.out (by simp) (hch3 _), by simp, hnum, by simp, by simp, by simp [ByteArray.size]⟩, ?_, by rw [← HM.out] at hbl; simpa [ByteArray.size] using hbl, ?_, HCH2⟩
  · rw [HE.out]; rfl
  · rw [HE.out]; exact HRD2
set_option maxRecDepth 100000 in
set_option maxHeartbeats 1000000 in
theorem again_6 (g : Nat) (r : Option Nat) (s : Wd.R) (at_ : Int) (n : Nat) (num : Int) (pa : Option Addr) (pn pc : Nat) (ps : List Nat) (t : ByteArray) (w : World) (hw : Rd w g r s) (hp : IsB w w.heap.size pa pn ps) (hnum : -9223372036854775808 ≤ num ∧ num ≤ 9223372036854775807) (ht : t.size ≤ 9223372036854775807) (hl : s.b.length ≤ 70368744177664) :
    Calls Try.prog 57 #[.pointer (some ⟨g, 0, none⟩), .agg #[.int .i64 6, .int .i64 at_, .int .u64 (n : Nat), .int .i64 num, .slice pa pn pc, .string t]] w (AgainPost g r s ⟨6, n, num, ps, sb t⟩ w) := by
  have HE : Hid (Wd.R.op s ⟨6, n, num, ps, sb t⟩ = ((s.text (sb t).length).1, ⟨6, 0, num, [], (s.text (sb t).length).2⟩)) := Lib.hid (by unfold Wd.R.op; simp only [Wd.kd, if_true, if_false])
  obtain ⟨hbx, hr1, hr2⟩ := boxes w [.int .i64 6, .int .i64 at_, .int .u64 (n : Nat), .int .i64 num, .slice pa pn pc, .string t] [.int .i64 0, .int .i64 0, .int .u64 0, .int .i64 0, .slice none 0 0, .string ⟨#[]⟩] [.int .i64 6, .int .i64 0, .int .u64 0, .int .i64 num, .slice none 0 0, .string ⟨#[]⟩] 54
  have hgl := hw.lt
  have hrl := hw.rlt
  rw [sb_len] at HE
  have HC := Lib.hid (rtext_any g r s t.size _ (hw.below hbx) (by omega) hl)
  obtain ⟨hyl, hyb⟩ := rtext_facts s t.size hw.len
  obtain ⟨ys, hys⟩ : ∃ ys, ys = (s.text t.size).2 := ⟨_, rfl⟩
  rw [← hys] at HE HC hyl hyb
  have HYB := Lib.hid hyb
  obtain ⟨y, hy⟩ : ∃ y, y = bs2s ys := ⟨_, rfl⟩
  rw [← hy] at HC
  have HY : Hid (sb y = ys) := Lib.hid (by rw [hy]; exact sb_bs2s ys hyb)
  have hyz : y.size ≤ s.b.length := by rw [hy, bs2s_size]; exact hyl
  clear hys hyb hy hyl
  have HB := Lib.hid hbx
  have HR1 := Lib.hid hr1; have HR2 := Lib.hid hr2
  have HRL := Lib.hid hrl
  clear hw hp hbx hr1 hr2 hrl
  go_enter Try.func57, Try.ntmps57
  go_wp2_with fail
  refine HC.out.mono ?_
  rintro e w1 ⟨rfl, hrd, hch⟩
  obtain ⟨a0, a1, a2, a3, a4, a5, b0, b1, b2, b3, b4, b5⟩ := row_cells6 (hch.row HR1.out (by simp; omega))
  obtain ⟨d0, d1, d2, d3, d4, d5, e0, e1, e2, e3, e4, e5⟩ := row_cells6 (hch.row HR2.out (by simp; omega))
  have HRD := Lib.hid hrd; have HCH := Lib.hid hch
  clear hrd hch
  go_wp2_with fail
  obtain ⟨⟨y0, y1, y2, y3, y4, y5⟩, HRD2, HCH2⟩ := again_end 5 (.string y) (x0 := .int .i64 6) (x1 := .int .i64 0) (x2 := .int .u64 0) (x3 := .int .i64 num) (x4 := .slice none 0 0) (x5 := .string y) hgl HRL.out HB.out HCH.out HRD.out HR1.out HR2.out
  refine bodyPost_ret (v := OpA.val ⟨6, 0, 0, num, none, 0, 0, y⟩) (by simp [results, Try.results57, go_sem, y0, y1, y2, y3, y4, y5, OpA.val]) rfl ?_
  refine ⟨⟨6, 0, 0, num, none, 0, 0, y⟩, [], rfl, ⟨nil_isB _ _, by simp, hnum, by simp, by simp, by simp only; omega⟩, ?_, by simpa using hyz, ?_, HCH2⟩
  · rw [HE.out, OpA.is, HY.out]
  · rw [HE.out]; exact HRD2
set_option maxRecDepth 100000 in
set_option maxHeartbeats 1000000 in
theorem again_7 (g : Nat) (r : Option Nat) (s : Wd.R) (at_ : Int) (n : Nat) (num : Int) (pa : Option Addr) (pn pc : Nat) (ps : List Nat) (t : ByteArray) (w : World) (hw : Rd w g r s) (hp : IsB w w.heap.size pa pn ps) (hnum : -9223372036854775808 ≤ num ∧ num ≤ 9223372036854775807) (ht : t.size ≤ 9223372036854775807) (hl : s.b.length ≤ 70368744177664) :
    Calls Try.prog 57 #[.pointer (some ⟨g, 0, none⟩), .agg #[.int .i64 7, .int .i64 at_, .int .u64 (n : Nat), .int .i64 num, .slice pa pn pc, .string t]] w (AgainPost g r s ⟨7, n, num, ps, sb t⟩ w) := by
  have HE : Hid (Wd.R.op s ⟨7, n, num, ps, sb t⟩ = (s.pad num, ⟨7, 0, num, [], []⟩)) := Lib.hid (by unfold Wd.R.op; simp only [Wd.kd, if_true, if_false])
  obtain ⟨hbx, hr1, hr2⟩ := boxes w [.int .i64 7, .int .i64 at_, .int .u64 (n : Nat), .int .i64 num, .slice pa pn pc, .string t] [.int .i64 0, .int .i64 0, .int .u64 0, .int .i64 0, .slice none 0 0, .string ⟨#[]⟩] [.int .i64 7, .int .i64 0, .int .u64 0, .int .i64 num, .slice none 0 0, .string ⟨#[]⟩] 54
  have hgl := hw.lt
  have hrl := hw.rlt
  have HC := Lib.hid (rpad_any g r s num _ (hw.below hbx) hl)
  have HB := Lib.hid hbx
  have HR1 := Lib.hid hr1; have HR2 := Lib.hid hr2
  have HRL := Lib.hid hrl
  clear hw hp hbx hr1 hr2 hrl
  go_enter Try.func57, Try.ntmps57
  go_wp2_with fail
  refine HC.out.mono ?_
  rintro e w1 ⟨rfl, hrd, hch⟩
  obtain ⟨a0, a1, a2, a3, a4, a5, b0, b1, b2, b3, b4, b5⟩ := row_cells6 (hch.row HR1.out (by simp; omega))
  obtain ⟨d0, d1, d2, d3, d4, d5, e0, e1, e2, e3, e4, e5⟩ := row_cells6 (hch.row HR2.out (by simp; omega))
  have HRD := Lib.hid hrd; have HCH := Lib.hid hch
  clear hrd hch
  go_wp2_with fail
  obtain ⟨⟨y0, y1, y2, y3, y4, y5⟩, HRD2, HCH2⟩ := again_end0 (x0 := .int .i64 7) (x1 := .int .i64 0) (x2 := .int .u64 0) (x3 := .int .i64 num) (x4 := .slice none 0 0) (x5 := .string ⟨#[]⟩) hgl HRL.out HB.out HCH.out HRD.out HR1.out HR2.out
  refine bodyPost_ret (v := OpA.val ⟨7, 0, 0, num, none, 0, 0, ⟨#[]⟩⟩) (by simp [results, Try.results57, go_sem, y0, y1, y2, y3, y4, y5, OpA.val]) rfl ?_
  refine ⟨⟨7, 0, 0, num, none, 0, 0, ⟨#[]⟩⟩, [], rfl, ⟨nil_isB _ _, by simp, hnum, by simp, by simp, by simp [ByteArray.size]⟩, ?_, by simp [ByteArray.size], ?_, HCH2⟩
  · rw [HE.out]; rfl
  · rw [HE.out]; exact HRD2
set_option maxRecDepth 100000 in
set_option maxHeartbeats 1000000 in
theorem again_8 (g : Nat) (r : Option Nat) (s : Wd.R) (at_ : Int) (n : Nat) (num : Int) (pa : Option Addr) (pn pc : Nat) (ps : List Nat) (t : ByteArray) (w : World) (hw : Rd w g r s) (hp : IsB w w.heap.size pa pn ps) (hnum : -9223372036854775808 ≤ num ∧ num ≤ 9223372036854775807) (ht : t.size ≤ 9223372036854775807) (hl : s.b.length ≤ 70368744177664) :
    Calls Try.prog 57 #[.pointer (some ⟨g, 0, none⟩), .agg #[.int .i64 8, .int .i64 at_, .int .u64 (n : Nat), .int .i64 num, .slice pa pn pc, .string t]] w (AgainPost g r s ⟨8, n, num, ps, sb t⟩ w) := by
  have HE : Hid (Wd.R.op s ⟨8, n, num, ps, sb t⟩ = (s.sealUp num, ⟨8, 0, num, [], []⟩)) := Lib.hid (by unfold Wd.R.op; simp only [Wd.kd, if_true, if_false])
  obtain ⟨hbx, hr1, hr2⟩ := boxes w [.int .i64 8, .int .i64 at_, .int .u64 (n : Nat), .int .i64 num, .slice pa pn pc, .string t] [.int .i64 0, .int .i64 0, .int .u64 0, .int .i64 0, .slice none 0 0, .string ⟨#[]⟩] [.int .i64 8, .int .i64 0, .int .u64 0, .int .i64 num, .slice none 0 0, .string ⟨#[]⟩] 54
  have hgl := hw.lt
  have hrl := hw.rlt
  have HC := Lib.hid (rseal_any g r s num _ (hw.below hbx) hl)
  have HB := Lib.hid hbx
  have HR1 := Lib.hid hr1; have HR2 := Lib.hid hr2
  have HRL := Lib.hid hrl
  clear hw hp hbx hr1 hr2 hrl
  go_enter Try.func57, Try.ntmps57
  go_wp2_with fail
  refine HC.out.mono ?_
  rintro e w1 ⟨rfl, hrd, hch⟩
  obtain ⟨a0, a1, a2, a3, a4, a5, b0, b1, b2, b3, b4, b5⟩ := row_cells6 (hch.row HR1.out (by simp; omega))
  obtain ⟨d0, d1, d2, d3, d4, d5, e0, e1, e2, e3, e4, e5⟩ := row_cells6 (hch.row HR2.out (by simp; omega))
  have HRD := Lib.hid hrd; have HCH := Lib.hid hch
  clear hrd hch
  go_wp2_with fail
  obtain ⟨⟨y0, y1, y2, y3, y4, y5⟩, HRD2, HCH2⟩ := again_end0 (x0 := .int .i64 8) (x1 := .int .i64 0) (x2 := .int .u64 0) (x3 := .int .i64 num) (x4 := .slice none 0 0) (x5 := .string ⟨#[]⟩) hgl HRL.out HB.out HCH.out HRD.out HR1.out HR2.out
  refine bodyPost_ret (v := OpA.val ⟨8, 0, 0, num, none, 0, 0, ⟨#[]⟩⟩) (by simp [results, Try.results57, go_sem, y0, y1, y2, y3, y4, y5, OpA.val]) rfl ?_
  refine ⟨⟨8, 0, 0, num, none, 0, 0, ⟨#[]⟩⟩, [], rfl, ⟨nil_isB _ _, by simp, hnum, by simp, by simp, by simp [ByteArray.size]⟩, ?_, by simp [ByteArray.size], ?_, HCH2⟩
  · rw [HE.out]; rfl
  · rw [HE.out]; exact HRD2
set_option maxRecDepth 100000 in
set_option maxHeartbeats 1000000 in
theorem again_0 (g : Nat) (r : Option Nat) (s : Wd.R) (kind : Int) (at_ : Int) (n : Nat) (num : Int) (pa : Option Addr) (pn pc : Nat) (ps : List Nat) (t : ByteArray) (w : World) (hw : Rd w g r s) (hp : IsB w w.heap.size pa pn ps) (hnum : -9223372036854775808 ≤ num ∧ num ≤ 9223372036854775807) (hkb : -9223372036854775808 ≤ kind ∧ kind ≤ 9223372036854775807) (hk : kind ≠ 1 ∧ kind ≠ 2 ∧ kind ≠ 3 ∧ kind ≠ 4 ∧ kind ≠ 5 ∧ kind ≠ 6 ∧ kind ≠ 7 ∧ kind ≠ 8) (ht : t.size ≤ 9223372036854775807) (hl : s.b.length ≤ 70368744177664) :
    Calls Try.prog 57 #[.pointer (some ⟨g, 0, none⟩), .agg #[.int .i64 kind, .int .i64 at_, .int .u64 (n : Nat), .int .i64 num, .slice pa pn pc, .string t]] w (AgainPost g r s ⟨kind, n, num, ps, sb t⟩ w) := by
  obtain ⟨k1, k2, k3, k4, k5, k6, k7, k8⟩ := hk
  have HE : Hid (Wd.R.op s ⟨kind, n, num, ps, sb t⟩ = (s, ⟨kind, 0, num, [], []⟩)) := Lib.hid (by unfold Wd.R.op; simp only [k1, k2, k3, k4, k5, k6, k7, k8, if_false])
  have h1 : (kind == 1) = false := beq_eq_false_iff_ne.2 k1
  have h2 : (kind == 2) = false := beq_eq_false_iff_ne.2 k2
  have h3 : (kind == 3) = false := beq_eq_false_iff_ne.2 k3
  have h4 : (kind == 4) = false := beq_eq_false_iff_ne.2 k4
  have h5 : (kind == 5) = false := beq_eq_false_iff_ne.2 k5
  have h6 : (kind == 6) = false := beq_eq_false_iff_ne.2 k6
  have h7 : (kind == 7) = false := beq_eq_false_iff_ne.2 k7
  have h8 : (kind == 8) = false := beq_eq_false_iff_ne.2 k8
  clear k1 k2 k3 k4 k5 k6 k7 k8
  obtain ⟨hbx, hr1, hr2⟩ := boxes w [.int .i64 kind, .int .i64 at_, .int .u64 (n : Nat), .int .i64 num, .slice pa pn pc, .string t] [.int .i64 kind, .int .i64 0, .int .u64 0, .int .i64 num, .slice none 0 0, .string ⟨#[]⟩] [.int .i64 kind, .int .i64 0, .int .u64 0, .int .i64 num, .slice none 0 0, .string ⟨#[]⟩] 54
  have HRD := Lib.hid (hw.below hbx)
  have HB := Lib.hid hbx
  obtain ⟨y0, y1, y2, y3, y4, y5, _⟩ := row_cells6 hr1
  have HY := Lib.hid (And.intro y0 (And.intro y1 (And.intro y2 (And.intro y3 (And.intro y4 y5)))))
  clear hw hp hbx hr1 hr2 y0 y1 y2 y3 y4 y5
  go_enter Try.func57, Try.ntmps57
  go_wp2_with fail
  obtain ⟨y0, y1, y2, y3, y4, y5⟩ := HY.out
  refine bodyPost_ret (v := OpA.val ⟨kind, 0, 0, num, none, 0, 0, ⟨#[]⟩⟩) (by simp [results, Try.results57, go_sem, OpA.val]) rfl ?_
  refine ⟨⟨kind, 0, 0, num, none, 0, 0, ⟨#[]⟩⟩, [], rfl, ⟨nil_isB _ _, by simp, hnum, by simp, hkb, by simp [ByteArray.size]⟩, ?_, by simp [ByteArray.size], ?_, Chg.of_below HB.out⟩
  · rw [HE.out]; rfl
  · rw [HE.out]; exact HRD.out
/-- one step on a reader -/
theorem again_any (g : Nat) (r : Option Nat) (s : Wd.R) (o : OpA) (ps : List Nat) (w : World) (hw : Rd w g r s) (ho : o.Ok w ps) (hl : s.b.length ≤ 70368744177664) :
    Calls Try.prog 57 #[.pointer (some ⟨g, 0, none⟩), o.val] w (AgainPost g r s (o.is ps) w) := by
  obtain ⟨kind, at_, n, num, pa, pn, pc, t⟩ := o
  unfold OpA.val OpA.is
  simp only
  have hp : IsB w w.heap.size pa pn ps := ho.1
  have hnum := ho.2.2.1
  have ht := ho.2.2.2.2.2
  have hkb := ho.2.2.2.2.1
  by_cases k1 : kind = 1
  · subst k1; exact again_1 g r s at_ n num pa pn pc ps t w hw hp hnum ht hl
  by_cases k2 : kind = 2
  · subst k2; exact again_2 g r s at_ n num pa pn pc ps t w hw hp hnum ht hl
  by_cases k3 : kind = 3
  · subst k3; exact again_3 g r s at_ n num pa pn pc ps t w hw hp hnum ht hl
  by_cases k4 : kind = 4
  · subst k4; exact again_4 g r s at_ n num pa pn pc ps t w hw hp hnum ht hl
  by_cases k5 : kind = 5
  · subst k5; exact again_5 g r s at_ n num pa pn pc ps t w hw hp hnum ht hl
  by_cases k6 : kind = 6
  · subst k6; exact again_6 g r s at_ n num pa pn pc ps t w hw hp hnum ht hl
  by_cases k7 : kind = 7
  · subst k7; exact again_7 g r s at_ n num pa pn pc ps t w hw hp hnum ht hl
  by_cases k8 : kind = 8
  · subst k8; exact again_8 g r s at_ n num pa pn pc ps t w hw hp hnum ht hl
  · exact again_0 g r s kind at_ n num pa pn pc ps t w hw hp hnum hkb ⟨k1, k2, k3, k4, k5, k6, k7, k8⟩ ht hl
end Go.Proofs.Ytajkiglogfahfaa
