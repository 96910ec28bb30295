/- Words for a reader in memory, and the walks of the reader's next, At, Left, Err, End, and of NewReader. -/
import Derived.Test.YtajkiglogfahfaaWriterB
import Derived.Test.YtajkiglogfahfaaGet
import Derived.Deep.QuietTactic
import Derived.BigQuiet
set_option linter.unusedVariables false
set_option linter.unusedSimpArgs false
namespace Go.Proofs.Ytajkiglogfahfaa
open Go.RowKit

/-- a reader -/
def Rd (w : World) (g : Nat) (r : Option Nat) (s : Wd.R) : Prop :=
  ∃ A c, Row w g 112 [.slice A s.b.length c, .int .i64 (s.at_ : Nat), .int .i64 (s.e : Nat)] ∧ w.ownsRow 0 5 1 (.slice A s.b.length c) s.b.length (s.b.map u8) ∧ (Value.slice A s.b.length c).ownBlock = r ∧ (∀ b ∈ s.b, b < 256) ∧ s.at_ ≤ s.b.length
theorem owns_chg {S : List Nat} {w w' : World} {base : Nat} {e : TypeId} {size n : Nat} {v : Value} {xs : List Value} (h : w.ownsRow base e size v n xs) (hc : Chg S w w') (hr : ∀ k, v.ownBlock = some k → k ∉ S) : w'.ownsRow base e size v n xs := by
  refine ⟨h.1, ?_⟩
  rcases h.2 with h2 | ⟨g, cap, cur, hv, hg, hh, r⟩
  · exact .inl h2
  · refine .inr ⟨g, cap, cur, hv, hg, ?_, r⟩
    rw [hc.block g (Blk.lt (cs := cur) hh) (hr g (by rw [hv]; rfl))]; exact hh
theorem Rd.chg {S : List Nat} {w w' : World} {g : Nat} {r : Option Nat} {s : Wd.R} (h : Rd w g r s) (hc : Chg S w w') (hg : g ∉ S) (hr : ∀ k, r = some k → k ∉ S) : Rd w' g r s := by
  obtain ⟨A, c, hrow, hown, hob, h2⟩ := h
  exact ⟨A, c, hc.row hrow hg, owns_chg hown hc (fun k hk => hr k (hob.symm.trans hk)), hob, h2⟩
theorem Wr.chg {S : List Nat} {w w' : World} {g : Nat} {r : Option Nat} {s : Wd.W} (h : Wr w g r s) (hc : Chg S w w') (hg : g ∉ S) (hr : ∀ k, r = some k → k ∉ S) : Wr w' g r s := by
  obtain ⟨A, c, hrow, hown, hob, h2⟩ := h
  exact ⟨A, c, hc.row hrow hg, owns_chg hown hc (fun k hk => hr k (hob.symm.trans hk)), hob, h2⟩
/-- bytes that lie in a block of one's own: they stay as long as that block does -/
def IsR (w : World) (r : Option Nat) (A : Option Addr) (n c : Nat) (bs : List Nat) : Prop := ∀ w2 : World, (∀ k, r = some k → w2.heap[k]? = w.heap[k]?) → w.heap.size ≤ w2.heap.size → IsB' w2 A n c bs
theorem IsR.b {w : World} {r : Option Nat} {A : Option Addr} {n c : Nat} {bs : List Nat} (h : IsR w r A n c bs) : IsB' w A n c bs := h w (fun _ _ => rfl) (Nat.le_refl _)
theorem IsR.chg {S : List Nat} {w w' : World} {r : Option Nat} {A : Option Addr} {n c : Nat} {bs : List Nat} (h : IsR w r A n c bs) (hc : Chg S w w') (hr : ∀ k, r = some k → k ∉ S) (hlt : ∀ k, r = some k → k < w.heap.size) : IsR w' r A n c bs :=
  fun w2 h1 h2 => h w2 (fun k hk => (h1 k hk).trans (hc.block k (hlt k hk) (hr k hk))) (Nat.le_trans hc.size h2)
theorem own_lt {w : World} {base n c : Nat} {e : TypeId} {size : Nat} {A : Option Addr} {xs : List Value} (h : w.ownsRow base e size (.slice A n c) n xs) : ∀ k, (Value.slice A n c).ownBlock = some k → k < w.heap.size := by
  rcases h.2 with ⟨h, _⟩ | ⟨g', cap, cur, hv, hg, hh, _⟩
  · injection h with hA _ _
    subst hA
    intro k hk
    cases hk
  · intro k hk
    rw [hv] at hk
    injection hk with hk
    exact hk ▸ (Blk.lt (cs := cur) hh)
theorem own_isR {w : World} {n c : Nat} {A : Option Addr} {bs : List Nat} (hown : w.ownsRow 0 5 1 (.slice A n c) n (bs.map u8)) (hbs : ∀ b ∈ bs, b < 256) : IsR w (Value.slice A n c).ownBlock A n c bs := by
  intro w2 h1 h2
  have hown2 : w2.ownsRow 0 5 1 (.slice A n c) n (bs.map u8) := by
    refine ⟨hown.1, ?_⟩
    rcases hown.2 with h3 | ⟨g, cap, cur, hv, hg, hh, r⟩
    · exact .inl h3
    · refine .inr ⟨g, cap, cur, hv, hg, ?_, r⟩
      rw [h1 g (by rw [hv]; rfl)]; exact hh
  refine ⟨⟨Reads.of_own hown2, hbs, ?_⟩, ?_⟩
  · rcases hown.2 with ⟨h, h0⟩ | ⟨g', cap, cur, hv, _, _, hnc, hcm, _⟩
    · omega
    · unfold maxLen at hcm
      omega
  · intro hA
    rcases hown.2 with ⟨h, _⟩ | ⟨g', cap, cur, hv, _⟩
    · injection h
    · rw [hA] at hv; cases hv
theorem Rd.open_ {w : World} {g : Nat} {r : Option Nat} {s : Wd.R} (h : Rd w g r s) : ∃ A c, w.cell? ⟨g, 0, none⟩ = some (.slice A s.b.length c) ∧ w.cell? ⟨g, 1, none⟩ = some (.int .i64 (s.at_ : Nat)) ∧ w.cell? ⟨g, 2, none⟩ = some (.int .i64 (s.e : Nat)) ∧
    w.frozen? ⟨g, 0, none⟩ = false ∧ w.frozen? ⟨g, 1, none⟩ = false ∧ w.frozen? ⟨g, 2, none⟩ = false ∧ g < w.heap.size ∧ s.at_ ≤ s.b.length ∧ s.b.length ≤ c ∧
    Hid (IsR w r A s.b.length c s.b) ∧ Hid (∀ (w' : World) (a e : Nat), a ≤ s.b.length → Row w' g 112 [.slice A s.b.length c, .int .i64 (a : Nat), .int .i64 (e : Nat)] → w'.ownsRow 0 5 1 (.slice A s.b.length c) s.b.length (s.b.map u8) → Rd w' g r ⟨s.b, a, e⟩) ∧
    Hid (Row w g 112 [.slice A s.b.length c, .int .i64 (s.at_ : Nat), .int .i64 (s.e : Nat)]) ∧ Hid (w.ownsRow 0 5 1 (.slice A s.b.length c) s.b.length (s.b.map u8)) := by
  obtain ⟨A, c, hrow, hown, hob, hbs, hat⟩ := h
  have hc : s.b.length ≤ c ∧ s.b.length ≤ 9223372036854775807 := by
    rcases hown.2 with ⟨h, h0⟩ | ⟨g', cap, cur, hv, _, _, hnc, hcm, _⟩
    · constructor <;> omega
    · injection hv with _ _ hc
      unfold maxLen at hcm
      constructor <;> omega
  refine ⟨A, c, hrow.cell 0, hrow.cell 1, hrow.cell 2, hrow.frozen 0, hrow.frozen 1, hrow.frozen 2, hrow.lt, hat, hc.1, ?_, ?_, hrow, hown⟩
  · rw [← hob]; exact own_isR hown hbs
  · intro w' a e ha h1 h2
    exact ⟨A, c, h1, h2, hob, hbs, ha⟩
theorem rd_set1 {w : World} {g n c x y : Nat} {A : Option Addr} {xs : List Value} (z : Nat) (h1 : Row w g 112 [.slice A n c, .int .i64 (x : Nat), .int .i64 (y : Nat)]) (h2 : w.ownsRow 0 5 1 (.slice A n c) n xs) :
    Row (w.setCell ⟨g, 1, none⟩ (.int .i64 (z : Nat))) g 112 [.slice A n c, .int .i64 (z : Nat), .int .i64 (y : Nat)] ∧ (w.setCell ⟨g, 1, none⟩ (.int .i64 (z : Nat))).ownsRow 0 5 1 (.slice A n c) n xs ∧ Chg [g] w (w.setCell ⟨g, 1, none⟩ (.int .i64 (z : Nat))) :=
  ⟨h1.set_ 1 _, own_set h2 h1 (by decide) 1 _, (Chg.refl _ _).set_ (.inl (by simp)) _⟩
theorem rd_set2 {w : World} {g n c x y : Nat} {A : Option Addr} {xs : List Value} (z : Nat) (h1 : Row w g 112 [.slice A n c, .int .i64 (x : Nat), .int .i64 (y : Nat)]) (h2 : w.ownsRow 0 5 1 (.slice A n c) n xs) :
    Row (w.setCell ⟨g, 2, none⟩ (.int .i64 (z : Nat))) g 112 [.slice A n c, .int .i64 (x : Nat), .int .i64 (z : Nat)] ∧ (w.setCell ⟨g, 2, none⟩ (.int .i64 (z : Nat))).ownsRow 0 5 1 (.slice A n c) n xs ∧ Chg [g] w (w.setCell ⟨g, 2, none⟩ (.int .i64 (z : Nat))) :=
  ⟨h1.set_ 2 _, own_set h2 h1 (by decide) 2 _, (Chg.refl _ _).set_ (.inl (by simp)) _⟩

theorem next_part {w : World} {A : Option Addr} {xs : List Nat} {n c f k : Nat} (hB : IsB w w.heap.size A n xs) (hcn : n ≤ c) (hfl : f + k ≤ n) :
    IsB w w.heap.size (if c = f then A else A.map (·.add f)) k ((xs.drop f).take k) := by
  have hr : Reads w w.heap.size 1 (if c = f then A else A.map (·.add (f * 1))) (n - f) ((xs.map u8).drop (f * 1)) := hB.1.cut (by omega) hcn
  have := hB.2.2
  rw [Nat.mul_one] at hr
  refine ⟨⟨by have := hB.len; simp; omega, fun h => ?_⟩, fun b hb => hB.2.1 b (List.mem_of_mem_drop (List.mem_of_mem_take hb)), by omega⟩
  obtain ⟨ad, h1, h2, h3⟩ := hr.2 (by omega)
  refine ⟨ad, h1, h2, fun i u hu => h3 i u ?_⟩
  simp only [List.map_take, List.map_drop] at hu
  rw [List.getElem?_take] at hu
  split at hu
  · exact hu
  · cases hu

set_option maxHeartbeats 400000 in
theorem rat_any (g : Nat) (r : Option Nat) (s : Wd.R) (w : World) (hw : Rd w g r s) : Calls Try.prog 42 #[.pointer (some ⟨g, 0, none⟩)] w fun e w' => e = .returned (.int .i64 (s.at_ : Nat)) ∧ w = w' := by
  obtain ⟨A, c, c0, c1, c2, f0, f1, f2, hlt, _⟩ := hw.open_
  clear hw
  go_enter Try.func42, Try.ntmps42
  go_wp2_with fail
  go_ret
  exact ⟨rfl, rfl⟩
set_option maxHeartbeats 400000 in
theorem rerr_any (g : Nat) (r : Option Nat) (s : Wd.R) (w : World) (hw : Rd w g r s) : Calls Try.prog 41 #[.pointer (some ⟨g, 0, none⟩)] w fun e w' => e = .returned (.int .i64 (s.e : Nat)) ∧ w = w' := by
  obtain ⟨A, c, c0, c1, c2, f0, f1, f2, hlt, _⟩ := hw.open_
  clear hw
  go_enter Try.func41, Try.ntmps41
  go_wp2_with fail
  go_ret
  exact ⟨rfl, rfl⟩

set_option maxRecDepth 100000 in
set_option maxHeartbeats 400000 in
theorem next_ok (g : Nat) (r : Option Nat) (s : Wd.R) (skip n : Nat) (w : World) (hw : Rd w g r s) (he : s.e = 0) (hn : s.at_ + skip + n ≤ s.b.length) :
    Calls Try.prog 86 #[.pointer (some ⟨g, 0, none⟩), .int .i64 (skip : Nat), .int .i64 (n : Nat)] w fun e w' => (∃ A' c', e = .returned (.tuple #[.slice A' n c', .bool true]) ∧ n ≤ c' ∧ IsR w' r A' n c' ((s.b.drop (s.at_ + skip)).take n)) ∧ Rd w' g r s ∧ Chg [] w w' := by
  obtain ⟨A, c, c0, c1, c2, f0, f1, f2, hlt, hat, hcn, HB, HD, HROW, HOWN⟩ := hw.open_
  have hP : IsR w r (if c = s.at_ + skip then A else A.map (·.add (s.at_ + skip))) n (c - (s.at_ + skip)) ((s.b.drop (s.at_ + skip)).take n) := by
    intro w2 h1 h2
    have h3 := HB.out w2 h1 h2
    refine ⟨next_part (f := s.at_ + skip) (k := n) h3.1 hcn hn, fun h => ?_⟩
    cases A with
    | none => have := h3.2 rfl; omega
    | some _ => split at h; (cases h); (cases h)
  have HP1 := Lib.hid (fun h : c = s.at_ + skip => by rw [if_pos h] at hP; exact hP)
  have HP2 := Lib.hid (fun h : ¬ c = s.at_ + skip => by rw [if_neg h] at hP; exact hP)
  have hmx := HB.out.b.1.2.2
  have HW := Lib.hid hw
  have c2' : w.cell? ⟨g, 2, none⟩ = some (.int .i64 0) := by rw [he] at c2; exact c2
  have HE := Lib.hid he
  clear hP hw he c2
  obtain ⟨xs, at_, e⟩ := s
  simp only at c0 c1 hat hcn hn hmx
  obtain ⟨m, hm⟩ : ∃ m, m = xs.length := ⟨_, rfl⟩
  rw [← hm] at c0 hat hcn hn hmx
  have HM := Lib.hid hm
  clear hm
  have w1 : IntKind.i64.wrap ((m : Int) - (at_ : Int)) = (m : Int) - (at_ : Int) := by rw [IntKind.wrap_i64]; omega
  have w2 : IntKind.i64.wrap ((m : Int) - (at_ : Int) - (skip : Int)) = (m : Int) - (at_ : Int) - (skip : Int) := by rw [IntKind.wrap_i64]; omega
  have w3 : IntKind.i64.wrap ((at_ : Int) + (skip : Int)) = (at_ : Int) + (skip : Int) := by rw [IntKind.wrap_i64]; omega
  have w4 : IntKind.i64.wrap ((at_ : Int) + (skip : Int) + (n : Int)) = (at_ : Int) + (skip : Int) + (n : Int) := by rw [IntKind.wrap_i64]; omega
  have w5 : decide ((m : Int) - (at_ : Int) - (skip : Int) < (n : Int)) = false := by simp; omega
  go_enter Try.func86, Try.ntmps86
  go_wp2_with fail
  go_quiet (fail)
  go_wp2_with fail
  go_quiet (fail)
  go_wp2_with fail
  all_goals
    rename_i h
    go_ret2
    have hch : ∀ k, Chg [] w (w.drewN k) := fun k => (Chg.refl _ _).drewN k
    refine ⟨⟨_, _, rfl, by omega, ?_⟩, HW.out.chg (hch _) (by simp) (by simp), hch _⟩
    first
      | exact fun w2 h1 h2 => HP2.out h w2 h1 h2
      | (have h5 := HP1.out h; rw [show c - (at_ + skip) = 0 by omega] at h5; exact fun w2 h1 h2 => h5 w2 h1 h2)
set_option maxRecDepth 100000 in
set_option maxHeartbeats 400000 in
theorem next_refused (g : Nat) (r : Option Nat) (s : Wd.R) (skip n : Nat) (w : World) (hw : Rd w g r s) (he : s.e ≠ 0) :
    Calls Try.prog 86 #[.pointer (some ⟨g, 0, none⟩), .int .i64 (skip : Nat), .int .i64 (n : Nat)] w fun e w' => e = .returned (.tuple #[.slice none 0 0, .bool false]) ∧ Rd w' g r s ∧ Chg [] w w' := by
  obtain ⟨A, c, c0, c1, c2, f0, f1, f2, hlt, hat, hcn, HB, HD, HROW, HOWN⟩ := hw.open_
  have HW := Lib.hid hw
  have he1 : ((s.e : Int) == 0) = false := beq_eq_false_iff_ne.2 (by omega)
  have he2 : ((s.e : Int) != 0) = true := by rw [bne_iff_ne]; omega
  clear hw he
  go_enter Try.func86, Try.ntmps86
  go_wp2_with fail
  go_quiet (fail)
  go_wp2_with fail
  go_ret2
  have hch : ∀ k, Chg [] w (w.drewN k) := fun k => (Chg.refl _ _).drewN k
  exact ⟨rfl, HW.out.chg (hch _) (by simp) (by simp), hch _⟩
set_option maxRecDepth 100000 in
set_option maxHeartbeats 400000 in
theorem next_short (g : Nat) (r : Option Nat) (s : Wd.R) (skip n : Nat) (w : World) (hw : Rd w g r s) (he : s.e = 0) (hs : skip ≤ 2) (hn : n ≤ 9223372036854775807) (hsh : s.b.length < s.at_ + skip + n) :
    Calls Try.prog 86 #[.pointer (some ⟨g, 0, none⟩), .int .i64 (skip : Nat), .int .i64 (n : Nat)] w fun e w' => e = .returned (.tuple #[.slice none 0 0, .bool false]) ∧ Rd w' g r ⟨s.b, s.at_, 10⟩ ∧ Chg [g] w w' := by
  obtain ⟨A, c, c0, c1, c2, f0, f1, f2, hlt, hat, hcn, HB, HD, HROW, HOWN⟩ := hw.open_
  have hmx := HB.out.b.1.2.2
  have c2' : w.cell? ⟨g, 2, none⟩ = some (.int .i64 0) := by rw [he] at c2; exact c2
  clear hw he c2
  obtain ⟨xs, at_, e⟩ := s
  simp only at c0 c1 hat hcn hsh hmx
  obtain ⟨m, hm⟩ : ∃ m, m = xs.length := ⟨_, rfl⟩
  rw [← hm] at c0 hat hcn hsh hmx
  have HM := Lib.hid hm
  clear hm
  have w1 : IntKind.i64.wrap ((m : Int) - (at_ : Int)) = (m : Int) - (at_ : Int) := by rw [IntKind.wrap_i64]; omega
  have w2 : IntKind.i64.wrap ((m : Int) - (at_ : Int) - (skip : Int)) = (m : Int) - (at_ : Int) - (skip : Int) := by rw [IntKind.wrap_i64]; omega
  have w5 : decide ((m : Int) - (at_ : Int) - (skip : Int) < (n : Int)) = true := by simp; omega
  go_enter Try.func86, Try.ntmps86
  go_wp2_with fail
  go_quiet (fail)
  go_wp2_with fail
  go_ret2
  have h := fun k => rd_set2 (w := w.drewN k) 10 (HROW.out.drewN k) HOWN.out
  have h2 : ∀ k, Chg [g] w ((w.drewN k).setCell ⟨g, 2, none⟩ (.int .i64 (10 : Nat))) := fun k => ((Chg.refl _ _).drewN k).trans (h k).2.2 (fun x hx => .inl hx)
  exact ⟨rfl, HD.out _ _ _ (by rw [← HM.out]; exact hat) (h _).1 (h _).2.1, h2 _⟩
end Go.Proofs.Ytajkiglogfahfaa
