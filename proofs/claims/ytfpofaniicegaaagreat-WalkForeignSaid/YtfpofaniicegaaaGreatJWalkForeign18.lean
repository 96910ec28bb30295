/- Texts of this claim, one behind the other: BuJ, BuO, BuY. -/
import Derived.Test.YtfpofaniicegaaaGreatJWalkForeign17
/- The document's machine: what lies where; Off, access. -/
set_option linter.unusedVariables false
set_option linter.unusedSimpArgs false
namespace Go.Proofs.YtfpofaniicegaaaGreat
open Go.RowKit
open S64
namespace Bu
theorem chks_zero : ∀ {most : Nat} {pre l : Sp.S}, chks most pre l = 0 → ∀ j r, l[j]? = some r → chk most (pre ++ l.take j) r = 0
  | most, pre, [], _ => fun j r h => by simp at h
  | most, pre, x :: l, h => by
    rw [chks] at h
    split at h
    · rename_i h1; exact absurd h h1
    · rename_i h1
      have h1 : chk most pre x = 0 := by rcases Nat.eq_zero_or_pos (chk most pre x) with h2 | h2; exact h2; omega
      intro j r hj
      cases j with
      | zero => simp at hj; subst hj; simpa using h1
      | succ j =>
        have h2 := chks_zero h j r (by simpa using hj)
        simpa using h2
/-- a bus that may be -/
structure Okay (rams devs : Sp.S) : Prop where
  r8 : rams.length ≤ 8
  d32 : devs.length ≤ 32
  good : ∀ r ∈ rams ++ devs, 0 < r.2 ∧ r.1 + r.2 ≤ M32
theorem okay_of {rams devs : Sp.S} (h : newE rams devs = 0) : Okay rams devs := by
  unfold newE at h
  split at h
  · cases h
  rename_i h0
  split at h
  · rename_i h1; exact absurd h h1
  rename_i h1
  split at h
  · rename_i h2; exact absurd h h2
  rename_i h2
  refine ⟨by omega, by omega, fun r hr => ?_⟩
  rcases List.mem_append.1 hr with hr | hr
  · obtain ⟨j, hj⟩ := List.getElem?_of_mem hr
    have := chk_zero (chks_zero (most := TOP) (pre := []) (l := rams) (by omega) j r hj)
    exact ⟨this.1, this.2.1⟩
  · obtain ⟨j, hj⟩ := List.getElem?_of_mem hr
    have := chk_zero (chks_zero (most := 1048576) (pre := rams) (l := devs) (by omega) j r hj)
    exact ⟨this.1, this.2.1⟩
/-- a page in the document's list -/
def pcell (x : Nat × Nat) : List Value := [.int .u64 (x.1 : Nat), .slice (some ⟨x.2, 0, none⟩) 4096 4096]
/-- THE DOCUMENT'S MACHINE LIES AT g: the lists of its bus below B, all that turns with it at B or above. pgs: the pages' numbers and blocks. -/
structure RMA (w : World) (B g : Nat) (M : PM) (A1 A2 Ap : Option Addr) (n1 n2 c1 c2 np cp : Nat) (pgs : List (Nat × Nat)) : Prop where
  row : Row w g 44 [.slice A1 n1 c1, .slice A2 n2 c2, .slice Ap np cp, .int .i64 M.loads, .int .i64 M.stores, .int .i64 M.strays]
  gB : B ≤ g
  rams : IsS w B A1 n1 M.rams
  devs : IsS w B A2 n2 M.devs
  ok : Okay M.rams M.devs
  own : w.ownsRow B 47 2 (.slice Ap np cp) np (pgs.map pcell).flatten
  plen : pgs.length = np
  bytes : ∀ x ∈ pgs, B ≤ x.2 ∧ Row w x.2 5 (leafRow M.mem x.1)
  nums : (pgs.map (·.1)).Nodup
  blks : (pgs.map (·.2)).Nodup
  out : ∀ p, (∀ x ∈ pgs, x.1 ≠ p / 4096) → M.mem p = 0
  byte : ∀ p, M.mem p < 256
theorem RMA.below {w w' : World} {B g : Nat} {M : PM} {A1 A2 Ap : Option Addr} {n1 n2 c1 c2 np cp : Nat} {pgs : List (Nat × Nat)} (h : RMA w B g M A1 A2 Ap n1 n2 c1 c2 np cp pgs) (hb : Below w.heap.size w w') : RMA w' B g M A1 A2 Ap n1 n2 c1 c2 np cp pgs :=
  ⟨h.row.below hb h.row.lt, h.gB, h.rams.below (hb.mono (Nat.le_of_lt (Nat.lt_of_le_of_lt h.gB h.row.lt))), h.devs.below (hb.mono (Nat.le_of_lt (Nat.lt_of_le_of_lt h.gB h.row.lt))), h.ok, owns_below2 h.own hb, h.plen, fun x hx => ⟨(h.bytes x hx).1, (h.bytes x hx).2.below hb (h.bytes x hx).2.lt⟩, h.nums, h.blks, h.out, h.byte⟩
theorem RMA.more1 {w : World} {B g : Nat} {M : PM} {A1 A2 Ap : Option Addr} {n1 n2 c1 c2 np cp : Nat} {pgs : List (Nat × Nat)} (h : RMA w B g M A1 A2 Ap n1 n2 c1 c2 np cp pgs) : IsS w w.heap.size A1 n1 M.rams := h.rams.more (Nat.le_of_lt (Nat.lt_of_le_of_lt h.gB h.row.lt))
theorem RMA.more2 {w : World} {B g : Nat} {M : PM} {A1 A2 Ap : Option Addr} {n1 n2 c1 c2 np cp : Nat} {pgs : List (Nat × Nat)} (h : RMA w B g M A1 A2 Ap n1 n2 c1 c2 np cp pgs) : IsS w w.heap.size A2 n2 M.devs := h.devs.more (Nat.le_of_lt (Nat.lt_of_le_of_lt h.gB h.row.lt))
theorem on_false {l : Sp.S} {p : Nat} (h : ∀ (j : Nat) (r : Nat × Nat), l[j]? = some r → inR p r = false) : on l p = false := by
  unfold on
  rw [List.any_eq_false]
  intro r hr
  obtain ⟨j, hj⟩ := List.getElem?_of_mem hr
  have := h j r hj
  unfold inR at this
  rw [this]; decide
theorem on_in {l : Sp.S} {p : Nat} {r : Nat × Nat} (hr : r ∈ l) (h1 : r.1 ≤ p) (h2 : p < r.1 + r.2) : on l p = true := List.any_eq_true.2 ⟨r, hr, decide_eq_true ⟨h1, h2⟩⟩
/-- what Off tells -/
def offV (F : Option Nat) : Value := .tuple #[.int .u64 ((F.getD 0 : Nat) : Int), .bool F.isSome]
set_option maxRecDepth 100000 in
set_option maxHeartbeats 4000000 in
theorem refoff_any {w : World} {B g : Nat} {M : PM} {A1 A2 Ap : Option Addr} {n1 n2 c1 c2 np cp : Nat} {pgs : List (Nat × Nat)} (h : RMA w B g M A1 A2 Ap n1 n2 c1 c2 np cp pgs) (at_ n : Nat) (ha : at_ ≤ TOP) (hn : n ≤ 9223372036854775807) {F : Option Nat} (hF : OffIs (M.rams ++ M.devs) at_ n F) :
    Calls Tryz.prog 36 #[.pointer (some ⟨g, 0, none⟩), .int .u64 (at_ : Nat), .int .i64 (n : Nat)] w fun e w' => e = .returned (offV F) ∧ Below w.heap.size w w' := by
  have H1 := Lib.hid h.more1
  have H2 := Lib.hid h.more2
  have HF := Lib.hid hF
  have hn1 : n1 ≤ 8 := by have := h.ok.r8; have := h.rams.2.1; omega
  have hn2 : n2 ≤ 32 := by have := h.ok.d32; have := h.devs.2.1; omega
  have HG := Lib.hid h.ok.good
  have p0 := h.row.cell 0
  have p1 := h.row.cell 1
  have lp := h.row.lt
  simp only [List.getElem?_cons_zero, List.getElem?_cons_succ] at p0 p1
  have hat64 : at_ ≤ 18446744073709551615 := ha
  clear h hF ha
  go_enter Tryz.func36, Tryz.ntmps36
  go_wp2_with fail
  refine (refall_any A1 A2 n1 n2 c1 c2 M.rams M.devs w H1.out H2.out (by omega) (by omega)).mono ?_
  rintro e w2 ⟨AL, cl, rfl, h3, h4⟩
  obtain ⟨N, hN⟩ : ∃ N, N = n1 + n2 := ⟨_, rfl⟩
  rw [← hN] at h3 ⊢
  have hN40 : N ≤ 40 := by omega
  obtain ⟨l, hl⟩ : ∃ l, l = M.rams ++ M.devs := ⟨_, rfl⟩
  rw [← hl] at h3 HF HG
  have HL := Lib.hid h3
  have HB2 := Lib.hid h4
  clear h3 h4 hN hl H1 H2 p0 p1 lp
  go_wp2_with fail
  go_loopw [1, 2] (fun a z wr => ∃ d : Nat, d ≤ n ∧ a = .int .u64 ((at_ + d : Nat) : Int) ∧ z = .int .i64 ((n - d : Nat) : Int) ∧ Hid (d = 0 ∨ at_ + d ≤ 4294967296) ∧ Hid (∀ p, at_ ≤ p → p < at_ + d → on l p = true) ∧ Hid (Below w2.heap.size w2 wr)) (fun _ z _ => (intOf z).toNat)
  case atStart => exact ⟨0, by omega, rfl, rfl, Lib.hid (.inl rfl), Lib.hid (fun p h1 h2 => by omega), Lib.hid (Below.refl _ _)⟩
  case round =>
  obtain ⟨d, hd, rfl, rfl, HD, HON, HB⟩ := hrel
  obtain ⟨a, hae⟩ : ∃ a, a = at_ + d := ⟨_, rfl⟩
  obtain ⟨z, hze⟩ : ∃ z, z = n - d := ⟨_, rfl⟩
  rw [← hae, ← hze]
  have ha64 : a ≤ 18446744073709551615 := by rcases HD.out with h | h <;> omega
  have hz63 : z ≤ 9223372036854775807 := by omega
  have HAE := Lib.hid hae
  have HZE := Lib.hid hze
  clear hae hze
  have HBW : Hid (Below w.heap.size w wr) := Lib.hid (HB2.out.trans (HB.out.mono HB2.out.size))
  by_cases hz0 : 0 < z
  · go_wp2_with fail
    go_loopw [9, 10] (fun st i wr => ∃ (j s : Nat), j ≤ N ∧ i = .int .i64 (j : Nat) ∧ st = .int .u64 (s : Nat) ∧ Hid (s = 0 → ∀ (x : Nat) (r : Nat × Nat), x < j → l[x]? = some r → inR a r = false) ∧ Hid (s ≠ 0 → ∃ r ∈ l, r.1 ≤ a ∧ a < r.1 + r.2 ∧ s = r.1 + r.2 - a) ∧ Hid (Below w2.heap.size w2 wr)) (fun _ i _ => N - (intOf i).toNat)
    case atStart => exact ⟨0, 0, by omega, rfl, rfl, Lib.hid (fun _ x r h => absurd h (by omega)), Lib.hid (fun h => absurd rfl h), HB⟩
    case round =>
    clear HB HBW
    obtain ⟨j, s, hj, rfl, rfl, HS0, HS1, HB⟩ := hrel
    have HBW : Hid (Below w.heap.size w wr) := Lib.hid (HB2.out.trans (HB.out.mono HB2.out.size))
    by_cases hjN : j < N
    · obtain ⟨bl, ol, hf⟩ := HL.out.form
      obtain ⟨rfl, hbB, _⟩ := hf.out (by omega)
      clear hf
      obtain ⟨⟨b, t⟩, hx⟩ : ∃ x, l[j]? = some x := ⟨_, List.getElem?_eq_getElem (by rw [HL.out.2.1]; exact hjN)⟩
      obtain ⟨x0, x1⟩ := IsS.at_ (IsS.below HL.out HB.out) j _ hx
      have hgd := HG.out _ (List.mem_of_getElem? hx)
      have hbt : b + t ≤ 4294967296 := hgd.2
      have lbl : bl < wr.heap.size := Nat.lt_of_lt_of_le hbB HB.out.size
      have HX := Lib.hid hx
      simp only at x0 x1
      clear hx hgd
      by_cases q : b ≤ a ∧ a < b + t
      · have f1 : (b : Int) ≤ (a : Int) := by omega
        have f2 : (a : Int) - (b : Int) < (t : Int) := by omega
        have f3 : (0 : Int) ≤ (a : Int) - (b : Int) := by omega
        obtain ⟨s', hs'⟩ : ∃ s', s' = b + t - a := ⟨_, rfl⟩
        have e1 : (t : Int) - ((a : Int) - (b : Int)) = (s' : Int) := by omega
        have hs0 : s' ≤ 4294967296 := by omega
        have HS0' : Hid (s' = 0 → ∀ (x : Nat) (r : Nat × Nat), x < j + 1 → l[x]? = some r → inR a r = false) := Lib.hid (fun h => absurd h (by omega))
        have HS1' : Hid (s' ≠ 0 → ∃ r ∈ l, r.1 ≤ a ∧ a < r.1 + r.2 ∧ s' = r.1 + r.2 - a) := Lib.hid (fun _ => ⟨(b, t), List.mem_of_getElem? HX.out, q.1, q.2, hs'⟩)
        clear q hs'
        go_wp2_with fail
        go_quiet (fail)
        go_wp2_with fail
        go_quiet (fail)
        go_wp2_with fail
        go_roundw
        case rel => exact ⟨j + 1, s', by omega, by go_num, rfl, HS0', HS1', Lib.hid (below_drewN HB.out _)⟩
        case measure => simp [intOf]; omega
      · have HS0' : Hid (s = 0 → ∀ (x : Nat) (r : Nat × Nat), x < j + 1 → l[x]? = some r → inR a r = false) := Lib.hid (fun h0 x r hx hr => by
          rcases Nat.lt_or_ge x j with h1 | h1
          · exact HS0.out h0 x r h1 hr
          · obtain rfl : x = j := by omega
            have e : some r = some (b, t) := hr.symm.trans HX.out
            injection e with e
            subst e
            exact decide_eq_false q)
        by_cases q1 : b ≤ a
        · have f1 : (b : Int) ≤ (a : Int) := by omega
          have f2 : ¬ (a : Int) - (b : Int) < (t : Int) := by omega
          have f3 : (0 : Int) ≤ (a : Int) - (b : Int) := by omega
          clear q
          go_wp2_with fail
          go_quiet (fail)
          go_wp2_with fail
          go_roundw
          case rel => exact ⟨j + 1, s, by omega, by go_num, rfl, HS0', HS1, Lib.hid (below_drewN HB.out _)⟩
          case measure => simp [intOf]; omega
        · have f1 : ¬ (b : Int) ≤ (a : Int) := by omega
          clear q
          go_wp2_with fail
          go_quiet (fail)
          go_wp2_with fail
          go_roundw
          case rel => exact ⟨j + 1, s, by omega, by go_num, rfl, HS0', HS1, Lib.hid (below_drewN HB.out _)⟩
          case measure => simp [intOf]; omega
    · have e : j = N := by omega
      subst e
      by_cases hs : s = 0
      · have HE : Hid (F = some a) := Lib.hid (HF.out.uniq (show OffIs l at_ n (some a) from ⟨by have := HAE.out; omega, by have := HAE.out; have := HZE.out; omega, on_false (fun x r hr => HS0.out hs x r (by have := (List.getElem?_eq_some_iff.1 hr).1; have := HL.out.2.1; omega) hr), ha64, fun p h1 h2 => HON.out p h1 (by have := HAE.out; omega)⟩))
        subst hs
        go_wp2_with fail
        refine bodyPost_ret (v := .tuple #[.int .u64 (a : Nat), .bool true]) (by simp [results, Tryz.results36, go_sem]) rfl ⟨by rw [HE.out]; rfl, HBW.out⟩
      · obtain ⟨r, hr, hr1, hr2, hr3⟩ := HS1.out hs
        have hgd := (HG.out r hr).2
        unfold M32 at hgd
        have hb0 : ((s : Int) == 0) = false := by simp; omega
        have hs32 : s ≤ 4294967296 := by omega
        have HNX : Hid (∀ p, a ≤ p → p < a + s → on l p = true) := Lib.hid (fun p h1 h2 => on_in hr (by omega) (by omega))
        have HAS : Hid (a + s ≤ 4294967296) := Lib.hid (by omega)
        by_cases hzs : z ≤ s
        · have f : (z : Int) ≤ (s : Int) := by omega
          have HE : Hid (F = none) := Lib.hid (HF.out.uniq (show OffIs l at_ n none from fun p h1 h2 => by
            rcases Nat.lt_or_ge p a with h3 | h3
            · exact HON.out p h1 (by have := HAE.out; omega)
            · exact HNX.out p h3 (by have := HAE.out; have := HZE.out; omega)))
          clear hr hr1 hr2 hr3 hgd
          go_wp2_with fail
          refine bodyPost_ret (v := .tuple #[.int .u64 0, .bool false]) (by simp [results, Tryz.results36, go_sem]) rfl ⟨by rw [HE.out]; rfl, HBW.out⟩
        · have f : ¬ (z : Int) ≤ (s : Int) := by omega
          have HDN : Hid (d + s ≤ n) := Lib.hid (by have := HZE.out; omega)
          have HEA : Hid ((a : Int) + (s : Int) = ((at_ + (d + s) : Nat) : Int)) := Lib.hid (by have := HAE.out; omega)
          have HEZ : Hid ((z : Int) - (s : Int) = ((n - (d + s) : Nat) : Int)) := Lib.hid (by have := HZE.out; have := HDN.out; omega)
          have hes : (a : Int) + (s : Int) ≤ 4294967296 := by have := HAS.out; omega
          clear hr hr1 hr2 hr3 hgd
          go_wp2_with fail
          go_roundw
          case rel => exact ⟨d + s, HDN.out, by rw [← HEA.out], by rw [← HEZ.out], Lib.hid (.inr (by have := HAE.out; have := HAS.out; omega)), Lib.hid (fun p h1 h2 => by
            rcases Nat.lt_or_ge p a with h3 | h3
            · exact HON.out p h1 (by have := HAE.out; omega)
            · exact HNX.out p h3 (by have := HAE.out; omega)), HB⟩
          case measure => simp [intOf]; omega
  · have hz : z = 0 := by omega
    subst hz
    have HE : Hid (F = none) := Lib.hid (HF.out.uniq (show OffIs l at_ n none from fun p h1 h2 => HON.out p h1 (by have := HZE.out; omega)))
    go_wp2_with fail
    refine bodyPost_ret (v := .tuple #[.int .u64 0, .bool false]) (by simp [results, Tryz.results36, go_sem]) rfl ⟨by rw [HE.out]; rfl, HBW.out⟩
end Bu
end Go.Proofs.YtfpofaniicegaaaGreat

/- The document's machine: access, Where, right. -/
set_option linter.unusedVariables false
set_option linter.unusedSimpArgs false
namespace Go.Proofs.YtfpofaniicegaaaGreat
open Go.RowKit
open S64
namespace Bu
theorem RMA.drew {w : World} {B g : Nat} {M : PM} {A1 A2 Ap : Option Addr} {n1 n2 c1 c2 np cp : Nat} {pgs : List (Nat × Nat)} (h : RMA w B g M A1 A2 Ap n1 n2 c1 c2 np cp pgs) : RMA w.drew B g M A1 A2 Ap n1 n2 c1 c2 np cp pgs := h.below (Below.refl _ _).drew
theorem RMA.count {w : World} {B g : Nat} {M : PM} {A1 A2 Ap : Option Addr} {n1 n2 c1 c2 np cp : Nat} {pgs : List (Nat × Nat)} (h : RMA w B g M A1 A2 Ap n1 n2 c1 c2 np cp pgs) (i : Nat) (v : Value) (M' : PM) (e1 : M'.rams = M.rams) (e2 : M'.devs = M.devs) (e3 : M'.mem = M.mem)
    (hv : [.slice A1 n1 c1, .slice A2 n2 c2, .slice Ap np cp, .int .i64 M.loads, .int .i64 M.stores, .int .i64 M.strays].set i v = [.slice A1 n1 c1, .slice A2 n2 c2, .slice Ap np cp, .int .i64 M'.loads, .int .i64 M'.stores, .int .i64 M'.strays]) :
    RMA (w.setCell ⟨g, i, none⟩ v) B g M' A1 A2 Ap n1 n2 c1 c2 np cp pgs := by
  have hrow := h.row.set_ i v
  rw [hv] at hrow
  exact ⟨hrow, h.gB, by rw [e1]; exact ⟨h.rams.1.setCell (p := ⟨g, i, none⟩) h.gB v, h.rams.2⟩, by rw [e2]; exact ⟨h.devs.1.setCell (p := ⟨g, i, none⟩) h.gB v, h.devs.2⟩, by rw [e1, e2]; exact h.ok, own_setr h.own h.row (by decide) i v, h.plen, fun x hx => ⟨(h.bytes x hx).1, by rw [e3]; exact (h.bytes x hx).2.far (p := ⟨g, i, none⟩) (Row.ne_t (h.bytes x hx).2 h.row (by decide)) v⟩, h.nums, h.blks, by rw [e3]; exact h.out, by rw [e3]; exact h.byte⟩
theorem RMA.far {w : World} {B g : Nat} {M : PM} {A1 A2 Ap : Option Addr} {n1 n2 c1 c2 np cp : Nat} {pgs : List (Nat × Nat)} (h : RMA w B g M A1 A2 Ap n1 n2 c1 c2 np cp pgs) {f : Nat} {cs : List Value} (hr : Row w f 33 cs) (hB : B ≤ f) (i : Nat) (v : Value) :
    RMA (w.setCell ⟨f, i, none⟩ v) B g M A1 A2 Ap n1 n2 c1 c2 np cp pgs :=
  ⟨h.row.far (p := ⟨f, i, none⟩) (Row.ne_t h.row hr (by decide)) v, h.gB, ⟨h.rams.1.setCell (p := ⟨f, i, none⟩) hB v, h.rams.2⟩, ⟨h.devs.1.setCell (p := ⟨f, i, none⟩) hB v, h.devs.2⟩, h.ok, own_setr h.own hr (by decide) i v, h.plen, fun x hx => ⟨(h.bytes x hx).1, (h.bytes x hx).2.far (p := ⟨f, i, none⟩) (Row.ne_t (h.bytes x hx).2 hr (by decide)) v⟩, h.nums, h.blks, h.out, h.byte⟩
set_option maxRecDepth 100000 in
set_option maxHeartbeats 2000000 in
theorem refaccess_any {w : World} {B g : Nat} {M : PM} {A1 A2 Ap : Option Addr} {n1 n2 c1 c2 np cp : Nat} {pgs : List (Nat × Nat)} (h : RMA w B g M A1 A2 Ap n1 n2 c1 c2 np cp pgs) (at_ n : Nat) (ha : at_ ≤ TOP) (hn : n ≤ 9223372036854775807) (hs : True) {F : Option Nat} (hF : OffIs (M.rams ++ M.devs) at_ n F) :
    Calls Tryz.prog 19 #[.pointer (some ⟨g, 0, none⟩), .int .u64 (at_ : Nat), .int .i64 (n : Nat)] w fun e w' => e = .returned (faultV F) ∧ RMA w' B g (stray M F) A1 A2 Ap n1 n2 c1 c2 np cp pgs ∧ ChgP (fun k => k = g) w w' := by
  have H := Lib.hid h
  have HA := Lib.hid ha; have HN := Lib.hid hn; have HF := Lib.hid hF; have HS := Lib.hid hs
  have hgB : B ≤ w.heap.size := Nat.le_of_lt (Nat.lt_of_le_of_lt h.gB h.row.lt)
  have HGB := Lib.hid hgB
  clear h ha hn hF hs hgB
  go_enter Tryz.func19, Tryz.ntmps19
  go_upto_region 1 with fail
  have r0 : Row (w.alloc (.cells #[.int .i64 0, .int .u64 0] 33)) w.heap.size 33 [.int .i64 0, .int .u64 0] := Row.new w _ [.int .i64 0, .int .u64 0]
  have hb0 : Below w.heap.size w (w.alloc (.cells #[.int .i64 0, .int .u64 0] 33)) := (Below.refl _ _).alloc (Nat.le_refl _) _
  obtain ⟨c, hc⟩ : ∃ c, c = w.heap.size := ⟨_, rfl⟩
  generalize w.alloc (.cells #[.int .i64 0, .int .u64 0] 33) = w1 at *
  rw [← hc] at r0 ⊢
  have HC := Lib.hid hc
  have HR0 := Lib.hid r0
  have HB0 := Lib.hid hb0
  have HM1 := Lib.hid (H.out.below hb0)
  clear hc r0 hb0
  go_wp2_with fail
  refine (refoff_any HM1.out at_ n HA.out HN.out HF.out).mono ?_
  rintro e w2 ⟨rfl, h2⟩
  have HM2 := Lib.hid (HM1.out.below h2)
  have HR2 := Lib.hid (HR0.out.below h2 HR0.out.lt)
  have HB2 := Lib.hid (HB0.out.trans (h2.mono HB0.out.size))
  clear h2 HM1 HR0 HB0
  cases F with
  | none =>
    have z0 := HR2.out.cell 0
    have z1 := HR2.out.cell 1
    have zf0 := HR2.out.frozen 0
    have zf1 := HR2.out.frozen 1
    have lz := HR2.out.lt
    simp only [List.getElem?_cons_zero, List.getElem?_cons_succ] at z0 z1
    unfold offV
    simp only [Option.getD_none, Option.isSome_none]
    have hr5 := (HR2.out.set_ 0 (.int .i64 0)).set_ 1 (.int .u64 0)
    have y0 := hr5.cell 0
    have y1 := hr5.cell 1
    simp only [List.set_cons_zero, List.set_cons_succ, List.getElem?_cons_zero, List.getElem?_cons_succ] at y0 y1
    have HY0 := Lib.hid y0; have HY1 := Lib.hid y1
    have HM5 : Hid (RMA ((w2.setCell ⟨c, 0, none⟩ (.int .i64 0)).setCell ⟨c, 1, none⟩ (.int .u64 0)) B g M A1 A2 Ap n1 n2 c1 c2 np cp pgs) := Lib.hid ((HM2.out.far HR2.out (by rw [HC.out]; exact HGB.out) 0 _).far (HR2.out.set_ 0 _) (by rw [HC.out]; exact HGB.out) 1 _)
    have HC5 : Hid (ChgP (fun k => k = g) w ((w2.setCell ⟨c, 0, none⟩ (.int .i64 0)).setCell ⟨c, 1, none⟩ (.int .u64 0))) := Lib.hid (((ChgP.of_below HB2.out).set_ (p := ⟨c, 0, none⟩) (.inr (Nat.le_of_eq HC.out.symm)) _).set_ (p := ⟨c, 1, none⟩) (.inr (Nat.le_of_eq HC.out.symm)) _)
    clear hr5 y0 y1
    go_wp2_with fail
    refine bodyPost_ret (v := .agg #[.int .i64 0, .int .u64 0]) (by simp [results, Tryz.results19, go_sem, HY0.out, HY1.out]) rfl ⟨rfl, HM5.out, HC5.out⟩
  | some q =>
    obtain ⟨yy, hyy⟩ : ∃ yy, yy = cInc M.strays := ⟨_, rfl⟩
    have hw1 : IntKind.i64.wrap (M.strays + 1) = yy := by rw [hyy]; rfl
    have hw2 : wrap64 (M.strays + 1) = yy := by rw [hyy]; unfold cInc wrap64; exact (IntKind.wrap_i64 _).symm
    have HYY := Lib.hid hyy
    clear hyy
    unfold offV
    simp only [Option.getD_some, Option.isSome_some]
    have p5 := HM2.out.row.cell 5
    have pf := HM2.out.row.frozen 5
    have lg := HM2.out.row.lt
    simp only [List.getElem?_cons_zero, List.getElem?_cons_succ] at p5
    go_upto_region 4 with fail
    have hm3 : RMA (w2.setCell ⟨g, 5, none⟩ (.int .i64 yy)) B g { M with strays := cInc M.strays } A1 A2 Ap n1 n2 c1 c2 np cp pgs := HM2.out.count 5 _ _ rfl rfl rfl (by rw [HYY.out]; simp)
    have hr3 : Row (w2.setCell ⟨g, 5, none⟩ (.int .i64 yy)) c 33 [.int .i64 0, .int .u64 0] := HR2.out.far (p := ⟨g, 5, none⟩) (Row.ne_t HR2.out HM2.out.row (by decide)) _
    have hc3 : ChgP (fun k => k = g) w (w2.setCell ⟨g, 5, none⟩ (.int .i64 yy)) := (ChgP.of_below (Z := fun k => k = g) HB2.out).set_ (p := ⟨g, 5, none⟩) (.inl rfl) _
    clear p5 pf lg hw1 hw2
    generalize w2.setCell ⟨g, 5, none⟩ (.int .i64 yy) = w3 at *
    have HM3 := Lib.hid hm3; have HR3 := Lib.hid hr3; have HC3 := Lib.hid hc3
    have z0 := hr3.cell 0
    have z1 := hr3.cell 1
    have zf0 := hr3.frozen 0
    have zf1 := hr3.frozen 1
    have lz := hr3.lt
    simp only [List.getElem?_cons_zero, List.getElem?_cons_succ] at z0 z1
    have hr5 := (hr3.set_ 0 (.int .i64 30)).set_ 1 (.int .u64 (q : Nat))
    have y0 := hr5.cell 0
    have y1 := hr5.cell 1
    simp only [List.set_cons_zero, List.set_cons_succ, List.getElem?_cons_zero, List.getElem?_cons_succ] at y0 y1
    have HY0 := Lib.hid y0; have HY1 := Lib.hid y1
    have HM5 : Hid (RMA ((w3.setCell ⟨c, 0, none⟩ (.int .i64 30)).setCell ⟨c, 1, none⟩ (.int .u64 (q : Nat))) B g { M with strays := cInc M.strays } A1 A2 Ap n1 n2 c1 c2 np cp pgs) := Lib.hid ((HM3.out.far HR3.out (by rw [HC.out]; exact HGB.out) 0 _).far (HR3.out.set_ 0 _) (by rw [HC.out]; exact HGB.out) 1 _)
    have HC5 : Hid (ChgP (fun k => k = g) w ((w3.setCell ⟨c, 0, none⟩ (.int .i64 30)).setCell ⟨c, 1, none⟩ (.int .u64 (q : Nat)))) := Lib.hid ((HC3.out.set_ (p := ⟨c, 0, none⟩) (.inr (Nat.le_of_eq HC.out.symm)) _).set_ (p := ⟨c, 1, none⟩) (.inr (Nat.le_of_eq HC.out.symm)) _)
    clear hr5 hm3 hr3 hc3 y0 y1
    go_wp2_with fail
    refine bodyPost_ret (v := .agg #[.int .i64 30, .int .u64 (q : Nat)]) (by simp [results, Tryz.results19, go_sem, HY0.out, HY1.out]) rfl ⟨rfl, HM5.out, HC5.out⟩
theorem refright_any (z : Int) (w : World) : Calls Tryz.prog 18 #[.int .i64 z] w fun e w' => e = .returned (.bool (wideB z)) ∧ w = w' := by
  have H1 := Lib.hid (show wideB z = (z == 1 || z == 2 || z == 4 || z == 8) from rfl)
  obtain ⟨b, hb⟩ : ∃ b, b = wideB z := ⟨_, rfl⟩
  rw [← hb] at H1 ⊢
  clear hb
  cases h1 : (z == 1) with
  | true =>
    go_enter Tryz.func18, Tryz.ntmps18
    go_wp2_with fail
    go_ret
    exact ⟨by rw [H1.out, h1]; rfl, rfl⟩
  | false =>
  cases h2 : (z == 2) with
  | true =>
    go_enter Tryz.func18, Tryz.ntmps18
    go_wp2_with fail
    go_ret
    exact ⟨by rw [H1.out, h1, h2]; rfl, rfl⟩
  | false =>
  cases h3 : (z == 4) with
  | true =>
    go_enter Tryz.func18, Tryz.ntmps18
    go_wp2_with fail
    go_ret
    exact ⟨by rw [H1.out, h1, h2, h3]; rfl, rfl⟩
  | false =>
  cases h4 : (z == 8) with
  | true =>
    go_enter Tryz.func18, Tryz.ntmps18
    go_wp2_with fail
    go_ret
    exact ⟨by rw [H1.out, h1, h2, h3, h4]; rfl, rfl⟩
  | false =>
    go_enter Tryz.func18, Tryz.ntmps18
    go_wp2_with fail
    go_ret
    exact ⟨by rw [H1.out, h1, h2, h3, h4]; rfl, rfl⟩
theorem where_found {M : PM} {at_ i : Nat} {r : Nat × Nat} (hi : (M.rams ++ M.devs)[i]? = some r) (hr : inR at_ r = true) (hb : ∀ (j : Nat) (x : Nat × Nat), j < i → (M.rams ++ M.devs)[j]? = some x → inR at_ x = false) :
    spotF M at_ 3 = if i < M.rams.length then some (1, i, at_ - r.1) else some (2, i - M.rams.length, at_ - r.1) := by
  have h0 : spotF M at_ 3 = spotF M at_ (3 - 1) := spotF_next (k := 0) (by omega) (fun j x h => by simp [lst3] at h)
  rw [h0]
  split
  · rename_i hl
    rw [List.getElem?_append_left hl] at hi
    exact spotF_found (k := 1) (by omega) hi hr (fun j x hj hx => hb j x hj (by rw [List.getElem?_append_left (by omega)]; exact hx))
  · rename_i hl
    have h1 : spotF M at_ (3 - 1) = spotF M at_ (3 - 2) := spotF_next (k := 1) (by omega) (fun j x h => by
      have hj : j < M.rams.length := (List.getElem?_eq_some_iff.1 h).1
      exact hb j x (by omega) (by rw [List.getElem?_append_left hj]; exact h))
    rw [h1]
    rw [List.getElem?_append_right (by omega)] at hi
    exact spotF_found (k := 2) (by omega) hi hr (fun j x hj hx => hb (M.rams.length + j) x (by omega) (by rw [List.getElem?_append_right (by omega), show M.rams.length + j - M.rams.length = j by omega]; exact hx))
theorem where_none {M : PM} {at_ : Nat} (hb : ∀ (j : Nat) (x : Nat × Nat), (M.rams ++ M.devs)[j]? = some x → inR at_ x = false) : spotF M at_ 3 = none := by
  have h0 : spotF M at_ 3 = spotF M at_ (3 - 1) := spotF_next (k := 0) (by omega) (fun j x h => by simp [lst3] at h)
  have h1 : spotF M at_ (3 - 1) = spotF M at_ (3 - 2) := spotF_next (k := 1) (by omega) (fun j x h => by
    have hj : j < M.rams.length := (List.getElem?_eq_some_iff.1 h).1
    exact hb j x (by rw [List.getElem?_append_left hj]; exact h))
  have h2 : spotF M at_ (3 - 2) = spotF M at_ (3 - 3) := spotF_next (k := 2) (by omega) (fun j x h => by
    exact hb (M.rams.length + j) x (by rw [List.getElem?_append_right (by omega), show M.rams.length + j - M.rams.length = j by omega]; exact h))
  rw [h0, h1, h2]; rfl
end Bu
end Go.Proofs.YtfpofaniicegaaaGreat

/- The document's machine: find, bytes. -/
set_option linter.unusedVariables false
set_option linter.unusedSimpArgs false
namespace Go.Proofs.YtfpofaniicegaaaGreat
open Go.RowKit
open S64
namespace Bu
theorem pcell_len (s : List (Nat × Nat)) : ∀ b ∈ s.map pcell, b.length = 2 := by
  intro b h
  obtain ⟨x, _, rfl⟩ := List.mem_map.1 h
  rfl
/-- the pages' cells -/
theorem RMA.page {w : World} {B g : Nat} {M : PM} {A1 A2 Ap : Option Addr} {n1 n2 c1 c2 np cp : Nat} {pgs : List (Nat × Nat)} (h : RMA w B g M A1 A2 Ap n1 n2 c1 c2 np cp pgs) : ∃ b o, Hid (0 < np → Ap = some ⟨b, o, none⟩ ∧ b < w.heap.size ∧ ∀ (i : Nat) (x : Nat × Nat), pgs[i]? = some x → w.cell? ⟨b, o + i * 2, none⟩ = some (.int .u64 (x.1 : Nat)) ∧ w.cell? ⟨b, o + i * 2 + 1, none⟩ = some (.slice (some ⟨x.2, 0, none⟩) 4096 4096)) := by
  obtain ⟨b, o, hf⟩ := el_form (Reads.of_own h.own) (pcell_len pgs) (by rw [List.length_map]; exact h.plen) (by decide)
  refine ⟨b, o, fun h0 => ?_⟩
  obtain ⟨h1, h2, h3⟩ := hf.out h0
  refine ⟨h1, h2, fun i x hx => ?_⟩
  have hr := h3 i (pcell x) (by rw [List.getElem?_map, hx]; rfl)
  exact ⟨hr 0 _ rfl, hr 1 _ rfl⟩
theorem RMA.pcap {w : World} {B g : Nat} {M : PM} {A1 A2 Ap : Option Addr} {n1 n2 c1 c2 np cp : Nat} {pgs : List (Nat × Nat)} (h : RMA w B g M A1 A2 Ap n1 n2 c1 c2 np cp pgs) : np ≤ 9223372036854775807 := by have := own_cap h.own; omega
/-- what find tells: where the page's number stands, or that it stands nowhere -/
def FindSaid (pgs : List (Nat × Nat)) (num : Nat) (w : World) (e : Ending) (w' : World) : Prop :=
  ((∃ (i : Nat) (x : Nat × Nat), pgs[i]? = some x ∧ x.1 = num ∧ e = .returned (.int .i64 (i : Nat))) ∨ ((∀ x ∈ pgs, x.1 ≠ num) ∧ e = .returned (.int .i64 (-1)))) ∧ w = w'
set_option maxRecDepth 100000 in
set_option maxHeartbeats 2000000 in
theorem find_any {w : World} {B g : Nat} {M : PM} {A1 A2 Ap : Option Addr} {n1 n2 c1 c2 np cp : Nat} {pgs : List (Nat × Nat)} (h : RMA w B g M A1 A2 Ap n1 n2 c1 c2 np cp pgs) (num : Nat) (hnum : num ≤ TOP) :
    Calls Tryz.prog 37 #[.pointer (some ⟨g, 0, none⟩), .int .u64 (num : Nat)] w (FindSaid pgs num w) := by
  have p2 := h.row.cell 2
  have lp := h.row.lt
  have hn63 := h.pcap
  have HPL := Lib.hid h.plen
  obtain ⟨bp, op, HF⟩ := h.page
  have hnum64 : num ≤ 18446744073709551615 := hnum
  simp only [List.getElem?_cons_zero, List.getElem?_cons_succ] at p2
  clear h hnum
  go_enter Tryz.func37, Tryz.ntmps37
  go_wp2_with fail
  go_loopw [5] (fun i wr => ∃ j : Nat, j ≤ np ∧ i = .int .i64 (j : Nat) ∧ Hid (∀ (x : Nat) (r : Nat × Nat), x < j → pgs[x]? = some r → r.1 ≠ num) ∧ w = wr) (fun i _ => np - (intOf i).toNat)
  case atStart => exact ⟨0, by omega, rfl, Lib.hid (fun x r h => absurd h (by omega)), rfl⟩
  case round =>
  obtain ⟨j, hj, rfl, HNO, rfl⟩ := hrel
  by_cases hjn : j < np
  · obtain ⟨rfl, hb, hc⟩ := HF.out (by omega)
    obtain ⟨⟨m, k⟩, hx⟩ : ∃ x, pgs[j]? = some x := ⟨_, List.getElem?_eq_getElem (by rw [HPL.out]; exact hjn)⟩
    have x0 := (hc j _ hx).1
    have HX := Lib.hid hx
    simp only at x0
    clear hc HF hx
    by_cases q : m = num
    · have f : ((m : Int) == (num : Int)) = true := by rw [q]; simp
      have HQ := Lib.hid q
      clear q
      go_wp2_with fail
      go_ret
      exact ⟨.inl ⟨j, (m, k), HX.out, HQ.out, rfl⟩, rfl⟩
    · have f : ((m : Int) == (num : Int)) = false := by simp; omega
      have HNO' : Hid (∀ (x : Nat) (r : Nat × Nat), x < j + 1 → pgs[x]? = some r → r.1 ≠ num) := Lib.hid (fun x r hx hr => by
        rcases Nat.lt_or_ge x j with h1 | h1
        · exact HNO.out x r h1 hr
        · obtain rfl : x = j := by omega
          have e : some r = some (m, k) := hr.symm.trans HX.out
          injection e with e
          subst e
          exact q)
      clear q
      go_wp2_with fail
      go_roundw
      case rel => exact ⟨j + 1, by omega, by go_num, HNO', by first | rfl | trivial⟩
      case measure => simp [intOf]; omega
  · have e : j = np := by omega
    subst e
    go_wp2_with fail
    go_ret
    refine ⟨.inr ⟨fun x hx => ?_, by first | rfl | trivial⟩, by first | rfl | trivial⟩
    obtain ⟨i, hi⟩ := List.getElem?_of_mem hx
    exact HNO.out i x (by have := (List.getElem?_eq_some_iff.1 hi).1; have := HPL.out; omega) hi
theorem outB_set (mem : Nat → Nat) (a n d : Nat) (hd : d < n) : (outB mem a n d).set d (u8 (mem (a + d))) = outB mem a n (d + 1) := by
  apply List.ext_getElem?
  intro i
  rw [List.getElem?_set]
  by_cases hi : i < n
  · rw [outB_get _ _ _ _ _ hi, outB_get _ _ _ _ _ hi, outB_len]
    by_cases h : d = i
    · subst h; rw [if_pos rfl, if_pos hd, if_pos (by omega)]
    · rw [if_neg h]
      by_cases h2 : i < d
      · rw [if_pos h2, if_pos (by omega)]
      · rw [if_neg h2, if_neg (by omega)]
  · rw [if_neg (by omega), List.getElem?_eq_none (by rw [outB_len]; omega), List.getElem?_eq_none (by rw [outB_len]; omega)]
/-- while the document's bytes are taken -/
structure YI (w : World) (mem : Nat → Nat) (at_ n bb d : Nat) (wr : World) : Prop where
  rb : Row wr bb 5 (outB mem at_ n d)
  bel : Below w.heap.size w wr
theorem YI.set {w : World} {mem : Nat → Nat} {at_ n bb d : Nat} {wr : World} (h : YI w mem at_ n bb d wr) (hbb : w.heap.size ≤ bb) (hd : d < n) (v : Nat) (hv : v = mem (at_ + d)) : YI w mem at_ n bb (d + 1) (wr.setCell ⟨bb, d, none⟩ (.int .u8 (v : Nat))) :=
  ⟨by rw [← outB_set _ _ _ _ hd, ← hv]; exact h.rb.set_ d _, h.bel.setCell (p := ⟨bb, d, none⟩) hbb _⟩
set_option maxRecDepth 100000 in
set_option maxHeartbeats 4000000 in
theorem refbytes_any {w : World} {B g : Nat} {M : PM} {A1 A2 Ap : Option Addr} {n1 n2 c1 c2 np cp : Nat} {pgs : List (Nat × Nat)} (h : RMA w B g M A1 A2 Ap n1 n2 c1 c2 np cp pgs) (at_ n : Nat) (ha : at_ ≤ TOP) (h32 : n = 0 ∨ at_ + n ≤ 4294967296) :
    Calls Tryz.prog 81 #[.pointer (some ⟨g, 0, none⟩), .int .u64 (at_ : Nat), .int .i64 (n : Nat)] w
      fun e w' => ∃ bb, e = .returned (.slice (some ⟨bb, 0, none⟩) n n) ∧ w.heap.size ≤ bb ∧ Row w' bb 5 (outB M.mem at_ n n) ∧ Below w.heap.size w w' := by
  have hn32 : n ≤ 4294967296 := by omega
  have hmk := run_make_row' (P := Tryz.prog) 45 5 (.int .u8 0) 1 Tryz.underlying45 info5 rfl .i64 .i64 n (by omega) (by omega)
  rw [madeCells_one, ← outB_zero M.mem at_ n] at hmk
  have HM := Lib.hid h
  have H32 := Lib.hid h32
  have hat64 : at_ ≤ 18446744073709551615 := ha
  obtain ⟨Z0, hZ0⟩ : ∃ Z0, Z0 = outB M.mem at_ n 0 := ⟨_, rfl⟩
  rw [← hZ0] at hmk
  have HZ0 := Lib.hid hZ0
  clear h ha h32 hZ0
  go_enter Tryz.func81, Tryz.ntmps81
  go_upto_region 2 with fail
  have hrb : Row (w.alloc (.cells Z0.toArray 5)) w.heap.size 5 Z0 := Row.new w 5 Z0
  have hb0 : Below w.heap.size w (w.alloc (.cells Z0.toArray 5)) := (Below.refl _ _).alloc (Nat.le_refl _) _
  obtain ⟨bb, hbb⟩ : ∃ bb, bb = w.heap.size := ⟨_, rfl⟩
  generalize w.alloc (.cells Z0.toArray 5) = w1 at *
  rw [← hbb] at hrb ⊢
  have HBB : Hid (w.heap.size ≤ bb) := Lib.hid (Nat.le_of_eq hbb.symm)
  have HI0 : Hid (YI w M.mem at_ n bb 0 w1) := Lib.hid ⟨by rw [← HZ0.out]; exact hrb, hb0⟩
  clear hrb hb0 hmk HZ0 hbb
  go_wp2_with fail
  go_loopw [8] (fun i wr => ∃ d : Nat, d ≤ n ∧ i = .int .i64 (d : Nat) ∧ Hid (YI w M.mem at_ n bb d wr)) (fun i _ => n - (intOf i).toNat)
  case atStart => exact ⟨0, by omega, rfl, HI0⟩
  case round =>
  clear HI0
  obtain ⟨d, hd, rfl, HI⟩ := hrel
  by_cases hdn : d < n
  · obtain ⟨a, hae⟩ : ∃ a, a = at_ + d := ⟨_, rfl⟩
    have ha32 : a < 4294967296 := by have := H32.out; omega
    have e1 : (at_ : Int) + (d : Int) = (a : Int) := by omega
    obtain ⟨f, hf⟩ : ∃ f, f = a % 4096 := ⟨_, rfl⟩
    obtain ⟨p, hp⟩ : ∃ p, p = a / 4096 := ⟨_, rfl⟩
    have e2 : (a : Int) % 4096 = (f : Int) := by omega
    have e3 : (a : Int) / 4096 = (p : Int) := by omega
    have hf4 : f < 4096 := by omega
    have hp32 : p ≤ 4294967296 := by omega
    obtain ⟨K, hK⟩ : ∃ K, K = eachK at_ n d := ⟨_, rfl⟩
    have hKe : K = min (4096 - f) (n - d) := by rw [hK, eachK, ← hae, ← hf]
    have HK := Lib.hid hK
    have hK1 : 0 < K := by omega
    have hK2 : d + K ≤ n := by omega
    have hK3 : f + K ≤ 4096 := by omega
    have HAE := Lib.hid hae
    have HFP : Hid (4096 * p + f = a) := Lib.hid (by omega)
    have HPE := Lib.hid hp
    have HMR := Lib.hid (HM.out.below (HI.out.bel.mono (Nat.le_refl _)))
    have HKE := Lib.hid hKe
    clear hae hf hp hK hKe
    go_upto_if 30 with fail
    go_cut [10] (fun x wx => x = .int .i64 (K : Nat) ∧ wr = wx)
    case first =>
      by_cases q : n - d < 4096 - f
      · have f1 : (n : Int) - (d : Int) < 4096 - (f : Int) := by omega
        have e4 : (K : Int) = (n : Int) - (d : Int) := by have := HKE.out; omega
        have HE4 := Lib.hid e4
        clear e4
        go_wp2_with fail
        go_meet
        case rel => exact ⟨by rw [HE4.out], rfl⟩
      · have f1 : ¬ (n : Int) - (d : Int) < 4096 - (f : Int) := by omega
        have e4 : (K : Int) = 4096 - (f : Int) := by have := HKE.out; omega
        have HE4 := Lib.hid e4
        clear e4
        go_wp2_with fail
        go_meet
        case rel => exact ⟨by rw [HE4.out], rfl⟩
    case rest =>
    obtain ⟨rfl, rfl⟩ := hcut
    go_wp2_with fail
    refine (find_any HMR.out p (by unfold TOP; omega)).mono ?_
    rintro e w' ⟨hs, rfl⟩
    rcases hs with ⟨i, ⟨m, k⟩, hi, hm, rfl⟩ | ⟨hno, rfl⟩
    · have hin : i < np := by have := (List.getElem?_eq_some_iff.1 hi).1; have := HM.out.plen; omega
      have hnp63 := HM.out.pcap
      have HIX := Lib.hid hi
      have HMP : Hid (m = p) := Lib.hid hm
      have hiN : (0 : Int) ≤ (i : Int) := by omega
      have HI0 : Hid (YI w M.mem at_ n bb (d + 0) wr) := HI
      clear hi hm
      go_wp2_with fail
      go_loopw [12] (fun x wx => ∃ t : Nat, t ≤ K ∧ x = .int .i64 (t : Nat) ∧ Hid (YI w M.mem at_ n bb (d + t) wx)) (fun x _ => K - (intOf x).toNat)
      case atStart => exact ⟨0, by omega, rfl, HI0⟩
      case round =>
      clear HI0 HI HMR
      obtain ⟨t, ht, rfl, HI⟩ := hrel
      by_cases htK : t < K
      · have HMX := Lib.hid (HM.out.below HI.out.bel)
        obtain ⟨bp, op, HF⟩ := HMX.out.page
        obtain ⟨rfl, hb, hc⟩ := HF.out (by omega)
        obtain ⟨c0, cx⟩ := hc i _ HIX.out
        have p2 := HMX.out.row.cell 2
        have lp := HMX.out.row.lt
        simp only [List.getElem?_cons_zero, List.getElem?_cons_succ] at p2 c0 cx
        obtain ⟨v, hv⟩ : ∃ v, v = M.mem (at_ + (d + t)) := ⟨_, rfl⟩
        obtain ⟨ft, hft⟩ : ∃ ft, ft = f + t := ⟨_, rfl⟩
        obtain ⟨dt, hdt⟩ : ∃ dt, dt = d + t := ⟨_, rfl⟩
        have hft4 : ft < 4096 := by omega
        have hdtn : dt < n := by omega
        have e5 : (f : Int) + (t : Int) = (ft : Int) := by omega
        have e6 : (d : Int) + (t : Int) = (dt : Int) := by omega
        have hrk := (HMX.out.bytes (m, k) (List.mem_of_getElem? HIX.out)).2
        have y0 := hrk.cell ft
        have ly := hrk.lt
        simp only at y0 ly
        rw [leafRow_get _ _ _ hft4, show 4096 * m + ft = at_ + (d + t) by have h1 := HFP.out; have h2 := HAE.out; have h3 := HMP.out; rw [h3]; omega, ← hv] at y0
        simp only [u8] at y0
        have HI' : Hid (YI w M.mem at_ n bb (d + (t + 1)) (wr.setCell ⟨bb, dt, none⟩ (.int .u8 (v : Nat)))) := Lib.hid (by
          rw [hdt, show d + (t + 1) = d + t + 1 by omega]
          exact HI.out.set HBB.out (by omega) v hv)
        have r0 := HI.out.rb.cell dt
        rw [outB_get _ _ _ _ _ hdtn] at r0
        simp only [u8] at r0
        have rf := HI.out.rb.frozen dt
        have lr := HI.out.rb.lt
        clear hc HF hrk hv hft hdt c0
        go_wp2_with fail
        go_roundw
        case rel => exact ⟨t + 1, by omega, by go_num, HI'⟩
        case measure => simp [intOf]; omega
      · have e : t = K := by omega
        subst e
        go_wp2_with fail
        go_roundw
        case rel => exact ⟨d + t, hK2, by go_num, HI⟩
        case measure => simp [intOf]; omega
    · have HSK : Hid (outB M.mem at_ n (d + K) = outB M.mem at_ n d) := Lib.hid (by
        rw [HK.out]
        refine outB_skip M.mem at_ n d (fun i hi => HM.out.out _ (fun x hx => ?_)) hdn
        have := hno x hx
        rw [← HAE.out, ← HPE.out]
        omega)
      have HI' : Hid (YI w M.mem at_ n bb (d + K) wr) := Lib.hid ⟨by rw [HSK.out]; exact HI.out.rb, HI.out.bel⟩
      clear hno
      go_wp2_with fail
      go_loopw [12] (fun x wx => x = .int .i64 0 ∧ wr = wx) (fun _ _ => 0)
      case atStart => exact ⟨rfl, rfl⟩
      case round =>
      obtain ⟨rfl, rfl⟩ := hrel
      go_wp2_with fail
      go_roundw
      case rel => exact ⟨d + K, hK2, by go_num, HI'⟩
      case measure => simp [intOf]; omega
  · have e : d = n := by omega
    subst e
    go_wp2_with fail
    go_ret
    exact ⟨bb, rfl, HBB.out, HI.out.rb, HI.out.bel⟩
end Bu
end Go.Proofs.YtfpofaniicegaaaGreat
