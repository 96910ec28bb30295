/- The document's machine: what lies where; Off, access. -/
import Derived.Test.YtmhkmemaneopeaaBuI
set_option linter.unusedVariables false
set_option linter.unusedSimpArgs false
namespace Go.Proofs.Ytmhkmemaneopeaa
open Go.RowKit
open S64
namespace Bu
theorem chks_zero : ∀ {most : Nat} {pre l : Sp.S}, chks most pre l = 0 → ∀ j r, l[j]? = some r → chk most (pre ++ l.take j) r = 0
  | most, pre, [], _ => fun j r h => by simp at h
  | most, pre, x :: l, h => by
    rw [chks] at h
    split at h
    · rename_i h1; exact absurd h h1
    · rename_i h1
      have h1 : chk most pre x = 0 := by rcases Nat.eq_zero_or_pos (chk most pre x) with h2 | h2; exact h2; omega
      intro j r hj
      cases j with
      | zero => simp at hj; subst hj; simpa using h1
      | succ j =>
        have h2 := chks_zero h j r (by simpa using hj)
        simpa using h2
/-- a bus that may be -/
structure Okay (rams devs : Sp.S) : Prop where
  r8 : rams.length ≤ 8
  d32 : devs.length ≤ 32
  good : ∀ r ∈ rams ++ devs, 0 < r.2 ∧ r.1 + r.2 ≤ M32
theorem okay_of {rams devs : Sp.S} (h : newE rams devs = 0) : Okay rams devs := by
  unfold newE at h
  split at h
  · cases h
  rename_i h0
  split at h
  · rename_i h1; exact absurd h h1
  rename_i h1
  split at h
  · rename_i h2; exact absurd h h2
  rename_i h2
  refine ⟨by omega, by omega, fun r hr => ?_⟩
  rcases List.mem_append.1 hr with hr | hr
  · obtain ⟨j, hj⟩ := List.getElem?_of_mem hr
    have := chk_zero (chks_zero (most := TOP) (pre := []) (l := rams) (by omega) j r hj)
    exact ⟨this.1, this.2.1⟩
  · obtain ⟨j, hj⟩ := List.getElem?_of_mem hr
    have := chk_zero (chks_zero (most := 1048576) (pre := rams) (l := devs) (by omega) j r hj)
    exact ⟨this.1, this.2.1⟩
/-- a page in the document's list -/
def pcell (x : Nat × Nat) : List Value := [.int .u64 (x.1 : Nat), .slice (some ⟨x.2, 0, none⟩) 4096 4096]
/-- THE DOCUMENT'S MACHINE LIES AT g: the lists of its bus below B, all that turns with it at B or above. pgs: the pages' numbers and blocks. -/
structure RMA (w : World) (B g : Nat) (M : PM) (A1 A2 Ap : Option Addr) (n1 n2 c1 c2 np cp : Nat) (pgs : List (Nat × Nat)) : Prop where
  row : Row w g 86 [.slice A1 n1 c1, .slice A2 n2 c2, .slice Ap np cp, .int .i64 (M.loads : Nat), .int .i64 (M.stores : Nat), .int .i64 (M.strays : Nat)]
  gB : B ≤ g
  rams : IsS w B A1 n1 M.rams
  devs : IsS w B A2 n2 M.devs
  ok : Okay M.rams M.devs
  own : w.ownsRow B 128 2 (.slice Ap np cp) np (pgs.map pcell).flatten
  plen : pgs.length = np
  bytes : ∀ x ∈ pgs, B ≤ x.2 ∧ Row w x.2 5 (leafRow M.mem x.1)
  nums : (pgs.map (·.1)).Nodup
  blks : (pgs.map (·.2)).Nodup
  out : ∀ p, (∀ x ∈ pgs, x.1 ≠ p / 4096) → M.mem p = 0
  byte : ∀ p, M.mem p < 256
theorem RMA.below {w w' : World} {B g : Nat} {M : PM} {A1 A2 Ap : Option Addr} {n1 n2 c1 c2 np cp : Nat} {pgs : List (Nat × Nat)} (h : RMA w B g M A1 A2 Ap n1 n2 c1 c2 np cp pgs) (hb : Below w.heap.size w w') : RMA w' B g M A1 A2 Ap n1 n2 c1 c2 np cp pgs :=
  ⟨h.row.below hb h.row.lt, h.gB, h.rams.below (hb.mono (Nat.le_of_lt (Nat.lt_of_le_of_lt h.gB h.row.lt))), h.devs.below (hb.mono (Nat.le_of_lt (Nat.lt_of_le_of_lt h.gB h.row.lt))), h.ok, owns_below2 h.own hb, h.plen, fun x hx => ⟨(h.bytes x hx).1, (h.bytes x hx).2.below hb (h.bytes x hx).2.lt⟩, h.nums, h.blks, h.out, h.byte⟩
theorem RMA.more1 {w : World} {B g : Nat} {M : PM} {A1 A2 Ap : Option Addr} {n1 n2 c1 c2 np cp : Nat} {pgs : List (Nat × Nat)} (h : RMA w B g M A1 A2 Ap n1 n2 c1 c2 np cp pgs) : IsS w w.heap.size A1 n1 M.rams := h.rams.more (Nat.le_of_lt (Nat.lt_of_le_of_lt h.gB h.row.lt))
theorem RMA.more2 {w : World} {B g : Nat} {M : PM} {A1 A2 Ap : Option Addr} {n1 n2 c1 c2 np cp : Nat} {pgs : List (Nat × Nat)} (h : RMA w B g M A1 A2 Ap n1 n2 c1 c2 np cp pgs) : IsS w w.heap.size A2 n2 M.devs := h.devs.more (Nat.le_of_lt (Nat.lt_of_le_of_lt h.gB h.row.lt))
theorem on_false {l : Sp.S} {p : Nat} (h : ∀ (j : Nat) (r : Nat × Nat), l[j]? = some r → inR p r = false) : on l p = false := by
  unfold on
  rw [List.any_eq_false]
  intro r hr
  obtain ⟨j, hj⟩ := List.getElem?_of_mem hr
  have := h j r hj
  unfold inR at this
  rw [this]; decide
theorem on_in {l : Sp.S} {p : Nat} {r : Nat × Nat} (hr : r ∈ l) (h1 : r.1 ≤ p) (h2 : p < r.1 + r.2) : on l p = true := List.any_eq_true.2 ⟨r, hr, decide_eq_true ⟨h1, h2⟩⟩
/-- what Off tells -/
def offV (F : Option Nat) : Value := .tuple #[.int .u64 ((F.getD 0 : Nat) : Int), .bool F.isSome]
set_option maxRecDepth 100000 in
set_option maxHeartbeats 4000000 in
theorem refoff_any {w : World} {B g : Nat} {M : PM} {A1 A2 Ap : Option Addr} {n1 n2 c1 c2 np cp : Nat} {pgs : List (Nat × Nat)} (h : RMA w B g M A1 A2 Ap n1 n2 c1 c2 np cp pgs) (at_ n : Nat) (ha : at_ ≤ TOP) (hn : n ≤ 9223372036854775807) {F : Option Nat} (hF : OffIs (M.rams ++ M.devs) at_ n F) :
    Calls Try.prog 74 #[.pointer (some ⟨g, 0, none⟩), .int .u64 (at_ : Nat), .int .i64 (n : Nat)] w fun e w' => e = .returned (offV F) ∧ Below w.heap.size w w' := by
  have H1 := Lib.hid h.more1
  have H2 := Lib.hid h.more2
  have HF := Lib.hid hF
  have hn1 : n1 ≤ 8 := by have := h.ok.r8; have := h.rams.2.1; omega
  have hn2 : n2 ≤ 32 := by have := h.ok.d32; have := h.devs.2.1; omega
  have HG := Lib.hid h.ok.good
  have p0 := h.row.cell 0
  have p1 := h.row.cell 1
  have lp := h.row.lt
  simp only [List.getElem?_cons_zero, List.getElem?_cons_succ] at p0 p1
  have hat64 : at_ ≤ 18446744073709551615 := ha
  clear h hF ha
  go_enter Try.func74, Try.ntmps74
  go_wp2_with fail
  refine (refall_any A1 A2 n1 n2 c1 c2 M.rams M.devs w H1.out H2.out (by omega) (by omega)).mono ?_
  rintro e w2 ⟨AL, cl, rfl, h3, h4⟩
  obtain ⟨N, hN⟩ : ∃ N, N = n1 + n2 := ⟨_, rfl⟩
  rw [← hN] at h3 ⊢
  have hN40 : N ≤ 40 := by omega
  obtain ⟨l, hl⟩ : ∃ l, l = M.rams ++ M.devs := ⟨_, rfl⟩
  rw [← hl] at h3 HF HG
  have HL := Lib.hid h3
  have HB2 := Lib.hid h4
  clear h3 h4 hN hl H1 H2 p0 p1 lp
  go_wp2_with fail
  go_loopw [1, 2] (fun a z wr => ∃ d : Nat, d ≤ n ∧ a = .int .u64 ((at_ + d : Nat) : Int) ∧ z = .int .i64 ((n - d : Nat) : Int) ∧ Hid (d = 0 ∨ at_ + d ≤ 4294967296) ∧ Hid (∀ p, at_ ≤ p → p < at_ + d → on l p = true) ∧ Hid (Below w2.heap.size w2 wr)) (fun _ z _ => (intOf z).toNat)
  case atStart => exact ⟨0, by omega, rfl, rfl, Lib.hid (.inl rfl), Lib.hid (fun p h1 h2 => by omega), Lib.hid (Below.refl _ _)⟩
  case round =>
  obtain ⟨d, hd, rfl, rfl, HD, HON, HB⟩ := hrel
  obtain ⟨a, hae⟩ : ∃ a, a = at_ + d := ⟨_, rfl⟩
  obtain ⟨z, hze⟩ : ∃ z, z = n - d := ⟨_, rfl⟩
  rw [← hae, ← hze]
  have ha64 : a ≤ 18446744073709551615 := by rcases HD.out with h | h <;> omega
  have hz63 : z ≤ 9223372036854775807 := by omega
  have HAE := Lib.hid hae
  have HZE := Lib.hid hze
  clear hae hze
  have HBW : Hid (Below w.heap.size w wr) := Lib.hid (HB2.out.trans (HB.out.mono HB2.out.size))
  by_cases hz0 : 0 < z
  · go_wp2_with fail
    go_loopw [9, 10] (fun st i wr => ∃ (j s : Nat), j ≤ N ∧ i = .int .i64 (j : Nat) ∧ st = .int .u64 (s : Nat) ∧ Hid (s = 0 → ∀ (x : Nat) (r : Nat × Nat), x < j → l[x]? = some r → inR a r = false) ∧ Hid (s ≠ 0 → ∃ r ∈ l, r.1 ≤ a ∧ a < r.1 + r.2 ∧ s = r.1 + r.2 - a) ∧ Hid (Below w2.heap.size w2 wr)) (fun _ i _ => N - (intOf i).toNat)
    case atStart => exact ⟨0, 0, by omega, rfl, rfl, Lib.hid (fun _ x r h => absurd h (by omega)), Lib.hid (fun h => absurd rfl h), HB⟩
    case round =>
    clear HB HBW
    obtain ⟨j, s, hj, rfl, rfl, HS0, HS1, HB⟩ := hrel
    have HBW : Hid (Below w.heap.size w wr) := Lib.hid (HB2.out.trans (HB.out.mono HB2.out.size))
    by_cases hjN : j < N
    · obtain ⟨bl, ol, hf⟩ := HL.out.form
      obtain ⟨rfl, hbB, _⟩ := hf.out (by omega)
      clear hf
      obtain ⟨⟨b, t⟩, hx⟩ : ∃ x, l[j]? = some x := ⟨_, List.getElem?_eq_getElem (by rw [HL.out.2.1]; exact hjN)⟩
      obtain ⟨x0, x1⟩ := IsS.at_ (IsS.below HL.out HB.out) j _ hx
      have hgd := HG.out _ (List.mem_of_getElem? hx)
      have hbt : b + t ≤ 4294967296 := hgd.2
      have lbl : bl < wr.heap.size := Nat.lt_of_lt_of_le hbB HB.out.size
      have HX := Lib.hid hx
      simp only at x0 x1
      clear hx hgd
      by_cases q : b ≤ a ∧ a < b + t
      · have f1 : (b : Int) ≤ (a : Int) := by omega
        have f2 : (a : Int) - (b : Int) < (t : Int) := by omega
        have f3 : (0 : Int) ≤ (a : Int) - (b : Int) := by omega
        obtain ⟨s', hs'⟩ : ∃ s', s' = b + t - a := ⟨_, rfl⟩
        have e1 : (t : Int) - ((a : Int) - (b : Int)) = (s' : Int) := by omega
        have hs0 : s' ≤ 4294967296 := by omega
        have HS0' : Hid (s' = 0 → ∀ (x : Nat) (r : Nat × Nat), x < j + 1 → l[x]? = some r → inR a r = false) := Lib.hid (fun h => absurd h (by omega))
        have HS1' : Hid (s' ≠ 0 → ∃ r ∈ l, r.1 ≤ a ∧ a < r.1 + r.2 ∧ s' = r.1 + r.2 - a) := Lib.hid (fun _ => ⟨(b, t), List.mem_of_getElem? HX.out, q.1, q.2, hs'⟩)
        clear q hs'
        go_wp2_with fail
        go_quiet (fail)
        go_wp2_with fail
        go_quiet (fail)
        go_wp2_with fail
        go_roundw
        case rel => exact ⟨j + 1, s', by omega, by go_num, rfl, HS0', HS1', Lib.hid (below_drewN HB.out _)⟩
        case measure => simp [intOf]; omega
      · have HS0' : Hid (s = 0 → ∀ (x : Nat) (r : Nat × Nat), x < j + 1 → l[x]? = some r → inR a r = false) := Lib.hid (fun h0 x r hx hr => by
          rcases Nat.lt_or_ge x j with h1 | h1
          · exact HS0.out h0 x r h1 hr
          · obtain rfl : x = j := by omega
            have e : some r = some (b, t) := hr.symm.trans HX.out
            injection e with e
            subst e
            exact decide_eq_false q)
        by_cases q1 : b ≤ a
        · have f1 : (b : Int) ≤ (a : Int) := by omega
          have f2 : ¬ (a : Int) - (b : Int) < (t : Int) := by omega
          have f3 : (0 : Int) ≤ (a : Int) - (b : Int) := by omega
          clear q
          go_wp2_with fail
          go_quiet (fail)
          go_wp2_with fail
          go_roundw
          case rel => exact ⟨j + 1, s, by omega, by go_num, rfl, HS0', HS1, Lib.hid (below_drewN HB.out _)⟩
          case measure => simp [intOf]; omega
        · have f1 : ¬ (b : Int) ≤ (a : Int) := by omega
          clear q
          go_wp2_with fail
          go_quiet (fail)
          go_wp2_with fail
          go_roundw
          case rel => exact ⟨j + 1, s, by omega, by go_num, rfl, HS0', HS1, Lib.hid (below_drewN HB.out _)⟩
          case measure => simp [intOf]; omega
    · have e : j = N := by omega
      subst e
      by_cases hs : s = 0
      · have HE : Hid (F = some a) := Lib.hid (HF.out.uniq (show OffIs l at_ n (some a) from ⟨by have := HAE.out; omega, by have := HAE.out; have := HZE.out; omega, on_false (fun x r hr => HS0.out hs x r (by have := (List.getElem?_eq_some_iff.1 hr).1; have := HL.out.2.1; omega) hr), ha64, fun p h1 h2 => HON.out p h1 (by have := HAE.out; omega)⟩))
        subst hs
        go_wp2_with fail
        refine bodyPost_ret (v := .tuple #[.int .u64 (a : Nat), .bool true]) (by simp [results, Try.results74, go_sem]) rfl ⟨by rw [HE.out]; rfl, HBW.out⟩
      · obtain ⟨r, hr, hr1, hr2, hr3⟩ := HS1.out hs
        have hgd := (HG.out r hr).2
        unfold M32 at hgd
        have hb0 : ((s : Int) == 0) = false := by simp; omega
        have hs32 : s ≤ 4294967296 := by omega
        have HNX : Hid (∀ p, a ≤ p → p < a + s → on l p = true) := Lib.hid (fun p h1 h2 => on_in hr (by omega) (by omega))
        have HAS : Hid (a + s ≤ 4294967296) := Lib.hid (by omega)
        by_cases hzs : z ≤ s
        · have f : (z : Int) ≤ (s : Int) := by omega
          have HE : Hid (F = none) := Lib.hid (HF.out.uniq (show OffIs l at_ n none from fun p h1 h2 => by
            rcases Nat.lt_or_ge p a with h3 | h3
            · exact HON.out p h1 (by have := HAE.out; omega)
            · exact HNX.out p h3 (by have := HAE.out; have := HZE.out; omega)))
          clear hr hr1 hr2 hr3 hgd
          go_wp2_with fail
          refine bodyPost_ret (v := .tuple #[.int .u64 0, .bool false]) (by simp [results, Try.results74, go_sem]) rfl ⟨by rw [HE.out]; rfl, HBW.out⟩
        · have f : ¬ (z : Int) ≤ (s : Int) := by omega
          have HDN : Hid (d + s ≤ n) := Lib.hid (by have := HZE.out; omega)
          have HEA : Hid ((a : Int) + (s : Int) = ((at_ + (d + s) : Nat) : Int)) := Lib.hid (by have := HAE.out; omega)
          have HEZ : Hid ((z : Int) - (s : Int) = ((n - (d + s) : Nat) : Int)) := Lib.hid (by have := HZE.out; have := HDN.out; omega)
          have hes : (a : Int) + (s : Int) ≤ 4294967296 := by have := HAS.out; omega
          clear hr hr1 hr2 hr3 hgd
          go_wp2_with fail
          go_roundw
          case rel => exact ⟨d + s, HDN.out, by rw [← HEA.out], by rw [← HEZ.out], Lib.hid (.inr (by have := HAE.out; have := HAS.out; omega)), Lib.hid (fun p h1 h2 => by
            rcases Nat.lt_or_ge p a with h3 | h3
            · exact HON.out p h1 (by have := HAE.out; omega)
            · exact HNX.out p h3 (by have := HAE.out; omega)), HB⟩
          case measure => simp [intOf]; omega
  · have hz : z = 0 := by omega
    subst hz
    have HE : Hid (F = none) := Lib.hid (HF.out.uniq (show OffIs l at_ n none from fun p h1 h2 => HON.out p h1 (by have := HZE.out; omega)))
    go_wp2_with fail
    refine bodyPost_ret (v := .tuple #[.int .u64 0, .bool false]) (by simp [results, Try.results74, go_sem]) rfl ⟨by rw [HE.out]; rfl, HBW.out⟩
end Bu
end Go.Proofs.Ytmhkmemaneopeaa
