/- Texts of this claim, one behind the other: PgV, PgX, LeafOpen, PrA. -/
import Derived.Test.YtblfagmoilhdnaaJPagesTold26
import Derived.Test.YtblfagmoilhdnaaJPagesTold16
import Derived.Test.YtblfagmoilhdnaaJPagesTold19
/- The walk of the law's tree: the tables are named once each, in pre-order. -/
set_option linter.unusedVariables false
set_option linter.unusedSimpArgs false
namespace Go.Proofs.Ytblfagmoilhdnaa
open Go.RowKit

namespace Pg
theorem at_idx {L : List Lab} {t : Lab} (h : t ∈ L) : L[L.idxOf t]? = some t := by
  have hl := List.idxOf_lt_length_of_mem h
  rw [List.getElem?_eq_getElem hl, List.getElem_idxOf]
theorem ahead_le (L : List Lab) (k : Nat) : ahead L k ≤ L.length := List.countP_le_length
theorem say_ptr {base n lv : Nat} (hb : base % 4096 = 0) (hf : base + n * 4096 < 4294967296) (hl : lv < 2) : ptr base n = base + n * 4096 + 1 ∧ Ent.say (base + n * 4096 + 1) lv = (⟨base + n * 4096, true, false, false, false⟩, 0) := by
  refine ⟨by unfold ptr; omega, ?_⟩
  have h := say_add (F := base + n * 4096) (by omega) hf lv false false false (by unfold Ent.wrong; simp)
  simpa [hl] using h
theorem say_bigp {q : Pge} (hq : q.Ok) (hb : q.b = true) : Ent.say q.num 1 = (⟨q.p, false, true, q.w, q.x⟩, 0) := by
  have hu : q.u = 2097152 := by rcases q.u_or with ⟨h, _⟩ | ⟨_, h⟩; exact h; rw [hb] at h; cases h
  have h1 := hq.pa; have h2 := hq.pl
  rw [hu] at h1 h2
  have h := say_add (F := q.p) (by omega) (by omega) 1 q.b q.w q.x (by unfold Ent.wrong; rw [hb]; simp; omega)
  rw [hb] at h
  unfold Pge.num
  rw [hb]
  simpa using h
theorem pageAt_some {qs : List Pge} {b : Bool} {k : Nat} : pageAt qs b k = 0 ∨ ∃ q ∈ qs, q.b = b ∧ q.v / bu b = k ∧ pageAt qs b k = q.num := by
  unfold pageAt
  cases hf : qs.find? (fun q => q.b == b && q.v / bu b == k) with
  | none => exact .inl rfl
  | some q =>
    have h1 := List.mem_of_find?_eq_some hf
    have h2 := List.find?_some hf
    simp at h2
    exact .inr ⟨q, h1, h2.1, h2.2, rfl⟩
end Pg
/-- an entry's value, seen -/
theorem HasT.cell_at {w : World} {A : Option Addr} {l : List (List Nat)} (h : HasT w A l) {t e : Nat} (ht : t < l.length) (he : e < 512) : ∃ g, A = some ⟨g, 0, none⟩ ∧ g < w.heap.size ∧ w.cell? ⟨g, t * 512 + e, none⟩ = some (.int .u64 (Pg.cell l t e : Nat)) ∧ Pg.cell l t e < 18446744073709551616 := by
  obtain ⟨g, rfl, hg, hc⟩ := h.2.2 (by omega)
  have hm : l.getD t [] ∈ l := by simp [List.getD_eq_getElem?_getD, ht]
  obtain ⟨hl, hx⟩ := h.1 _ hm
  have he' : e < (l.getD t []).length := by omega
  have h1 : (l.getD t [])[e]? = some (Pg.cell l t e) := by
    unfold Pg.cell
    rw [List.getD_eq_getElem?_getD (l := l.getD t []), List.getElem?_eq_getElem he']; rfl
  refine ⟨g, rfl, hg, hc t ht e _ (by rw [List.getElem?_map, h1]; rfl), hx _ (List.mem_of_getElem? h1)⟩
theorem entry_say (e lv : Nat) (W : World) (F : Nat) (t b v x : Bool) (n : Nat) (he : e < 18446744073709551616) (hl : lv < 3) (hs : Ent.say e lv = (⟨F, t, b, v, x⟩, n)) :
    Calls Try.prog 54 #[.int .u64 (e : Nat), .int .i64 (lv : Nat)] W fun en w' => en = .returned (.tuple #[.agg #[.int .u64 (F : Nat), .bool t, .bool b, .bool v, .bool x], .int .i64 (n : Nat)]) ∧ Below W.heap.size W w' := by
  have h := entry_any e lv W he hl
  rw [hs] at h
  exact h
set_option maxRecDepth 100000 in
set_option maxHeartbeats 1000000 in
theorem tree_yes (A : Option Addr) (n c base : Nat) (l : List (List Nat)) (qs : List Pg.Pge) (w : World) (hl : HasT w A l) (hn : n = l.length) (hc : Pg.Chain qs) (hrep : Pg.Rep base (Pg.tabs qs) qs l) (hb : base % 4096 = 0) (hfit : base + l.length * 4096 ≤ 4294967296) :
    Calls Try.prog 31 #[.slice A n c, .int .u64 (base : Nat)] w fun e w' => e = .returned (.bool true) ∧ Below w.heap.size w w' := by
  obtain ⟨L, hL⟩ : ∃ L, L = Pg.tabs qs := ⟨_, rfl⟩
  have hlen := hrep.len
  have h0 := (List.getElem?_eq_some_iff.1 (Pg.good_tabs qs).root).1
  rw [← hL] at hrep hlen h0
  have hA := hl.cell_at (t := 0) (e := 0) (by omega) (by omega)
  obtain ⟨g, rfl, hg, _⟩ := hA
  have HL := Lib.hid hL; have HN := Lib.hid hn; have HC := Lib.hid hc; have HREP := Lib.hid hrep; have HT := Lib.hid hl; have HLEN := Lib.hid hlen
  have HB4 := Lib.hid hb
  rw [← hn] at hfit
  have hn0 : 0 < n := by omega
  have hn1 : n ≤ 1048576 := by omega
  clear hL hn hc hrep hl hlen h0 hb
  go_enter Try.func31, Try.ntmps31
  go_wp2_with fail
  go_loopw [5, 6] (fun x i wr => ∃ j nx : Nat, j ≤ 512 ∧ i = .int .i64 j ∧ x = .int .i64 nx ∧ nx ≤ n ∧ Hid (nx = Pg.ahead L (2048 * j + 1)) ∧ Hid (Below w.heap.size w wr)) (fun _ i _ => 512 - (intOf i).toNat)
  case atStart => exact ⟨0, 1, by omega, rfl, rfl, by omega, Lib.hid (by rw [HL.out]; exact Pg.ahead_root.symm), Lib.hid (Below.refl _ _)⟩
  case round =>
    obtain ⟨j, nx, hj, rfl, rfl, hnx, HNX, HB⟩ := hrel
    by_cases hj5 : j < 512
    · obtain ⟨X, hX⟩ : ∃ X, X = Pg.cell l 0 j := ⟨_, rfl⟩
      obtain ⟨_, hga, _, hcell, hx64⟩ := HT.out.cell_at (t := 0) (e := j) (by rw [← HN.out]; omega) hj5
      cases hga
      rw [← hX, Nat.zero_mul, Nat.zero_add] at hcell
      rw [← hX] at hx64
      have hcr := (HB.out.cell (p := ⟨g, j, none⟩) hg).trans hcell
      have hent : X = Pg.entry base L qs (0, 0) j := by
        rw [hX]
        exact HREP.out.ent 0 (0, 0) (by rw [HL.out]; exact (Pg.good_tabs qs).root) j hj5
      have hjl : (j : Int) < 512 := by omega
      have hj0 : (0 : Int) ≤ (j : Int) := by omega
      have hgr : g < wr.heap.size := Nat.lt_of_lt_of_le hg HB.out.size
      have hn0i : (0 : Int) < (n : Int) := by omega
      clear hcell
      by_cases hm : (1, j) ∈ L
      · -- a table
        have hyes := Pg.ahead_mid_yes HC.out (j := j) (by rw [← HL.out]; exact hm)
        rw [← HL.out, ← HNX.out] at hyes
        have hnl : nx < n := by rw [← hyes.1, HN.out, HLEN.out]; exact List.idxOf_lt_length_of_mem hm
        have hsp := Pg.say_ptr (base := base) (n := nx) (lv := 0) HB4.out (by omega) (by decide)
        have hxe : X = base + nx * 4096 + 1 := by
          rw [hent]
          unfold Pg.entry
          rw [if_pos rfl, if_pos hm, hyes.1, hsp.1]
        have hmid : L[nx]? = some (1, j) := by rw [← hyes.1]; exact Pg.at_idx hm
        have HMID := Lib.hid hmid
        have HYES := Lib.hid hyes.2
        obtain ⟨F, hF⟩ : ∃ F, F = base + nx * 4096 := ⟨_, rfl⟩
        have hen := entry_say X 0 wr F true false false false 0 hx64 (by decide) (by rw [hxe, hsp.2, hF])
        have e1 : IntKind.u64.wrap (nx : Int) = (nx : Int) := by rw [IntKind.wrap_u64]; omega
        have e2 : (nx : Int) * 4096 % 18446744073709551616 = (nx : Int) * 4096 := by omega
        have e3 : IntKind.u64.wrap ((nx : Int) * 4096) = (nx : Int) * 4096 := by rw [IntKind.wrap_u64]; omega
        have e4 : ((base : Int) + (nx : Int) * 4096) % 18446744073709551616 = (F : Int) := by omega
        have e5 : IntKind.u64.wrap ((base : Int) + (nx : Int) * 4096) = (F : Int) := by rw [IntKind.wrap_u64]; omega
        have e6 : (base : Int) + (nx : Int) * 4096 = (F : Int) := by omega
        have e7 : decide (n ≤ nx) = false := decide_eq_false (by omega)
        have HEN := Lib.hid hen
        clear hX hent hm hyes hsp hxe hmid hF hen HNX
        go_wp2_with fail
        refine HEN.out.mono ?_
        rintro e w2 ⟨rfl, hb2⟩
        have hcr2 := (hb2.cell (p := ⟨g, j, none⟩) hgr).trans hcr
        have HB2 := Lib.hid (HB.out.trans (hb2.mono HB.out.size))
        have hgr2 := Nat.lt_of_lt_of_le hgr hb2.size
        clear hb2 hcr hgr HB HEN
        go_wp2_with fail
        have HB3 : Hid (Below w.heap.size w (w2.alloc (.cells #[.int .u64 (F : Nat), .bool true, .bool false, .bool false, .bool false] 100))) := Lib.hid (HB2.out.alloc HB2.out.size _)
        generalize w2.alloc (.cells #[.int .u64 (F : Nat), .bool true, .bool false, .bool false, .bool false] 100) = w3 at *
        clear hcr2 HB2 hgr2 hx64 e1 e2 e3 e4 e5 e6 e7
        go_loopw [5, 10] (fun x i wr => ∃ k ny : Nat, k ≤ 512 ∧ i = .int .i64 k ∧ x = .int .i64 ny ∧ ny ≤ n ∧ Hid (ny = Pg.ahead L (2048 * j + 2 + k)) ∧ Hid (Below w.heap.size w wr)) (fun _ i _ => 512 - (intOf i).toNat)
        case atStart => exact ⟨0, nx + 1, by omega, rfl, by go_num, by omega, Lib.hid HYES.out.symm, HB3⟩
        case round =>
          clear HB3 HYES
          obtain ⟨k, ny, hk, rfl, rfl, hny, HNY, HB⟩ := hrel
          have hnxi : (nx : Int) < (n : Int) := by omega
          have hnx0 : (0 : Int) ≤ (nx : Int) := by omega
          by_cases hk5 : k < 512
          · obtain ⟨X, hX⟩ : ∃ X, X = Pg.cell l nx k := ⟨_, rfl⟩
            obtain ⟨_, hga, _, hcell, hx64⟩ := HT.out.cell_at (t := nx) (e := k) (by rw [← HN.out]; omega) hk5
            cases hga
            rw [← hX] at hx64 hcell
            have hcr := (HB.out.cell (p := ⟨g, nx * 512 + k, none⟩) hg).trans hcell
            have hent : X = Pg.entry base L qs (1, j) k := by
              rw [hX]
              exact HREP.out.ent nx (1, j) HMID.out k hk5
            have hkl : (k : Int) < 512 := by omega
            have hk0 : (0 : Int) ≤ (k : Int) := by omega
            have hgr : g < wr.heap.size := Nat.lt_of_lt_of_le hg HB.out.size
            clear hcell
            by_cases hm : (2, j * 512 + k) ∈ L
            · have hyes := Pg.ahead_low_yes HC.out (j := j) (k := k) hk5 (by rw [← HL.out]; exact hm)
              rw [← HL.out, ← HNY.out] at hyes
              have hnl : ny < n := by rw [← hyes.1, HN.out, HLEN.out]; exact List.idxOf_lt_length_of_mem hm
              have hsp := Pg.say_ptr (base := base) (n := ny) (lv := 1) HB4.out (by omega) (by decide)
              have hxe : X = base + ny * 4096 + 1 := by
                rw [hent]
                unfold Pg.entry
                rw [if_neg (by simp), if_pos rfl, if_pos hm, hyes.1, hsp.1]
              have HYES := Lib.hid hyes.2
              obtain ⟨G, hG⟩ : ∃ F, F = base + ny * 4096 := ⟨_, rfl⟩
              have hen := entry_say X 1 wr G true false false false 0 hx64 (by decide) (by rw [hxe, hsp.2, hG])
              have e1 : IntKind.u64.wrap (ny : Int) = (ny : Int) := by rw [IntKind.wrap_u64]; omega
              have e2 : (ny : Int) * 4096 % 18446744073709551616 = (ny : Int) * 4096 := by omega
              have e3 : IntKind.u64.wrap ((ny : Int) * 4096) = (ny : Int) * 4096 := by rw [IntKind.wrap_u64]; omega
              have e4 : ((base : Int) + (ny : Int) * 4096) % 18446744073709551616 = (G : Int) := by omega
              have e5 : IntKind.u64.wrap ((base : Int) + (ny : Int) * 4096) = (G : Int) := by rw [IntKind.wrap_u64]; omega
              have e6 : (base : Int) + (ny : Int) * 4096 = (G : Int) := by omega
              have e7 : decide (n ≤ ny) = false := decide_eq_false (by omega)
              have HEN := Lib.hid hen
              clear hX hent hm hyes hsp hxe hG hen HNY
              go_wp2_with fail
              refine HEN.out.mono ?_
              rintro e w4 ⟨rfl, hb4⟩
              have hcr2 := (hb4.cell (p := ⟨g, nx * 512 + k, none⟩) hgr).trans hcr
              have HB2 := Lib.hid (HB.out.trans (hb4.mono HB.out.size))
              have hgr2 := Nat.lt_of_lt_of_le hgr hb4.size
              clear hb4 hcr hgr HB HEN
              go_wp2_with fail
              go_roundw
              case rel => exact ⟨k + 1, ny + 1, by omega, by go_num, by go_num, by omega, Lib.hid HYES.out.symm, Lib.hid (HB2.out.alloc HB2.out.size _)⟩
              case measure => simp [intOf]; omega
            · have hno := Pg.ahead_low_no HC.out (j := j) (k := k) hk5 (by rw [← HL.out]; exact hm)
              rw [← HL.out, ← HNY.out] at hno
              have HNO := Lib.hid hno
              have hxe : X = Pg.pageAt qs true (j * 512 + k) := by
                rw [hent]
                unfold Pg.entry
                rw [if_neg (by simp), if_pos rfl, if_neg hm]
              rcases Pg.pageAt_some (qs := qs) (b := true) (k := j * 512 + k) with hp | ⟨q, hq, hqb, _, hp⟩
              · rw [hp] at hxe
                have hen := entry_say 0 1 wr 0 false false false false 41 (by decide) (by decide) rfl
                have HEN := Lib.hid hen
                rw [hxe] at hcr
                clear hX hent hm hxe hno hen HNY hx64 hp
                go_wp2_with fail
                refine HEN.out.mono ?_
                rintro e w4 ⟨rfl, hb4⟩
                have hcr2 := (hb4.cell (p := ⟨g, nx * 512 + k, none⟩) hgr).trans hcr
                have HB2 := Lib.hid (HB.out.trans (hb4.mono HB.out.size))
                have hgr2 := Nat.lt_of_lt_of_le hgr hb4.size
                clear hb4 hcr hgr HB HEN
                go_wp2_with fail
                go_roundw
                case rel => exact ⟨k + 1, ny, by omega, by go_num, rfl, hny, Lib.hid HNO.out.symm, Lib.hid (HB2.out.alloc HB2.out.size _)⟩
                case measure => simp [intOf]; omega
              · have hen := entry_say X 1 wr q.p false true q.w q.x 0 hx64 (by decide) (by rw [hxe, hp]; exact Pg.say_bigp (HC.out.2 q hq) hqb)
                have HEN := Lib.hid hen
                obtain ⟨qv, qp, qb, qw, qx⟩ := q
                clear hX hent hm hxe hno hen HNY hp hq hqb
                go_wp2_with fail
                refine HEN.out.mono ?_
                rintro e w4 ⟨rfl, hb4⟩
                have hcr2 := (hb4.cell (p := ⟨g, nx * 512 + k, none⟩) hgr).trans hcr
                have HB2 := Lib.hid (HB.out.trans (hb4.mono HB.out.size))
                have hgr2 := Nat.lt_of_lt_of_le hgr hb4.size
                clear hb4 hcr hgr HB HEN
                go_wp2_with fail
                go_roundw
                case rel => exact ⟨k + 1, ny, by omega, by go_num, rfl, hny, Lib.hid HNO.out.symm, Lib.hid (HB2.out.alloc HB2.out.size _)⟩
                case measure => simp [intOf]; omega
          · have HK : Hid (k = 512) := Lib.hid (by omega)
            have HNE : Hid (ny = Pg.ahead L (2048 * (j + 1) + 1)) := Lib.hid (by
              rw [HNY.out, HK.out, HL.out]
              exact (Pg.ahead_low_end HC.out j).symm)
            clear HNY
            go_wp2_with fail
            go_roundw
            case rel => exact ⟨j + 1, ny, by omega, by go_num, rfl, hny, HNE, HB⟩
            case measure => simp [intOf]; omega
      · -- nothing
        have hx0 : X = 0 := by
          rw [hent]
          unfold Pg.entry
          rw [if_pos rfl, if_neg hm]
        have hno := Pg.ahead_mid_no HC.out (j := j) (by rw [← HL.out]; exact hm)
        rw [← HL.out, ← HNX.out] at hno
        have HNO := Lib.hid hno
        have hen := entry_say 0 0 wr 0 false false false false 41 (by decide) (by decide) rfl
        have HEN := Lib.hid hen
        rw [hx0] at hcr
        clear hX hent hm hx0 hno hen HNX hx64
        go_wp2_with fail
        refine HEN.out.mono ?_
        rintro e w2 ⟨rfl, hb2⟩
        have hcr2 := (hb2.cell (p := ⟨g, j, none⟩) hgr).trans hcr
        have HB2 := Lib.hid (HB.out.trans (hb2.mono HB.out.size))
        have hgr2 := Nat.lt_of_lt_of_le hgr hb2.size
        clear hb2 hcr hgr HB HEN
        go_wp2_with fail
        go_roundw
        case rel => exact ⟨j + 1, nx, by omega, by go_num, rfl, hnx, Lib.hid HNO.out.symm, Lib.hid (HB2.out.alloc HB2.out.size _)⟩
        case measure => simp [intOf]; omega
    · have HJ : Hid (j = 512) := Lib.hid (by omega)
      have hne : nx = n := by
        rw [HNX.out, HJ.out, HL.out, Pg.ahead_end HC.out, HN.out, HLEN.out, HL.out]
      have hne2 : ((nx : Int) == (n : Int)) = true := by rw [beq_iff_eq]; omega
      have HNE := Lib.hid hne
      clear hne HNX
      go_wp2_with fail
      go_ret
      exact ⟨by first | rfl | (rw [hne2]), HB.out⟩
end Go.Proofs.Ytblfagmoilhdnaa

/- Plain law for PagesAlike: what Build tells depends on the pages alone. -/
set_option linter.unusedVariables false
set_option linter.unusedSimpArgs false
namespace Go.Proofs.Ytblfagmoilhdnaa
namespace Pg
theorem ans_same {a b : List Lf} (ha : right 0 a = 0) (hb : right 0 b = 0) (h : pagesOf a = pagesOf b) (base : Nat) : ans a base = ans b base := by
  unfold ans
  rw [if_neg (by simp [ha]), if_neg (by simp [hb]), h]
theorem ansB_same {a b : List Lf} (ha : right 0 a = 0) (hb : right 0 b = 0) (h : pagesOf a = pagesOf b) (base : Nat) : ansB a base = ansB b base := by
  unfold ansB
  rw [ans_same ha hb h]
/-- the builders of two bases go alike -/
def Sim (s t : St) : Prop := s.all.length = t.all.length ∧ s.mid = t.mid ∧ s.low = t.low ∧ s.virt = t.virt
theorem Sim.step {b b' : Nat} {s t : St} (h : Sim s t) (q : Pge) : Sim (step b s q) (step b' t q) := by
  obtain ⟨h1, h2, h3, h4⟩ := h
  have hm : Sim (openMid b s q.v) (openMid b' t q.v) := by
    unfold openMid
    rw [h2, h4]
    split
    · exact ⟨by simp [childE_len, h1], by simp [h1], rfl, rfl⟩
    · exact ⟨h1, h2, h3, h4⟩
  have hl : ∀ s t : St, Sim s t → Sim (openLow b s q.v) (openLow b' t q.v) := by
    rintro s t ⟨h1, h2, h3, h4⟩
    unfold openLow
    rw [h3, h4]
    split
    · exact ⟨by simp [childE_len, h1], h2, by simp [h1], rfl⟩
    · exact ⟨h1, h2, h3, h4⟩
  unfold Pg.step
  cases q.b
  · obtain ⟨k1, k2, k3, k4⟩ := hl _ _ hm
    exact ⟨by simp [setE_len, k1], k2, k3, rfl⟩
  · obtain ⟨k1, k2, k3, k4⟩ := hm
    exact ⟨by simp [setE_len, k1], k2, rfl, rfl⟩
theorem runP_sim {b b' : Nat} : ∀ (qs : List Pge) (s t s' : St), Sim s t → runP b s qs = some s' → ∃ t', runP b' t qs = some t' ∧ Sim s' t'
  | [], s, t, s', h, hr => by cases hr; exact ⟨t, rfl, h⟩
  | q :: r, s, t, s', h, hr => by
    rw [runP_cons] at hr ⊢
    have hs := h.step (b := b) (b' := b') q
    split at hr
    · cases hr
    · rename_i hl
      rw [if_neg (by rw [← hs.1]; exact hl)]
      exact runP_sim r _ _ s' hs hr
theorem ans_base {rows : List Lf} {b : Nat} (b' : Nat) (h : (ans rows b).2 = 0) : (ans rows b').2 = 0 ∧ (ans rows b').1.length = (ans rows b).1.length := by
  obtain ⟨hr, hc, s, hs, _, hl⟩ := ans_known h
  obtain ⟨t, ht, hst⟩ := runP_sim (b' := b') _ init init s ⟨rfl, rfl, rfl, rfl⟩ hs
  rw [hl]
  unfold ans
  rw [if_neg (by simp [hr]), ht]
  exact ⟨rfl, hst.1.symm⟩
theorem ansB_ok {rows : List Lf} {base : Nat} (h : (ansB rows base).2 = 0) : (ans rows base).2 = 0 ∧ ansB rows base = ans rows base ∧ base % 4096 = 0 ∧ base + (ans rows base).1.length * 4096 ≤ 4294967296 := by
  unfold ansB at h ⊢
  simp only at h ⊢
  split at h
  · rename_i h0; exact absurd h h0
  · rename_i h0
    split at h
    · cases h
    · rename_i h1
      split at h
      · cases h
      · rename_i h2
        have hb : base / 4096 * 4096 % 4294967296 = base := by omega
        rw [hb] at h0 h2 h ⊢
        rw [if_neg h0, if_neg h1, if_neg h2]
        refine ⟨h, rfl, by omega, by omega⟩
theorem In_of {r : Lf} (h : r.Ok) : r.In := by
  obtain ⟨h1, h2, h3, h4, h5, h6⟩ := h
  unfold Lf.In
  omega
/-- the one page that is asked ahead -/
def farRow : Lf := ⟨1073741824, 0, 1, false, false, false⟩
theorem ansB_far (b : Nat) (h : b % 4096 = 0) (hl : b < 2147483648) : (ansB [farRow] b).2 = 0 ∧ (ansB [farRow] b).1.length = 3 := by
  have h0 : (ans [farRow] 0).2 = 0 ∧ (ans [farRow] 0).1.length = 3 := by
    have : ((ans [farRow] 0).2, (ans [farRow] 0).1.length) = (0, 3) := by kernel_rfl
    injection this with h1 h2
    exact ⟨h1, h2⟩
  obtain ⟨h1, h2⟩ := ans_base b h0.1
  have hb : b / 4096 * 4096 % 4294967296 = b := by omega
  unfold ansB
  simp only
  rw [hb, if_neg (by simp [h1]), if_neg (by simp [h]), if_neg (by rw [h2, h0.2]; omega)]
  exact ⟨h1, by rw [h2, h0.2]⟩
end Pg
end Go.Proofs.Ytblfagmoilhdnaa

/- An argument that is a list of rows: opened. -/
set_option linter.unusedVariables false
set_option linter.unusedSimpArgs false
namespace Go.Proofs.Ytblfagmoilhdnaa
open Go.Joins Go.ChangeShapes Go.WideShapes Go.RowKit Go.Deep
section
variable {H : Type} {enc : TypeId × Value → H} {w : World} {base : Nat} {spare : Nat → Bool} {held : Bool}
set_option maxRecDepth 100000 in
theorem open_leaves {fuel : Nat} {A : Option Addr} {len cap : Nat} {y : DataW H × List MemPlace} (h : DataW.trod enc Try.prog w base spare held fuel 48 [.slice A len cap] = some y) : ∃ rows, IsL w w.heap.size A len rows ∧ len ≤ cap := by
  have hC : Try.prog.cellsOf 47 = 6 := by kernel_rfl
  rcases open_slice_fields Try.underlying48 Try.underlying47 (by kernel_rfl) hC h with ⟨hcs, _⟩ | ⟨a, len', cap', m, D, Pl, hcs, hb, hl, hm, hmm, hx, hi⟩
  · simp at hcs
    obtain ⟨rfl, rfl, rfl⟩ := hcs
    exact ⟨[], isL_nil _ _, Nat.le_refl _⟩
  · simp at hcs
    obtain ⟨rfl, rfl, rfl⟩ := hcs
    have hle : len ≤ m := by rw [hmm]; split <;> omega
    obtain ⟨rows, hol, hrows⟩ := list_of (P := fun i (r : Pg.Lf) => (∀ (j : Nat) (v : Value), (lcells r)[j]? = some v → w.cell? (a.add (i * 6 + j)) = some v) ∧ r.In) len (fun i hil => by
      obtain ⟨ys, n, _, _, _, hf⟩ := hi i (by omega)
      obtain ⟨v0, y0, c0, _, t0⟩ := hf 0 _ rfl
      obtain ⟨v1, y1, c1, _, t1⟩ := hf 1 _ rfl
      obtain ⟨v2, y2, c2, _, t2⟩ := hf 2 _ rfl
      obtain ⟨v3, y3, c3, _, t3⟩ := hf 3 _ rfl
      obtain ⟨v4, y4, c4, _, t4⟩ := hf 4 _ rfl
      obtain ⟨v5, y5, c5, _, t5⟩ := hf 5 _ rfl
      obtain ⟨z0, e0, _, w0⟩ := DataW.trod_int (k := .u64) Try.underlying22 t0
      obtain ⟨z1, e1, _, w1⟩ := DataW.trod_int (k := .u64) Try.underlying22 t1
      obtain ⟨z2, e2, _, w2⟩ := DataW.trod_int (k := .i64) Try.underlying3 t2
      obtain ⟨b3, e3, _⟩ := DataW.trod_bool Try.underlying4 t3
      obtain ⟨b4, e4, _⟩ := DataW.trod_bool Try.underlying4 t4
      obtain ⟨b5, e5, _⟩ := DataW.trod_bool Try.underlying4 t5
      simp at e0 e1 e2 e3 e4 e5
      subst e0 e1 e2 e3 e4 e5
      obtain ⟨k0, rfl, hk0⟩ := nat_of_u64 w0
      obtain ⟨k1, rfl, hk1⟩ := nat_of_u64 w1
      have h2 := bounds_i64 w2
      refine ⟨⟨k0, k1, z2, b3, b4, b5⟩, ?_, hk0, hk1, h2.1, by show z2 < _; omega⟩
      intro j v hv
      match j, hv with
      | 0, hv => simp [lcells] at hv; subst hv; exact c0
      | 1, hv => simp [lcells] at hv; subst hv; exact c1
      | 2, hv => simp [lcells] at hv; subst hv; exact c2
      | 3, hv => simp [lcells] at hv; subst hv; exact c3
      | 4, hv => simp [lcells] at hv; subst hv; exact c4
      | 5, hv => simp [lcells] at hv; subst hv; exact c5
      | j + 6, hv => simp [lcells] at hv)
    refine ⟨rows, ⟨⟨?_, fun h0 => ⟨a, rfl, ?_, fun j u hu => ?_⟩⟩, fun r hr => ?_, hol, by unfold maxLen at hm; omega⟩, hl⟩
    · show (lall rows).length = _
      rw [lall_len, hol]
    · have hx0 := List.getElem?_eq_getElem (show 0 < rows.length by omega)
      have hc0 := (hrows 0 _ hx0).1 0 _ rfl
      have := World.block_lt_of_cell? w _ hc0
      rwa [block_of_add] at this
    · have hj : j < rows.length * 6 := by
        have := (List.getElem?_eq_some_iff.1 hu).1
        rw [show (rows.flatMap lcells).length = rows.length * 6 from lall_len rows] at this
        exact this
      have hk : rows[j / 6]? = some (rows[j / 6]'(by omega)) := List.getElem?_eq_getElem (by omega)
      have h1 := lall_at hk (j % 6) (by omega)
      rw [show 6 * (j / 6) + j % 6 = j by omega] at h1
      have h2 := (hrows _ _ hk).1 (j % 6) u (h1 ▸ hu)
      rw [show j / 6 * 6 + j % 6 = j by omega] at h2
      exact h2
    · obtain ⟨i, hi1, rfl⟩ := List.mem_iff_getElem.1 hr
      exact (hrows i _ (List.getElem?_eq_getElem hi1)).2
end
end Go.Proofs.Ytblfagmoilhdnaa

/- Plain law: the document's tables, step after step with a cap, are the builder's. -/
set_option linter.unusedVariables false
set_option linter.unusedSimpArgs false
namespace Go.Proofs.Ytblfagmoilhdnaa
namespace Pg
/-- what one window of two megabytes wants -/
def tabM (l : List Lab) (b : Bool) (m : Nat) : List Lab := if b then ens l (1, m / 512) else ens (ens l (1, m / 512)) (2, m)
theorem tab1_tabM (l : List Lab) (q : Pge) : tab1 l q = tabM l q.b (q.v / 2097152) := by
  unfold tab1 tabM
  rw [show q.v / 1073741824 = q.v / 2097152 / 512 by omega]
def capF : List (Bool × Nat) → List Lab → List Lab
  | [], l => l
  | s :: r, l => if 1024 < l.length then l else capF r (tabM l s.1 s.2)
def unF (s : List (Bool × Nat)) (l : List Lab) : List Lab := s.foldl (fun l s => tabM l s.1 s.2) l
def stepsR (b : Bool) (m k : Nat) : List (Bool × Nat) := (List.range' m k).map (fun i => (b, i))
/-- how many windows a row reaches to -/
def Lf.win (r : Lf) : Nat := (r.v + r.n.toNat * 4096 + 2097151) / 2097152
def Lf.steps (r : Lf) : List (Bool × Nat) := stepsR r.b (r.v / 2097152) (r.win - r.v / 2097152)
def stepsOf (rows : List Lf) : List (Bool × Nat) := rows.flatMap Lf.steps
theorem stepsR_cons (b : Bool) (m k : Nat) : stepsR b m (k + 1) = (b, m) :: stepsR b (m + 1) k := by simp [stepsR, List.range'_succ]
theorem stepsR_snoc (b : Bool) (m k : Nat) : stepsR b m (k + 1) = stepsR b m k ++ [(b, m + k)] := by simp [stepsR, List.range'_concat]
theorem capF_full {s : List (Bool × Nat)} {l : List Lab} (h : 1024 < l.length) : capF s l = l := by
  cases s with
  | nil => rfl
  | cons a r => unfold capF; rw [if_pos h]
theorem capF_app (a b : List (Bool × Nat)) : ∀ l, capF (a ++ b) l = capF b (capF a l) := by
  induction a with
  | nil => intro l; rfl
  | cons s r ih =>
    intro l
    rw [List.cons_append]
    by_cases h : 1024 < l.length
    · rw [capF_full h, capF_full (s := s :: r) h, capF_full h]
    · show (if 1024 < l.length then l else capF (r ++ b) (tabM l s.1 s.2)) = capF b (if 1024 < l.length then l else capF r (tabM l s.1 s.2))
      rw [if_neg h, if_neg h]
      exact ih _
theorem ens_len (l : List Lab) (t : Lab) : l.length ≤ (ens l t).length ∧ (ens l t).length ≤ l.length + 1 := by
  unfold ens; split <;> simp
theorem tabM_len (l : List Lab) (b : Bool) (m : Nat) : l.length ≤ (tabM l b m).length ∧ (tabM l b m).length ≤ l.length + 2 := by
  have h1 := ens_len l (1, m / 512)
  have h2 := ens_len (ens l (1, m / 512)) (2, m)
  unfold tabM
  split <;> omega
theorem unF_len (s : List (Bool × Nat)) : ∀ l, l.length ≤ (unF s l).length := by
  induction s with
  | nil => intro l; exact Nat.le_refl _
  | cons a r ih => intro l; exact Nat.le_trans (tabM_len l a.1 a.2).1 (ih _)
theorem cap_le (s : List (Bool × Nat)) : ∀ l, (unF s l).length ≤ 1024 → capF s l = unF s l := by
  induction s with
  | nil => intro l _; rfl
  | cons a r ih =>
    intro l h
    have h1 := unF_len (a :: r) l
    unfold capF
    rw [if_neg (by omega)]
    exact ih _ h
theorem cap_gt (s : List (Bool × Nat)) : ∀ l, 1024 < (unF s l).length → 1024 < (capF s l).length := by
  induction s with
  | nil => intro l h; exact h
  | cons a r ih =>
    intro l h
    unfold capF
    split
    · assumption
    · exact ih _ h
theorem cap_most (s : List (Bool × Nat)) : ∀ l, l.length ≤ 1026 → (capF s l).length ≤ 1026 := by
  induction s with
  | nil => intro l h; exact h
  | cons a r ih =>
    intro l h
    unfold capF
    split
    · exact h
    · have := (tabM_len l a.1 a.2).2
      exact ih _ (by omega)
theorem unF_app (a b : List (Bool × Nat)) (l : List Lab) : unF (a ++ b) l = unF b (unF a l) := by simp [unF, List.foldl_append]
theorem tabM_in {l : List Lab} {b : Bool} {m : Nat} (h1 : (1, m / 512) ∈ l) (h2 : b = false → (2, m) ∈ l) : tabM l b m = l := by
  unfold tabM
  rw [ens_in h1]
  cases b
  · rw [ens_in (h2 rfl)]; rfl
  · rfl
theorem tabM_mem (l : List Lab) (b : Bool) (m : Nat) : (1, m / 512) ∈ tabM l b m ∧ (b = false → (2, m) ∈ tabM l b m) := by
  unfold tabM
  cases b
  · simp [mem_ens]
  · simp [mem_ens]
theorem tabM_idem (l : List Lab) (b : Bool) (m : Nat) : tabM (tabM l b m) b m = tabM l b m := tabM_in (tabM_mem l b m).1 (tabM_mem l b m).2
/-- a row's pages want what its windows want -/
theorem row_tabs {r : Lf} (h : r.Ok) (l : List Lab) : r.pages.foldl tab1 l = unF r.steps l := by
  have hu := h.cnt_u
  have hp := h.cnt_pos
  have hva := h.va
  have key : ∀ c, 1 ≤ c → ((List.range c).map r.page).foldl tab1 l = unF (stepsR r.b (r.v / 2097152) ((r.v + (c - 1) * r.u) / 2097152 - r.v / 2097152 + 1)) l := by
    intro c hc
    induction c with
    | zero => omega
    | succ c ih =>
      rw [List.range_succ, List.map_append, List.foldl_append]
      simp only [List.map_cons, List.map_nil, List.foldl_cons, List.foldl_nil]
      rw [tab1_tabM]
      show tabM _ r.b ((r.v + c * r.u) / 2097152) = _
      rcases Nat.eq_zero_or_pos c with h0 | h0
      · subst h0
        simp only [List.range_zero, List.map_nil, List.foldl_nil, Nat.zero_mul, Nat.add_zero]
        rw [show 0 + 1 - 1 = 0 by omega, Nat.zero_mul]
        simp only [Nat.add_zero, Nat.sub_self]
        rfl
      · rw [ih h0, Nat.add_sub_cancel]
        obtain ⟨d, hd⟩ : ∃ d, d = (r.v + (c - 1) * r.u) / 2097152 - r.v / 2097152 := ⟨_, rfl⟩
        have hm : (c - 1) * r.u + r.u = c * r.u := by rw [← Nat.succ_mul]; congr 1; omega
        have hd2 : r.v / 2097152 + d = (r.v + (c - 1) * r.u) / 2097152 := by omega
        rw [← hd]
        have hlast : ∀ k, unF (stepsR r.b (r.v / 2097152) (k + 1)) l = tabM (unF (stepsR r.b (r.v / 2097152) k) l) r.b (r.v / 2097152 + k) := by
          intro k; rw [stepsR_snoc, unF_app]; rfl
        by_cases he : (r.v + c * r.u) / 2097152 = (r.v + (c - 1) * r.u) / 2097152
        · rw [he, ← hd2, hlast d, tabM_idem, show r.v / 2097152 + d - r.v / 2097152 = d by omega, hlast d]
        · have hn : (r.v + c * r.u) / 2097152 = r.v / 2097152 + d + 1 := by
            have : r.u ≤ 2097152 := by rcases r.u_or with h | h <;> omega
            omega
          rw [hn, show r.v / 2097152 + d + 1 - r.v / 2097152 + 1 = d + 1 + 1 by omega, hlast (d + 1)]
          congr 1
  have := key r.cnt hp
  unfold Lf.steps Lf.pages
  rw [this]
  congr 2
  have hm : (r.cnt - 1) * r.u + r.u = r.cnt * r.u := by rw [← Nat.succ_mul]; congr 1; omega
  unfold Lf.win
  rcases r.u_or with h | h
  · rw [h] at hm hu hva ⊢
    omega
  · rw [h] at hm hu hva ⊢
    omega
theorem tabs_steps {rows : List Lf} (h : ∀ r ∈ rows, r.Ok) : tabs (pagesOf rows) = unF (stepsOf rows) [(0, 0)] := by
  have aux : ∀ (rows : List Lf) (l : List Lab), (∀ r ∈ rows, r.Ok) → (pagesOf rows).foldl tab1 l = unF (stepsOf rows) l := by
    intro rows
    induction rows with
    | nil =>
      intro l _
      unfold pagesOf stepsOf unF
      simp only [List.flatMap_nil, List.foldl_nil]
    | cons r rs ih =>
      intro l h
      have e1 : pagesOf (r :: rs) = r.pages ++ pagesOf rs := by unfold pagesOf; rw [List.flatMap_cons]
      have e2 : stepsOf (r :: rs) = r.steps ++ stepsOf rs := by unfold stepsOf; rw [List.flatMap_cons]
      rw [e1, e2, List.foldl_append, unF_app, row_tabs (h r (by simp)), ih _ fun x hx => h x (by simp [hx])]
  unfold tabs
  exact aux rows _ h
theorem tabs_mono (a b : List Pge) : (tabs a).length ≤ (tabs (a ++ b)).length := by
  induction b generalizing a with
  | nil => simp
  | cons q r ih =>
    have h1 := ih (a ++ [q])
    rw [List.append_assoc] at h1
    refine Nat.le_trans ?_ h1
    rw [tabs_snoc]
    obtain ⟨m, hm⟩ := tab1_pre (tabs a) q
    rw [hm, List.length_append]
    omega
/-- the builder runs out of tables where too many are wanted -/
theorem runP_none {base : Nat} : ∀ (qs ps : List Pge) (s : St), Known base ps s → Chain (ps ++ qs) → s.all.length ≤ 1024 → (runP base s qs = none ↔ 1024 < (tabs (ps ++ qs)).length)
  | [], ps, s, h, hc, hl => by
    have := h.rep.len
    simp only [List.append_nil]
    unfold runP
    constructor
    · intro h; cases h
    · intro h; omega
  | q :: r, ps, s, h, hc, hl => by
    rw [runP_cons]
    have hc' : Chain ((ps ++ [q]) ++ r) := by simpa using hc
    have hc1 : Chain (ps ++ [q]) := ⟨(List.pairwise_append.1 hc'.1).1, fun x hx => hc'.2 x (List.mem_append.2 (.inl hx))⟩
    have hk := h.step hc1
    have hlen := hk.rep.len
    have hmono := tabs_mono (ps ++ [q]) r
    rw [List.append_assoc] at hmono
    by_cases hgt : 1024 < (step base s q).all.length
    · rw [if_pos hgt]
      refine ⟨fun _ => ?_, fun _ => rfl⟩
      have : [q] ++ r = q :: r := rfl
      rw [this] at hmono
      omega
    · rw [if_neg hgt]
      have := runP_none r (ps ++ [q]) _ hk hc' (by omega)
      simpa using this
/-- the tables that the document tells -/
def refT (rows : List Lf) : List Lab := capF (stepsOf rows) [(0, 0)]
theorem refT_len {rows : List Lf} (h : right 0 rows = 0) (base : Nat) : (1024 < (refT rows).length ↔ runP base init (pagesOf rows) = none) ∧ ((refT rows).length ≤ 1024 → refT rows = tabs (pagesOf rows)) := by
  have hok := right_all h
  have hc := (right_pages rows 0 h).1
  have ht := tabs_steps hok
  have hn := runP_none (base := base) (pagesOf rows) [] init (known_init base) (by simpa using hc) (by decide)
  rw [List.nil_append, ht] at hn
  unfold refT
  rw [ht]
  by_cases hg : 1024 < (unF (stepsOf rows) [(0, 0)]).length
  · have := cap_gt _ _ hg
    exact ⟨⟨fun _ => hn.2 hg, fun _ => this⟩, fun h => by omega⟩
  · have := cap_le (stepsOf rows) [(0, 0)] (by omega)
    rw [this]
    exact ⟨⟨fun h => absurd h hg, fun h => absurd (hn.1 h) hg⟩, fun _ => rfl⟩
/-- what the document's Count tells -/
def refC (rows : List Lf) : Nat × Nat := if right 0 rows ≠ 0 then (0, right 0 rows) else if 1024 < (refT rows).length then (0, 4) else ((refT rows).length, 0)
theorem refC_ans (rows : List Lf) (base : Nat) : refC rows = ((ans rows base).1.length, (ans rows base).2) := by
  obtain ⟨h1, h2⟩ : (right 0 rows = 0 → (1024 < (refT rows).length ↔ runP base init (pagesOf rows) = none)) ∧ (right 0 rows = 0 → (refT rows).length ≤ 1024 → refT rows = tabs (pagesOf rows)) := ⟨fun h => (refT_len h base).1, fun h => (refT_len h base).2⟩
  by_cases h : right 0 rows = 0
  · have e0 : refC rows = if 1024 < (refT rows).length then (0, 4) else ((refT rows).length, 0) := by unfold refC; rw [if_neg (by simp [h])]
    have en : runP base init (pagesOf rows) = none → ans rows base = ([], 4) := fun hr => by unfold ans; rw [if_neg (by simp [h]), hr]
    have es : ∀ s, runP base init (pagesOf rows) = some s → ans rows base = (s.all, 0) := fun s hr => by unfold ans; rw [if_neg (by simp [h]), hr]
    rw [e0]
    by_cases hg : 1024 < (refT rows).length
    · rw [if_pos hg, en ((h1 h).1 hg)]; rfl
    · have hg2 : (refT rows).length ≤ 1024 := Nat.le_of_not_lt hg
      rw [if_neg hg]
      cases hr : runP base init (pagesOf rows) with
      | none => exact absurd ((h1 h).2 hr) hg
      | some s =>
        have hc := (right_pages rows 0 h).1
        have hk := runP_known (pagesOf rows) [] init s (known_init base) (by simpa using hc) hr
        rw [List.nil_append] at hk
        rw [h2 h hg2, es s hr]
        show _ = (s.all.length, 0)
        rw [hk.rep.len]
  · have e0 : refC rows = (0, right 0 rows) := by unfold refC; rw [if_pos (by simpa using h)]
    have e1 : ans rows base = ([], right 0 rows) := by unfold ans; rw [if_pos (by simpa using h)]
    rw [e0, e1]; rfl
end Pg
end Go.Proofs.Ytblfagmoilhdnaa
