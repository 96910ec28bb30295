/- The walk of the law's tree: the tables are named once each, in pre-order. -/
import Derived.Test.YtblfagmoilhdnaaPgU
import Derived.Test.YtblfagmoilhdnaaEntry
set_option linter.unusedVariables false
set_option linter.unusedSimpArgs false
namespace Go.Proofs.Ytblfagmoilhdnaa
open Go.RowKit

namespace Pg
theorem at_idx {L : List Lab} {t : Lab} (h : t ∈ L) : L[L.idxOf t]? = some t := by
  have hl := List.idxOf_lt_length_of_mem h
  rw [List.getElem?_eq_getElem hl, List.getElem_idxOf]
theorem ahead_le (L : List Lab) (k : Nat) : ahead L k ≤ L.length := List.countP_le_length
theorem say_ptr {base n lv : Nat} (hb : base % 4096 = 0) (hf : base + n * 4096 < 4294967296) (hl : lv < 2) : ptr base n = base + n * 4096 + 1 ∧ Ent.say (base + n * 4096 + 1) lv = (⟨base + n * 4096, true, false, false, false⟩, 0) := by
  refine ⟨by unfold ptr; omega, ?_⟩
  have h := say_add (F := base + n * 4096) (by omega) hf lv false false false (by unfold Ent.wrong; simp)
  simpa [hl] using h
theorem say_bigp {q : Pge} (hq : q.Ok) (hb : q.b = true) : Ent.say q.num 1 = (⟨q.p, false, true, q.w, q.x⟩, 0) := by
  have hu : q.u = 2097152 := by rcases q.u_or with ⟨h, _⟩ | ⟨_, h⟩; exact h; rw [hb] at h; cases h
  have h1 := hq.pa; have h2 := hq.pl
  rw [hu] at h1 h2
  have h := say_add (F := q.p) (by omega) (by omega) 1 q.b q.w q.x (by unfold Ent.wrong; rw [hb]; simp; omega)
  rw [hb] at h
  unfold Pge.num
  rw [hb]
  simpa using h
theorem pageAt_some {qs : List Pge} {b : Bool} {k : Nat} : pageAt qs b k = 0 ∨ ∃ q ∈ qs, q.b = b ∧ q.v / bu b = k ∧ pageAt qs b k = q.num := by
  unfold pageAt
  cases hf : qs.find? (fun q => q.b == b && q.v / bu b == k) with
  | none => exact .inl rfl
  | some q =>
    have h1 := List.mem_of_find?_eq_some hf
    have h2 := List.find?_some hf
    simp at h2
    exact .inr ⟨q, h1, h2.1, h2.2, rfl⟩
end Pg
/-- an entry's value, seen -/
theorem HasT.cell_at {w : World} {A : Option Addr} {l : List (List Nat)} (h : HasT w A l) {t e : Nat} (ht : t < l.length) (he : e < 512) : ∃ g, A = some ⟨g, 0, none⟩ ∧ g < w.heap.size ∧ w.cell? ⟨g, t * 512 + e, none⟩ = some (.int .u64 (Pg.cell l t e : Nat)) ∧ Pg.cell l t e < 18446744073709551616 := by
  obtain ⟨g, rfl, hg, hc⟩ := h.2.2 (by omega)
  have hm : l.getD t [] ∈ l := by simp [List.getD_eq_getElem?_getD, ht]
  obtain ⟨hl, hx⟩ := h.1 _ hm
  have he' : e < (l.getD t []).length := by omega
  have h1 : (l.getD t [])[e]? = some (Pg.cell l t e) := by
    unfold Pg.cell
    rw [List.getD_eq_getElem?_getD (l := l.getD t []), List.getElem?_eq_getElem he']; rfl
  refine ⟨g, rfl, hg, hc t ht e _ (by rw [List.getElem?_map, h1]; rfl), hx _ (List.mem_of_getElem? h1)⟩
theorem entry_say (e lv : Nat) (W : World) (F : Nat) (t b v x : Bool) (n : Nat) (he : e < 18446744073709551616) (hl : lv < 3) (hs : Ent.say e lv = (⟨F, t, b, v, x⟩, n)) :
    Calls Try.prog 54 #[.int .u64 (e : Nat), .int .i64 (lv : Nat)] W fun en w' => en = .returned (.tuple #[.agg #[.int .u64 (F : Nat), .bool t, .bool b, .bool v, .bool x], .int .i64 (n : Nat)]) ∧ Below W.heap.size W w' := by
  have h := entry_any e lv W he hl
  rw [hs] at h
  exact h
set_option maxRecDepth 100000 in
set_option maxHeartbeats 1000000 in
theorem tree_yes (A : Option Addr) (n c base : Nat) (l : List (List Nat)) (qs : List Pg.Pge) (w : World) (hl : HasT w A l) (hn : n = l.length) (hc : Pg.Chain qs) (hrep : Pg.Rep base (Pg.tabs qs) qs l) (hb : base % 4096 = 0) (hfit : base + l.length * 4096 ≤ 4294967296) :
    Calls Try.prog 31 #[.slice A n c, .int .u64 (base : Nat)] w fun e w' => e = .returned (.bool true) ∧ Below w.heap.size w w' := by
  obtain ⟨L, hL⟩ : ∃ L, L = Pg.tabs qs := ⟨_, rfl⟩
  have hlen := hrep.len
  have h0 := (List.getElem?_eq_some_iff.1 (Pg.good_tabs qs).root).1
  rw [← hL] at hrep hlen h0
  have hA := hl.cell_at (t := 0) (e := 0) (by omega) (by omega)
  obtain ⟨g, rfl, hg, _⟩ := hA
  have HL := Lib.hid hL; have HN := Lib.hid hn; have HC := Lib.hid hc; have HREP := Lib.hid hrep; have HT := Lib.hid hl; have HLEN := Lib.hid hlen
  have HB4 := Lib.hid hb
  rw [← hn] at hfit
  have hn0 : 0 < n := by omega
  have hn1 : n ≤ 1048576 := by omega
  clear hL hn hc hrep hl hlen h0 hb
  go_enter Try.func31, Try.ntmps31
  go_wp2_with fail
  go_loopw [5, 6] (fun x i wr => ∃ j nx : Nat, j ≤ 512 ∧ i = .int .i64 j ∧ x = .int .i64 nx ∧ nx ≤ n ∧ Hid (nx = Pg.ahead L (2048 * j + 1)) ∧ Hid (Below w.heap.size w wr)) (fun _ i _ => 512 - (intOf i).toNat)
  case atStart => exact ⟨0, 1, by omega, rfl, rfl, by omega, Lib.hid (by rw [HL.out]; exact Pg.ahead_root.symm), Lib.hid (Below.refl _ _)⟩
  case round =>
    obtain ⟨j, nx, hj, rfl, rfl, hnx, HNX, HB⟩ := hrel
    by_cases hj5 : j < 512
    · obtain ⟨X, hX⟩ : ∃ X, X = Pg.cell l 0 j := ⟨_, rfl⟩
      obtain ⟨_, hga, _, hcell, hx64⟩ := HT.out.cell_at (t := 0) (e := j) (by rw [← HN.out]; omega) hj5
      cases hga
      rw [← hX, Nat.zero_mul, Nat.zero_add] at hcell
      rw [← hX] at hx64
      have hcr := (HB.out.cell (p := ⟨g, j, none⟩) hg).trans hcell
      have hent : X = Pg.entry base L qs (0, 0) j := by
        rw [hX]
        exact HREP.out.ent 0 (0, 0) (by rw [HL.out]; exact (Pg.good_tabs qs).root) j hj5
      have hjl : (j : Int) < 512 := by omega
      have hj0 : (0 : Int) ≤ (j : Int) := by omega
      have hgr : g < wr.heap.size := Nat.lt_of_lt_of_le hg HB.out.size
      have hn0i : (0 : Int) < (n : Int) := by omega
      clear hcell
      by_cases hm : (1, j) ∈ L
      · -- a table
        have hyes := Pg.ahead_mid_yes HC.out (j := j) (by rw [← HL.out]; exact hm)
        rw [← HL.out, ← HNX.out] at hyes
        have hnl : nx < n := by rw [← hyes.1, HN.out, HLEN.out]; exact List.idxOf_lt_length_of_mem hm
        have hsp := Pg.say_ptr (base := base) (n := nx) (lv := 0) HB4.out (by omega) (by decide)
        have hxe : X = base + nx * 4096 + 1 := by
          rw [hent]
          unfold Pg.entry
          rw [if_pos rfl, if_pos hm, hyes.1, hsp.1]
        have hmid : L[nx]? = some (1, j) := by rw [← hyes.1]; exact Pg.at_idx hm
        have HMID := Lib.hid hmid
        have HYES := Lib.hid hyes.2
        obtain ⟨F, hF⟩ : ∃ F, F = base + nx * 4096 := ⟨_, rfl⟩
        have hen := entry_say X 0 wr F true false false false 0 hx64 (by decide) (by rw [hxe, hsp.2, hF])
        have e1 : IntKind.u64.wrap (nx : Int) = (nx : Int) := by rw [IntKind.wrap_u64]; omega
        have e2 : (nx : Int) * 4096 % 18446744073709551616 = (nx : Int) * 4096 := by omega
        have e3 : IntKind.u64.wrap ((nx : Int) * 4096) = (nx : Int) * 4096 := by rw [IntKind.wrap_u64]; omega
        have e4 : ((base : Int) + (nx : Int) * 4096) % 18446744073709551616 = (F : Int) := by omega
        have e5 : IntKind.u64.wrap ((base : Int) + (nx : Int) * 4096) = (F : Int) := by rw [IntKind.wrap_u64]; omega
        have e6 : (base : Int) + (nx : Int) * 4096 = (F : Int) := by omega
        have e7 : decide (n ≤ nx) = false := decide_eq_false (by omega)
        have HEN := Lib.hid hen
        clear hX hent hm hyes hsp hxe hmid hF hen HNX
        go_wp2_with fail
        refine HEN.out.mono ?_
        rintro e w2 ⟨rfl, hb2⟩
        have hcr2 := (hb2.cell (p := ⟨g, j, none⟩) hgr).trans hcr
        have HB2 := Lib.hid (HB.out.trans (hb2.mono HB.out.size))
        have hgr2 := Nat.lt_of_lt_of_le hgr hb2.size
        clear hb2 hcr hgr HB HEN
        go_wp2_with fail
        have HB3 : Hid (Below w.heap.size w (w2.alloc (.cells #[.int .u64 (F : Nat), .bool true, .bool false, .bool false, .bool false] 100))) := Lib.hid (HB2.out.alloc HB2.out.size _)
        generalize w2.alloc (.cells #[.int .u64 (F : Nat), .bool true, .bool false, .bool false, .bool false] 100) = w3 at *
        clear hcr2 HB2 hgr2 hx64 e1 e2 e3 e4 e5 e6 e7
        go_loopw [5, 10] (fun x i wr => ∃ k ny : Nat, k ≤ 512 ∧ i = .int .i64 k ∧ x = .int .i64 ny ∧ ny ≤ n ∧ Hid (ny = Pg.ahead L (2048 * j + 2 + k)) ∧ Hid (Below w.heap.size w wr)) (fun _ i _ => 512 - (intOf i).toNat)
        case atStart => exact ⟨0, nx + 1, by omega, rfl, by go_num, by omega, Lib.hid HYES.out.symm, HB3⟩
        case round =>
          clear HB3 HYES
          obtain ⟨k, ny, hk, rfl, rfl, hny, HNY, HB⟩ := hrel
          have hnxi : (nx : Int) < (n : Int) := by omega
          have hnx0 : (0 : Int) ≤ (nx : Int) := by omega
          by_cases hk5 : k < 512
          · obtain ⟨X, hX⟩ : ∃ X, X = Pg.cell l nx k := ⟨_, rfl⟩
            obtain ⟨_, hga, _, hcell, hx64⟩ := HT.out.cell_at (t := nx) (e := k) (by rw [← HN.out]; omega) hk5
            cases hga
            rw [← hX] at hx64 hcell
            have hcr := (HB.out.cell (p := ⟨g, nx * 512 + k, none⟩) hg).trans hcell
            have hent : X = Pg.entry base L qs (1, j) k := by
              rw [hX]
              exact HREP.out.ent nx (1, j) HMID.out k hk5
            have hkl : (k : Int) < 512 := by omega
            have hk0 : (0 : Int) ≤ (k : Int) := by omega
            have hgr : g < wr.heap.size := Nat.lt_of_lt_of_le hg HB.out.size
            clear hcell
            by_cases hm : (2, j * 512 + k) ∈ L
            · have hyes := Pg.ahead_low_yes HC.out (j := j) (k := k) hk5 (by rw [← HL.out]; exact hm)
              rw [← HL.out, ← HNY.out] at hyes
              have hnl : ny < n := by rw [← hyes.1, HN.out, HLEN.out]; exact List.idxOf_lt_length_of_mem hm
              have hsp := Pg.say_ptr (base := base) (n := ny) (lv := 1) HB4.out (by omega) (by decide)
              have hxe : X = base + ny * 4096 + 1 := by
                rw [hent]
                unfold Pg.entry
                rw [if_neg (by simp), if_pos rfl, if_pos hm, hyes.1, hsp.1]
              have HYES := Lib.hid hyes.2
              obtain ⟨G, hG⟩ : ∃ F, F = base + ny * 4096 := ⟨_, rfl⟩
              have hen := entry_say X 1 wr G true false false false 0 hx64 (by decide) (by rw [hxe, hsp.2, hG])
              have e1 : IntKind.u64.wrap (ny : Int) = (ny : Int) := by rw [IntKind.wrap_u64]; omega
              have e2 : (ny : Int) * 4096 % 18446744073709551616 = (ny : Int) * 4096 := by omega
              have e3 : IntKind.u64.wrap ((ny : Int) * 4096) = (ny : Int) * 4096 := by rw [IntKind.wrap_u64]; omega
              have e4 : ((base : Int) + (ny : Int) * 4096) % 18446744073709551616 = (G : Int) := by omega
              have e5 : IntKind.u64.wrap ((base : Int) + (ny : Int) * 4096) = (G : Int) := by rw [IntKind.wrap_u64]; omega
              have e6 : (base : Int) + (ny : Int) * 4096 = (G : Int) := by omega
              have e7 : decide (n ≤ ny) = false := decide_eq_false (by omega)
              have HEN := Lib.hid hen
              clear hX hent hm hyes hsp hxe hG hen HNY
              go_wp2_with fail
              refine HEN.out.mono ?_
              rintro e w4 ⟨rfl, hb4⟩
              have hcr2 := (hb4.cell (p := ⟨g, nx * 512 + k, none⟩) hgr).trans hcr
              have HB2 := Lib.hid (HB.out.trans (hb4.mono HB.out.size))
              have hgr2 := Nat.lt_of_lt_of_le hgr hb4.size
              clear hb4 hcr hgr HB HEN
              go_wp2_with fail
              go_roundw
              case rel => exact ⟨k + 1, ny + 1, by omega, by go_num, by go_num, by omega, Lib.hid HYES.out.symm, Lib.hid (HB2.out.alloc HB2.out.size _)⟩
              case measure => simp [intOf]; omega
            · have hno := Pg.ahead_low_no HC.out (j := j) (k := k) hk5 (by rw [← HL.out]; exact hm)
              rw [← HL.out, ← HNY.out] at hno
              have HNO := Lib.hid hno
              have hxe : X = Pg.pageAt qs true (j * 512 + k) := by
                rw [hent]
                unfold Pg.entry
                rw [if_neg (by simp), if_pos rfl, if_neg hm]
              rcases Pg.pageAt_some (qs := qs) (b := true) (k := j * 512 + k) with hp | ⟨q, hq, hqb, _, hp⟩
              · rw [hp] at hxe
                have hen := entry_say 0 1 wr 0 false false false false 41 (by decide) (by decide) rfl
                have HEN := Lib.hid hen
                rw [hxe] at hcr
                clear hX hent hm hxe hno hen HNY hx64 hp
                go_wp2_with fail
                refine HEN.out.mono ?_
                rintro e w4 ⟨rfl, hb4⟩
                have hcr2 := (hb4.cell (p := ⟨g, nx * 512 + k, none⟩) hgr).trans hcr
                have HB2 := Lib.hid (HB.out.trans (hb4.mono HB.out.size))
                have hgr2 := Nat.lt_of_lt_of_le hgr hb4.size
                clear hb4 hcr hgr HB HEN
                go_wp2_with fail
                go_roundw
                case rel => exact ⟨k + 1, ny, by omega, by go_num, rfl, hny, Lib.hid HNO.out.symm, Lib.hid (HB2.out.alloc HB2.out.size _)⟩
                case measure => simp [intOf]; omega
              · have hen := entry_say X 1 wr q.p false true q.w q.x 0 hx64 (by decide) (by rw [hxe, hp]; exact Pg.say_bigp (HC.out.2 q hq) hqb)
                have HEN := Lib.hid hen
                obtain ⟨qv, qp, qb, qw, qx⟩ := q
                clear hX hent hm hxe hno hen HNY hp hq hqb
                go_wp2_with fail
                refine HEN.out.mono ?_
                rintro e w4 ⟨rfl, hb4⟩
                have hcr2 := (hb4.cell (p := ⟨g, nx * 512 + k, none⟩) hgr).trans hcr
                have HB2 := Lib.hid (HB.out.trans (hb4.mono HB.out.size))
                have hgr2 := Nat.lt_of_lt_of_le hgr hb4.size
                clear hb4 hcr hgr HB HEN
                go_wp2_with fail
                go_roundw
                case rel => exact ⟨k + 1, ny, by omega, by go_num, rfl, hny, Lib.hid HNO.out.symm, Lib.hid (HB2.out.alloc HB2.out.size _)⟩
                case measure => simp [intOf]; omega
          · have HK : Hid (k = 512) := Lib.hid (by omega)
            have HNE : Hid (ny = Pg.ahead L (2048 * (j + 1) + 1)) := Lib.hid (by
              rw [HNY.out, HK.out, HL.out]
              exact (Pg.ahead_low_end HC.out j).symm)
            clear HNY
            go_wp2_with fail
            go_roundw
            case rel => exact ⟨j + 1, ny, by omega, by go_num, rfl, hny, HNE, HB⟩
            case measure => simp [intOf]; omega
      · -- nothing
        have hx0 : X = 0 := by
          rw [hent]
          unfold Pg.entry
          rw [if_pos rfl, if_neg hm]
        have hno := Pg.ahead_mid_no HC.out (j := j) (by rw [← HL.out]; exact hm)
        rw [← HL.out, ← HNX.out] at hno
        have HNO := Lib.hid hno
        have hen := entry_say 0 0 wr 0 false false false false 41 (by decide) (by decide) rfl
        have HEN := Lib.hid hen
        rw [hx0] at hcr
        clear hX hent hm hx0 hno hen HNX hx64
        go_wp2_with fail
        refine HEN.out.mono ?_
        rintro e w2 ⟨rfl, hb2⟩
        have hcr2 := (hb2.cell (p := ⟨g, j, none⟩) hgr).trans hcr
        have HB2 := Lib.hid (HB.out.trans (hb2.mono HB.out.size))
        have hgr2 := Nat.lt_of_lt_of_le hgr hb2.size
        clear hb2 hcr hgr HB HEN
        go_wp2_with fail
        go_roundw
        case rel => exact ⟨j + 1, nx, by omega, by go_num, rfl, hnx, Lib.hid HNO.out.symm, Lib.hid (HB2.out.alloc HB2.out.size _)⟩
        case measure => simp [intOf]; omega
    · have HJ : Hid (j = 512) := Lib.hid (by omega)
      have hne : nx = n := by
        rw [HNX.out, HJ.out, HL.out, Pg.ahead_end HC.out, HN.out, HLEN.out, HL.out]
      have hne2 : ((nx : Int) == (n : Int)) = true := by rw [beq_iff_eq]; omega
      have HNE := Lib.hid hne
      clear hne HNX
      go_wp2_with fail
      go_ret
      exact ⟨by first | rfl | (rw [hne2]), HB.out⟩
end Go.Proofs.Ytblfagmoilhdnaa
