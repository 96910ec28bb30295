/- The shelf's contract of slices.SortFunc, at a list of spans of one's own. -/
import Derived.Test.YtchajbegjajlkaaSpY64
import Derived.Shelf.SlSortCmp.WholeK
import Derived.Shelf.Lay
import Derived.Ground.SlsfProg
set_option linter.unusedVariables false
set_option linter.unusedSimpArgs false
namespace Go.Proofs.Ytchajbegjajlkaa
open Go.RowKit
namespace S64
/-- what the closure of Of tells of two spans -/
def cmpF (x y : Nat × Nat) : Int := if x.1 < y.1 then -1 else if y.1 < x.1 then 1 else 0
theorem cmpF_lt (x y : Nat × Nat) : ltOf cmpF x y = decide (x.1 < y.1) := by
  unfold ltOf cmpF
  by_cases h1 : x.1 < y.1
  · simp [h1]
  · by_cases h2 : y.1 < x.1 <;> simp [h1, h2]
theorem cmpF_swo : Go.Sort.SWO (ltOf cmpF) where
  irrefl x := by rw [cmpF_lt]; simp
  trans x y z h1 h2 := by rw [cmpF_lt] at *; simp at *; omega
  ntrans x y z h1 h2 := by rw [cmpF_lt] at *; simp at *; omega
theorem flat_flatK (s : Sp.S) : (Go.Sort.flatK scell 2 s.toArray).toList = (s.map scell).flatten := by
  have hl := flat_len (s := 2) _ (scell_len s)
  rw [List.length_map] at hl
  refine List.ext_getElem? fun i => ?_
  by_cases hi : i < 2 * s.length
  · have hj : i / 2 < s.length := by omega
    have h1 : (s.map scell).flatten[i]? = (scell s[i / 2])[i % 2]? := by
      have h := flat_cell (s := 2) _ (scell_len s) (i / 2) (i % 2) (scell s[i / 2]) (by simp [hj]) (by omega)
      rw [← h]
      congr 1
      omega
    have hm : i % 2 < (scell s[i / 2]).length := by show i % 2 < 2; omega
    rw [h1, Array.getElem?_toList]
    simp only [Go.Sort.flatK, Array.getElem?_map]
    rw [Array.getElem?_eq_getElem (by simp; omega)]
    simp only [Option.map_some, Array.getElem_range, List.getElem!_toArray]
    rw [getElem!_pos s (i / 2) hj, getElem!_pos (scell s[i / 2]) (i % 2) hm, List.getElem?_eq_getElem hm]
  · rw [List.getElem?_eq_none (by simp; omega), List.getElem?_eq_none (by omega)]
theorem take_putCellsK (cur F : Array Value) (h : F.size ≤ cur.size) : (Go.Sort.putCells id 0 F cur).toList.take F.size = F.toList := by
  refine List.ext_getElem? fun j => ?_
  by_cases hj : j < F.size
  · rw [List.getElem?_take_of_lt hj, Array.getElem?_toList]
    simp [Go.Sort.putCells, hj, show j < cur.size by omega]
  · rw [List.getElem?_take_eq_none (by omega), List.getElem?_eq_none (by simp; omega)]
theorem sorted_block {w : World} {g : Nat} {fr : Nat × Nat} {e : TypeId} {cur : Array Value} (h : w.heap[g]? = some (.cells cur e fr)) (m : Nat) (d : Array (Nat × Nat)) (os : Array Obj) :
    (sortWorldK scell 2 w g 0 m d os).heap[g]? = some (.cells (Go.Sort.putCells id 0 (Go.Sort.flatK scell 2 d) cur) e fr) := by
  have hg : g < w.heap.size := (Array.getElem?_eq_some_iff.1 h).1
  unfold sortWorldK Go.Sort.grow Go.Sort.putRowK Go.Sort.putRow Go.Sort.mapBlock Go.Sort.ahead
  simp only
  rw [Array.getElem?_append_left (by simpa using hg), Array.getElem?_modify, if_pos rfl, h]
  rfl
theorem sorted_chg (w : World) (g m : Nat) (d : Array (Nat × Nat)) (os : Array Obj) : Chg [g] w (sortWorldK scell 2 w g 0 m d os) := by
  unfold sortWorldK Go.Sort.grow Go.Sort.putRowK Go.Sort.putRow Go.Sort.mapBlock Go.Sort.ahead
  refine ⟨rfl, rfl, rfl, by simp, fun k hk hne => ?_⟩
  simp only
  rw [Array.getElem?_append_left (by simpa using hk), Array.getElem?_modify, if_neg (by simpa using fun e : g = k => hne (by simp [e]))]
theorem sorted_own {w : World} {B n c g : Nat} {s s' : Sp.S} (h : OwnS w B (some ⟨g, 0, none⟩) n c s) (hl : s'.length = s.length) (m : Nat) (os : Array Obj) :
    OwnS (sortWorldK scell 2 w g 0 m s'.toArray os) B (some ⟨g, 0, none⟩) n c s' := by
  obtain ⟨⟨hx, h1⟩, hn⟩ := h
  rcases h1 with ⟨h1, _⟩ | ⟨g', cap, cur, e, hB, hh, hc, hm, hs, ht⟩
  · cases h1
  · cases e
    have hfl := flat_len (s := 2) _ (scell_len s')
    rw [List.length_map] at hfl
    have hfs : (Go.Sort.flatK scell 2 s'.toArray).size = n * 2 := by rw [Go.Sort.size_flatK]; simp [hl, hn]
    refine ⟨⟨by rw [hfl]; omega, .inr ⟨g, c, _, rfl, hB, sorted_block hh m _ os, hc, hm, by simp [Go.Sort.putCells, hs], ?_⟩⟩, by omega⟩
    rw [← flat_flatK, ← hfs]
    exact take_putCellsK _ _ (by rw [hfs, hs]; exact Nat.mul_le_mul_right 2 hc)
theorem own_holds {w : World} {B n c g : Nat} {s : Sp.S} (h : OwnS w B (some ⟨g, 0, none⟩) n c s) : Go.Sort.HoldsK scell 2 w g 0 s.toArray := by
  intro j hj
  rw [Go.Sort.size_flatK] at hj
  have hj2 : j < s.length * 2 := by simpa using hj
  have hfl := flat_len (s := 2) _ (scell_len s)
  rw [List.length_map] at hfl
  refine ⟨?_, h.1.frozenAt _⟩
  rw [Nat.zero_add, h.1.cellAt j (by have := h.2; omega), ← flat_flatK]
  have hz : j < (Go.Sort.flatK scell 2 s.toArray).size := by rw [Go.Sort.size_flatK]; simpa using hj2
  rw [getElem!_pos _ j hz, Array.getElem?_toList, Array.getElem?_eq_getElem hz]
  rfl
theorem perm_list {s : Sp.S} {d' : Array (Nat × Nat)} (h : Go.Sort.PermIn 0 s.toArray.size s.toArray d') (hs : Go.Sort.SortedIn (ltOf cmpF) 0 s.toArray.size d') : d'.toList.Perm s ∧ d'.toList.Pairwise (fun a b => a.1 ≤ b.1) := by
  obtain ⟨h1, _, h3⟩ := h
  have hsz : d'.size = s.length := by simpa using h1
  constructor
  · have e1 : (d'.extract 0 s.toArray.size).toList = d'.toList := by rw [← h1]; simp
    have e2 : (s.toArray.extract 0 s.toArray.size).toList = s := by simp
    rw [e1, e2] at h3
    exact h3
  · rw [List.pairwise_iff_getElem]
    intro i j hi hj hij
    have hi2 : i < d'.size := by simpa using hi
    have hj2 : j < d'.size := by simpa using hj
    have := hs i j (Nat.zero_le _) hij (by simp; omega)
    rw [cmpF_lt, getElem!_pos d' i hi2, getElem!_pos d' j hj2] at this
    have h5 := of_decide_eq_false this
    simp only [Array.getElem_toList]
    omega
set_option maxRecDepth 100000 in
set_option maxHeartbeats 1000000 in
theorem cmp_any (x y : Nat × Nat) (W : World) : Calls Try.prog 50 #[.agg (scell x).toArray, .agg (scell y).toArray] W fun e w' => e = .returned (.int .i64 (cmpF x y)) ∧ ∃ q os', w' = Go.Sort.grow (W.drewN q) os' := by
  obtain ⟨a, b⟩ := x
  obtain ⟨c, d⟩ := y
  obtain ⟨R, hR⟩ : ∃ R, R = cmpF (a, b) (c, d) := ⟨_, rfl⟩
  rw [← hR]
  unfold scell
  simp only []
  by_cases h1 : a < c
  · have f1 : decide (a < c) = true := decide_eq_true h1
    obtain rfl : R = -1 := by rw [hR]; unfold cmpF; rw [if_pos h1]
    clear hR h1
    go_enter Try.func50, Try.ntmps50
    go_wp2_with fail
    go_ret
    exact ⟨rfl, 0, _, by rw [Go.Sort.alloc_eq_grow, Go.Sort.alloc_eq_grow, Go.Sort.grow_grow]; rfl⟩
  · have f1 : decide (a < c) = false := decide_eq_false h1
    by_cases h2 : c < a
    · have f2 : decide (c < a) = true := decide_eq_true h2
      obtain rfl : R = 1 := by rw [hR]; unfold cmpF; rw [if_neg h1, if_pos h2]
      clear hR h1 h2
      go_enter Try.func50, Try.ntmps50
      go_wp2_with fail
      go_ret
      exact ⟨rfl, 0, _, by rw [Go.Sort.alloc_eq_grow, Go.Sort.alloc_eq_grow, Go.Sort.grow_grow]; rfl⟩
    · have f2 : decide (c < a) = false := decide_eq_false h2
      obtain rfl : R = 0 := by rw [hR]; unfold cmpF; rw [if_neg h1, if_neg h2]
      clear hR h1 h2
      go_enter Try.func50, Try.ntmps50
      go_wp2_with fail
      go_ret
      exact ⟨rfl, 0, _, by rw [Go.Sort.alloc_eq_grow, Go.Sort.alloc_eq_grow, Go.Sort.grow_grow]; rfl⟩
theorem cmp_lays (g n m : Nat) (w : World) : CmpLays Try.prog 50 #[] scell 2 cmpF g n m w := fun _ _ _ _ x y => cmp_any x y _
end S64
shelf_lay_g SlLaysF0.n6 Slsf 6 at Try 49 as S64.sortL
namespace S64
set_option maxRecDepth 100000 in
set_option maxHeartbeats 1000000 in
theorem sort_own (A : Option Addr) (n c B : Nat) (s : Sp.S) (w : World) (ho : OwnS w B A n c s) (hn : n ≤ 4398046511104) : Calls Try.prog 49 #[.slice A n c, .func (.func 50) #[] #[]] w fun e w' => e = .returned (.tuple #[]) ∧ ∃ s', s'.Perm s ∧ s'.Pairwise (fun a b => a.1 ≤ b.1) ∧ OwnS w' B A n c s' ∧ Chg (Value.slice A n c).ownBlock.toList w w' := by
  rcases Nat.lt_or_ge 0 n with h0 | h0
  · obtain ⟨g, rfl, hB, hg, _, _⟩ := own_somer ho.1 h0
    have eg : ∀ args w, (callFunc 50 args).run Try.prog w = .ok (.enter 50 args) w := enters_of Try.func50 (by kernel_rfl) rfl
    have hsz : s.toArray.size = n := by simp [ho.2]
    have h := AnyQ.slices_SortFunc sortL 2 Try.isAgg35 Try.sizeOf35 scell (fun _ => rfl) (fun x v hv => by simp [scell] at hv; rcases hv with rfl | rfl <;> rfl) cmpF cmpF_swo 50 #[] g 0 c s.toArray w eg (cmp_lays g 0 _ w) (own_holds ho) hg (by rw [hsz]; omega)
    change Calls Try.prog 49 _ _ _ at h
    rw [hsz] at h
    refine h.mono fun e w' hh => ?_
    obtain ⟨he, d', m, os, hp, hs, rfl⟩ := hh
    rw [← hsz] at hp hs
    obtain ⟨p1, p2⟩ := perm_list hp hs
    refine ⟨he, d'.toList, p1, p2, ?_, sorted_chg w g m d' os⟩
    have := sorted_own (s' := d'.toList) ho (by simpa using p1.length_eq) m os
    simpa using this
  · obtain rfl : n = 0 := by omega
    have hs0 : s = [] := List.length_eq_zero_iff.1 ho.2
    refine (sort_small A 0 c w (by omega)).mono fun e w' hh => ?_
    obtain ⟨he, rfl⟩ := hh
    exact ⟨he, s, List.Perm.refl _, by rw [hs0]; exact List.Pairwise.nil, ho, Chg.refl _ _⟩
end S64
end Go.Proofs.Ytchajbegjajlkaa
