/- The walk of numbers[uint8]. -/
import Derived.Test.YtomjmapidjnpbaaGreatNbA
set_option linter.unusedVariables false
set_option linter.unusedSimpArgs false
namespace Go.Proofs.YtomjmapidjnpbaaGreat
open Go.RowKit

theorem own_blk {w : World} {base n c : Nat} {A : Option Addr} {bs : List Nat} (h : Own w base A n c bs) (hn : 0 < n) : ∃ g cur, A = some ⟨g, 0, none⟩ ∧ base ≤ g ∧ g < w.heap.size ∧ Row w g 5 cur ∧ cur.take n = bs.map u8 ∧ n ≤ cur.length := by
  rcases h.1.2 with ⟨_, e⟩ | ⟨g', cap, cur, hv, h1, hh, hnc, _, hsz, hcur⟩
  · have := h.1.1; omega
  · injection hv with hA _ _
    refine ⟨g', cur.toList, hA, (h.1.lt g' (by rw [hA]; rfl)).1, (h.1.lt g' (by rw [hA]; rfl)).2, by unfold Row; simpa using hh, ?_, by simp; omega⟩
    simpa using hcur
theorem own_capn {w : World} {base n c : Nat} {A : Option Addr} {bs : List Nat} (h : Own w base A n c bs) : n ≤ c ∧ c ≤ maxLen := by
  rcases h.1.2 with ⟨hv, h0⟩ | ⟨g, cap, cur, hv, _, _, hnc, hcm, _⟩
  · injection hv with _ _ hc; subst hc h0; exact ⟨by omega, by unfold maxLen; omega⟩
  · injection hv with _ _ hc; subst hc; exact ⟨hnc, hcm⟩
theorem reads_u8n {w : World} {u : Value} {B : Nat} (hB : w.heap.size < B) : Reads (w.alloc (.cells #[u] 5)) B 1 (some ⟨w.heap.size, 0, none⟩) 1 [u] := by
  refine ⟨rfl, fun _ => ⟨_, rfl, hB, fun j x hx => ?_⟩⟩
  have e : (⟨w.heap.size, 0, none⟩ : Addr).add j = ⟨w.heap.size, j, none⟩ := by unfold Addr.add; split <;> simp_all
  rw [e, (Row.new w 5 [u]).cell, hx]
set_option maxRecDepth 100000 in
set_option maxHeartbeats 400000 in
theorem refbytes_n (n size : Nat) (w : World) (hn : n < 18446744073709551616) (hs : size ≤ 8) :
    Calls Tryz.prog 22 #[.int .u64 (n : Nat), .int .i64 (size : Nat)] w fun e w' => (∃ A c, e = .returned (.slice A size c) ∧ Own w' w.heap.size A size c (Wd.le size n)) ∧ Below w.heap.size w w' := by
  obtain ⟨i0, hi0, hz1, hz2, hz3⟩ := info_parts info5w
  have HI := Lib.hid hi0; have HZ1 := Lib.hid hz1; have HZ2 := Lib.hid hz2; have HZ3 := Lib.hid hz3
  clear hi0 hz1 hz2 hz3
  go_enter Tryz.func22, Tryz.ntmps22
  go_wp2_with fail
  go_loopw [5, 6] (fun v i wr => ∃ (j c : Nat) (A : Option Addr), j ≤ size ∧ i = .int .i64 j ∧ v = .slice A j c ∧ Hid (Own wr w.heap.size A j c (Wd.le j n)) ∧ Hid (Below w.heap.size w wr)) (fun _ i _ => size - (intOf i).toNat)
  case atStart => exact ⟨0, 0, none, by omega, rfl, rfl, Lib.hid ⟨World.ownsRow_nil _ _ _ _, by simp [Wd.le], by omega⟩, Lib.hid (Below.refl _ _)⟩
  case round =>
    obtain ⟨j, c, A, hj, rfl, rfl, HO, HB⟩ := hrel
    by_cases hjn : j < size
    · obtain ⟨x, hx⟩ : ∃ x, x = n / 2 ^ (8 * j) % 256 := ⟨_, rfl⟩
      have e1 : IntKind.i64.wrap (8 * (j : Int)) = 8 * (j : Int) := by rw [IntKind.wrap_i64]; omega
      have e2 : ((n : Int) / 2 ^ (8 * j) % 256) = (x : Int) := by rw [hx]; norm_cast
      have HX := Lib.hid hx
      have HE2 := Lib.hid e2
      clear e2
      have hcap := own_capn HO.out
      have hsz := HB.out.size
      clear hx
      go_wp2_with (at_builtin; refine wpList_append_sl _ rfl (.tmp 12) (.tmp 19) _ rfl w.heap.size 5 i0 _ 1 1 Tryz.underlying23 HI.out HZ1.out HZ2.out HZ3.out rfl (by omega) (.slice A j c) j ((Wd.le j n).map Go.Proofs.YtomjmapidjnpbaaGreat.u8) rfl (HO.out.1.alloc _) (wr.heap.size + 1) (some ⟨wr.heap.size, 0, none⟩) 1 1 [.int .u8 ((n : Int) / 2 ^ (8 * j) % 256)] rfl (reads_u8n (by omega)) (by simp [Value.oneCell']) (by unfold maxLen; omega) (by omega) (by simp; omega) ?_; intro A2 c2 w2 hown2 hrd2 hg2 hat2; have HO2 := Lib.hid hown2; have HG2 := Lib.hid hg2; clear hown2 hrd2 hg2 hat2)
      go_roundw
      case rel =>
        refine ⟨j + 1, c2, A2, by omega, by go_num, rfl, Lib.hid ⟨?_, Wd.le_lt _ _, by omega⟩, Lib.hid (((HB.out.alloc HB.out.size _)).grown HG2.out (by simp; omega) (fun k hk => (HO.out.1.lt k hk).1))⟩
        rw [Wd.le_succ, List.map_append]
        have e3 : n / 256 ^ j % 256 = x := by rw [HX.out, Nat.pow_mul]
        rw [e3]
        have := HO2.out
        rw [HE2.out] at this
        exact this
      case measure => simp [intOf]; omega
    · have HJ : Hid (j = size) := Lib.hid (by omega)
      go_wp2_with fail
      go_ret
      refine ⟨⟨A, c, by rw [← HJ.out]; rfl, by have := HO.out; rwa [HJ.out] at this⟩, HB.out⟩
theorem flip_lt5 (bs : List Nat) (h : ∀ b ∈ bs, b < 256) : ∀ b ∈ bs.map (· ^^^ 255), b < 256 := by
  intro b hb
  obtain ⟨x, hx, rfl⟩ := List.mem_map.1 hb
  exact Nat.xor_lt_two_pow (n := 8) (h x hx) (by decide)
/-- behind j rounds the first j bytes are turned over -/
def Fl (wr : World) (g n : Nat) (bs : List Nat) (j : Nat) : Prop := ∃ cur, Row wr g 5 cur ∧ n ≤ cur.length ∧ cur.take n = (stF (· ^^^ 255) bs j).map u8
theorem fl_start {w : World} {g n : Nat} {bs : List Nat} (hl : bs.length = n) (hrow : Row w g 5 (fillM (bs.map u8) (u8 165) 80)) : Fl w g n bs 0 := by
  refine ⟨_, hrow, ?_, ?_⟩
  · rw [fillM_len _ _ _ (by omega)]; simp; omega
  · have := fillM_take (bs.map u8) (u8 165)
    rw [List.length_map, hl, List.drop_zero] at this
    rw [this, stF_zero]
theorem fl_round {wr : World} {g n j : Nat} {bs : List Nat} (hl : bs.length = n) (hj : j < n) (h : Fl wr g n bs j) :
    wr.cell? ⟨g, j, none⟩ = some (.int .u8 (bs.getD j 0 : Nat)) ∧ wr.frozen? ⟨g, j, none⟩ = false ∧ Fl (wr.setCell ⟨g, j, none⟩ (.int .u8 ((bs.getD j 0 ^^^ 255 : Nat) : Int))) g n bs (j + 1) := by
  obtain ⟨cur, hr, hlen, hc⟩ := h
  refine ⟨by rw [hr.cell, cur_get hl hj hc]; rfl, hr.frozen j, _, hr.set_ j _, by simpa using hlen, cur_set (f := (· ^^^ 255)) hl hj hc⟩
theorem fl_lt {wr : World} {g n j : Nat} {bs : List Nat} (h : Fl wr g n bs j) : g < wr.heap.size := by obtain ⟨cur, hr, _⟩ := h; exact hr.lt
theorem fl_end {wr : World} {g n : Nat} {bs : List Nat} (hl : bs.length = n) (hb : ∀ b ∈ bs, b < 256) (hn : n ≤ 9223372036854775807) (h : Fl wr g n bs n) : IsB wr wr.heap.size (some ⟨g, 0, none⟩) n (bs.map (· ^^^ 255)) := by
  obtain ⟨cur, hr, hlen, hc⟩ := h
  rw [stF_all _ _ _ (by omega)] at hc
  exact IsB.of_row hr (by simpa using hc) (by simpa using hl) (flip_lt5 bs hb) hr.lt hn (by omega)
theorem want_cut {w : World} {base n k c g : Nat} {bs xs : List Nat} (h : Own w base (some ⟨g, 0, none⟩) (n + k) c (bs ++ xs)) (hl : bs.length = n) (hk : 0 < k) : IsB w w.heap.size (some ⟨g, n, none⟩) k xs := by
  obtain ⟨g', cur, hA, _, hlt, hr, hc, hlen⟩ := own_blk h (by omega)
  injection hA with hA
  injection hA with hA
  subst hA
  have hxl : xs.length = k := by have := h.len; simp at this; omega
  refine IsB.of_row hr ?_ hxl (fun b hb => h.2.1 b (by simp [hb])) hlt (by have := h.2.2; omega) (by omega)
  have := congrArg (List.drop n) hc
  rw [List.drop_take, List.map_append, List.drop_left' (by simp; omega), show n + k - n = k by omega] at this
  exact this
theorem chg_own5 {T : List Nat} {w w' : World} {base n c g : Nat} {bs : List Nat} (h : Own w base (some ⟨g, 0, none⟩) n c bs) (hc : Chg T w w') (hg : g ∉ T) : Own w' base (some ⟨g, 0, none⟩) n c bs :=
  own_chg h hc fun k hk => by injection hk with hk; rw [← hk]; exact hg
theorem BK.chg {w w' : World} {B gk : Nat} {F T : List Nat} (h : BK w B gk F) (hc : Chg T w w') (hT : ∀ k ∈ T, k ∈ F) : BK w' B gk F := by
  obtain ⟨cs, S, h1, h2, h3⟩ := h
  exact ⟨cs, S, h1.chg hc (fun k hk hm => h3 k (hT k hm) (List.mem_cons_of_mem _ hk)) (fun hm => h3 gk (hT gk hm) (List.mem_cons_self)), h2, h3⟩
end Go.Proofs.YtomjmapidjnpbaaGreat
