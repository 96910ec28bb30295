/- Texts of this claim, one behind the other: WkC, Clone, Writer, WriterB, Reader. -/
import Derived.Test.YtblfagmoilhdnaaJPagesTold17
import Derived.Test.YtblfagmoilhdnaaJPagesTold10
import Derived.Test.YtblfagmoilhdnaaJPagesTold1
import Derived.Test.YtblfagmoilhdnaaJPagesTold2
import Derived.Deep.RegionHeld3
import Derived.Deep.RegionLaw
import Derived.Deep.RegionLawGrows
import Derived.Deep.QuietTactic
import Derived.BigQuiet
/- The walk of walk.Translate. -/
set_option linter.unusedVariables false
set_option linter.unusedSimpArgs false
namespace Go.Proofs.Ytblfagmoilhdnaa
open Go.RowKit
open S64
namespace Bu
theorem trw_zero {M : PM} {virt : Nat} {access : Int} : ∀ {k lv tab : Nat}, (trw M virt access k lv tab).2 ≠ 0 → (trw M virt access k lv tab).1 = 0 := by
  intro k
  induction k with
  | zero => intro lv tab _; rfl
  | succ k ih =>
    intro lv tab h
    unfold trw at h ⊢
    split
    · rfl
    rename_i h1
    rw [if_neg h1] at h
    split
    · rename_i h2; rw [if_pos h2] at h; exact ih h
    rename_i h2
    rw [if_neg h2] at h
    split
    · rfl
    rename_i h3
    rw [if_neg h3] at h
    split
    · rfl
    rename_i h4
    rw [if_neg h4] at h
    exact absurd rfl h
theorem trI_zero {M : PM} {root virt : Nat} {access : Int} (h : (trI M root virt access).2 ≠ 0) : (trI M root virt access).1 = 0 := by
  unfold trI at h ⊢
  split
  · rfl
  rename_i h1
  rw [if_neg h1] at h
  split
  · rfl
  rename_i h2
  rw [if_neg h2] at h
  split
  · rfl
  rename_i h3
  rw [if_neg h3] at h
  exact trw_zero h
def TrC (T : TypeId) (v : Value) (S : MemS) : Prop := ∀ (Z R : Nat → Prop) (w : World) (M : PM) (root virt : Nat) (access : Int), S Z R w M → True → root ≤ TOP → virt ≤ TOP →
    Calls Try.prog 58 #[.iface T v, .int .u64 (root : Nat), .int .u64 (virt : Nat), .int .i64 access] w fun e w' => e = .returned (.tuple #[.int .u64 ((trI M root virt access).1 : Nat), flt (trI M root virt access).2 virt]) ∧ QuS S Z R w M ((trI M root virt access).2 ≠ 42) w'
set_option maxRecDepth 100000 in
set_option maxHeartbeats 1000000 in
theorem translateT_any {T : TypeId} {v : Value} {S : MemS} (hS : MemI S) (hC : EntC T v S) : TrC T v S := by
  intro Z R w M root virt access hm hs hr hv
  have HM := Lib.hid hm; have HSI := Lib.hid hS
  have HTR : Hid (∀ wx, Below w.heap.size w wx → Calls Try.prog 78 #[.iface T v, .int .u64 (root : Nat), .int .u64 (virt : Nat), .int .i64 access] wx fun e w' => e = .returned (.tuple #[.int .u64 ((trI M root virt access).1 : Nat), .int .i64 ((trI M root virt access).2 : Nat)]) ∧ QuS S Z R wx M ((trI M root virt access).2 ≠ 42) w') := Lib.hid (fun wx hb => translate_any hS hC Z R wx M root virt access (hS.below hm hb) hs hr hv)
  have HZ := Lib.hid (trI_zero (M := M) (root := root) (virt := virt) (access := access))
  obtain ⟨G, hG⟩ : ∃ G, G = trI M root virt access := ⟨_, rfl⟩
  rw [← hG] at HTR HZ ⊢
  obtain ⟨p, n⟩ := G
  simp only at HTR HZ ⊢
  have HNZ : Hid (∀ k, Z k ∨ R k → k < w.heap.size) := Lib.hid (fun k hk => by rcases hk with hk | hk; exact hS.z hm k hk; exact hS.r hm k hk)
  clear hm hs hS hC hG hr hv
  go_enter Try.func58, Try.ntmps58
  go_upto_region 1 with fail
  have hra := Row.new w 111 [.int .i64 0, .int .u64 0]
  have hb0 : Below w.heap.size w (w.alloc (.cells #[.int .i64 0, .int .u64 0] 111)) := (Below.refl _ _).alloc (Nat.le_refl _) _
  have HT0 := Lib.hid (HTR.out _ hb0)
  obtain ⟨c, hc⟩ : ∃ c, c = w.heap.size := ⟨_, rfl⟩
  generalize w.alloc (.cells #[.int .i64 0, .int .u64 0] 111) = w1 at *
  rw [← hc] at hra ⊢
  have HC := Lib.hid hc
  have HB0 := Lib.hid hb0
  have HRA := Lib.hid hra
  clear hra hb0 hc HTR
  go_wp2_with fail
  refine HT0.out.mono ?_
  rintro e w2 ⟨rfl, hq⟩
  have HRA2 := Lib.hid ((show ChgP Z w1 w2 from hq.choose_spec.2.2.2).row HRA.out (fun h => by have := HNZ.out c (.inl h); have := HC.out; omega))
  have HQ2 := Lib.hid (hq.pre (ChgP.of_below (Z := Z) HB0.out))
  clear hq HT0
  have q0 := HRA2.out.cell 0
  have q1 := HRA2.out.cell 1
  have la := HRA2.out.lt
  have y0 := HRA2.out.frozen 0
  have y1 := HRA2.out.frozen 1
  simp only [List.getElem?_cons_zero, List.getElem?_cons_succ] at q0 q1
  by_cases hn : n = 0
  · subst hn
    have HY0 := Lib.hid ((HRA2.out.set_ 0 (.int .i64 0)).cell 0)
    have HY1 := Lib.hid (((HRA2.out.set_ 0 (.int .i64 0)).set_ 1 (.int .u64 0)).cell 1)
    simp only [List.set_cons_zero, List.set_cons_succ, List.getElem?_cons_zero, List.getElem?_cons_succ] at HY0 HY1
    go_wp2_with fail
    refine bodyPost_ret (v := .tuple #[.int .u64 (p : Nat), .agg #[.int .i64 0, .int .u64 0]]) (by simp [results, Try.results58, go_sem, HY0.out, HY1.out]) rfl ⟨rfl, (HQ2.out.imp (fun _ => by decide)).chg HSI.out (Y := fun k => k = c) ?_ HM.out (fun k hk => by rw [show k = c from hk, HC.out]; exact Nat.le_refl _)⟩
    exact ((ChgP.refl (fun k => k = c) w2).set_ (p := ⟨c, 0, none⟩) (.inl rfl) _).set_ (p := ⟨c, 1, none⟩) (.inl rfl) _
  · have hp : p = 0 := HZ.out hn
    subst hp
    have f1 : ((n : Int) != 0) = true := by simp; omega
    have HF : Hid (flt n virt = .agg #[.int .i64 (n : Nat), .int .u64 (virt : Nat)]) := Lib.hid (by unfold flt; rw [if_neg hn]; rfl)
    have HY0 := Lib.hid ((HRA2.out.set_ 0 (.int .i64 (n : Nat))).cell 0)
    have HY1 := Lib.hid (((HRA2.out.set_ 0 (.int .i64 (n : Nat))).set_ 1 (.int .u64 (virt : Nat))).cell 1)
    simp only [List.set_cons_zero, List.set_cons_succ, List.getElem?_cons_zero, List.getElem?_cons_succ] at HY0 HY1
    clear hn
    go_wp2_with fail
    refine bodyPost_ret (v := .tuple #[.int .u64 0, .agg #[.int .i64 (n : Nat), .int .u64 (virt : Nat)]]) (by simp [results, Try.results58, go_sem, HY0.out, HY1.out]) rfl ⟨by rw [HF.out]; rfl, HQ2.out.chg HSI.out (Y := fun k => k = c) ?_ HM.out (fun k hk => by rw [show k = c from hk, HC.out]; exact Nat.le_refl _)⟩
    exact ((ChgP.refl (fun k => k = c) w2).set_ (p := ⟨c, 0, none⟩) (.inl rfl) _).set_ (p := ⟨c, 1, none⟩) (.inl rfl) _
end Bu
end Go.Proofs.Ytblfagmoilhdnaa

/- The walk of slices.Clone over bytes: nil for nil, else the same bytes in new memory. -/
set_option linter.unusedVariables false
set_option linter.unusedSimpArgs false
namespace Go.Proofs.Ytblfagmoilhdnaa
open Go.RowKit

set_option maxRecDepth 100000 in
set_option maxHeartbeats 400000 in
theorem clone_any (A : Option Addr) (n c : Nat) (bs : List Nat) (w : World) (ha : IsB w w.heap.size A n bs) (hn : n ≤ 140737488351232) (hA : A = none → c = 0) :
    Calls Try.prog 64 #[.slice A n c] w fun e w' => (∃ A' c', e = .returned (.slice A' n c') ∧ Own w' w.heap.size A' n c' bs) ∧ Below w.heap.size w w' := by
  obtain ⟨i0, hi0, hz1, hz2, hz3⟩ := info_parts info5w
  have HA := Lib.hid ha
  have HI := Lib.hid hi0; have HZ1 := Lib.hid hz1; have HZ2 := Lib.hid hz2; have HZ3 := Lib.hid hz3
  clear hi0 hz1 hz2 hz3 ha
  cases A with
  | none =>
    have hc := hA rfl
    subst hc
    have hn0 : n = 0 := by
      rcases Nat.eq_zero_or_pos n with h | h
      · exact h
      · obtain ⟨ad, h, _⟩ := HA.out.1.2 h; cases h
    subst hn0
    clear hA
    have hq : ∀ wx : World, (binOp .eql 25 (.slice none 0 0) (.slice none 0 0)).run Try.prog wx = .ok (.bool true) wx := fun wx => Lib.run_eql_slice_nil wx 25 5 none 0 0 0 0 Try.underlying25
    go_enter Try.func64, Try.ntmps64
    go_wp2_with fail
    go_ret
    exact ⟨⟨none, 0, rfl, ⟨by have h := HA.out.len; obtain rfl : bs = [] := List.eq_nil_of_length_eq_zero h; exact World.ownsRow_nil _ _ _ _, HA.out.2⟩⟩, Below.refl _ _⟩
  | some ad =>
    clear hA
    have hq : ∀ wx : World, (binOp .eql 25 (.slice (some ad) n c) (.slice none 0 0)).run Try.prog wx = .ok (.bool false) wx := fun wx => Lib.run_eql_slice_nil wx 25 5 (some ad) n c 0 0 Try.underlying25
    go_enter Try.func64, Try.ntmps64
    go_wp2_with (at_builtin; refine wpList_append_more _ rfl (.tmp 5) (.tmp 6) _ rfl w.heap.size 5 i0 _ 1 1 Try.underlying25 HI.out HZ1.out HZ2.out HZ3.out rfl (by omega) _ _ _ _ rfl (World.ownsRow_made w #[] 0 (Nat.le_refl _) (by decide) rfl) w.heap.size (some ad) n c (bs.map u8) rfl (HA.out.1.alloc (Nat.le_refl _) _) (one_u8w bs) (by simp only [maxLen]; omega) (by omega) (by simp) ?_; intro A' c' w2 HN)
    go_ret
    have h := HN.out
    simp only [Nat.zero_add, List.nil_append] at h
    exact ⟨⟨A', c', rfl, h.1, HA.out.2⟩, ((Below.refl _ _).alloc (Nat.le_refl _) _).trans h.2.2⟩
end Go.Proofs.Ytblfagmoilhdnaa

/- Words for a writer in memory, and the walks of the writer's methods. -/
set_option linter.unusedVariables false
set_option linter.unusedSimpArgs false
namespace Go.Proofs.Ytblfagmoilhdnaa
open Go.RowKit

/-- a writer -/
def Wr (w : World) (g : Nat) (r : Option Nat) (s : Wd.W) : Prop :=
  ∃ A c, Row w g 127 [.slice A s.b.length c, .int .i64 (s.e : Nat)] ∧ w.ownsRow 0 5 1 (.slice A s.b.length c) s.b.length (s.b.map u8) ∧ (Value.slice A s.b.length c).ownBlock = r ∧ (∀ b ∈ s.b, b < 256)
theorem owns_below {w w' : World} {base : Nat} {e : TypeId} {size n : Nat} {v : Value} {xs : List Value} (h : w.ownsRow base e size v n xs) (hb : Below w.heap.size w w') : w'.ownsRow base e size v n xs := by
  refine ⟨h.1, ?_⟩
  rcases h.2 with h2 | ⟨g, cap, cur, hv, hg, hh, r⟩
  · exact .inl h2
  · refine .inr ⟨g, cap, cur, hv, hg, ?_, r⟩
    rw [hb.block g (Blk.lt (cs := cur) hh)]; exact hh
theorem row_two {w : World} {g : Nat} {t : TypeId} {u : Value} {cs : List Value} (h : Row w g t (u :: cs)) : w.cell? ⟨g, 0, none⟩ = some u ∧ w.frozen? ⟨g, 0, none⟩ = false := ⟨h.cell 0, h.frozen 0⟩
theorem row_grown {w w' : World} {g : Nat} {t : TypeId} {cs : List Value} {row : Option Nat} (h : Row w g t cs) (hg : w.grownBy w' row) (hne : some g ≠ row) : Row w' g t cs := (hg.block g h.lt hne).trans h
theorem isB_nil (w : World) (B : Nat) : IsB w B none 0 [] := ⟨⟨rfl, fun h => absurd h (by omega)⟩, by simp, by omega⟩
theorem step_append_sl {P : Program} (w : World) {ops : Array Oper} {o : Oper} {a : Act} {K : Act → World → Prop} {Q : Exit → Act → World → Prop} {E : Prop} (hgd : o.guard = none) (s x : Operand) (t : TypeId)
    (ho : o.op = .call { callee := .builtin .append, args := #[s, x], argTypes := #[t, t] })
    (base : Nat) (e : TypeId) (i : TypeInfo) (z : Value) (size bytes : Nat) (ht : P.underlying t = some (.slice e)) (hi : P.info? e = some i) (hz : i.zero = some z)
    (hsize : i.size = size) (hby : i.bytes = bytes) (hzs : z.cells.size = size) (hsz : 0 < size)
    (v : Value) (n : Nat) (xs : List Value) (hs : a.eval s = v) (hown : w.ownsRow base e size v n xs)
    (B : Nat) (A : Option Addr) (m c : Nat) (news : List Value) (hx : a.eval x = .slice A m c) (hr : Reads w B size A m news) (h1 : ∀ u ∈ news, u.oneCell' = true)
    (h63 : n + m ≤ maxLen) (hbytes : (n + m) * bytes ≤ 140737488355328) (hbase : base ≤ w.heap.size)
    (h : ∀ A' c' w', w'.ownsRow base e size (.slice A' (n + m) c') (n + m) (xs ++ news) → w.grownBy w' v.ownBlock →
      ((Value.slice A' (n + m) c').ownBlock = v.ownBlock ∨ (Value.slice A' (n + m) c').ownBlock = some w.heap.size) → K (a.put o.dst (.slice A' (n + m) c')) w') :
    if Region.wanted o (yielded ops a.tmps) = true then Oper.wp P o a w K Q else E := by
  refine step_append_any w hgd s x t ho base e i z size bytes ht hi hz hsize hby hzs hsz v n xs hs hown B A m c news hx hr h1 h63 hbytes hbase fun v' w' h2 h3 h4 => ?_
  obtain ⟨A', c', rfl, _⟩ := own_slice h2
  exact h A' c' w' h2 h3 h4

/-- a store into a block of another element type leaves what is owned -/
theorem own_set {w : World} {base size n g t : Nat} {e : TypeId} {v : Value} {xs cs : List Value} (h : w.ownsRow base e size v n xs) (hr : Row w g t cs) (hne : e ≠ t) (i : Nat) (u : Value) : (w.setCell ⟨g, i, none⟩ u).ownsRow base e size v n xs := by
  refine ⟨h.1, ?_⟩
  rcases h.2 with h2 | ⟨g', cap, cur, hv, hg, hh, r⟩
  · exact .inl h2
  · refine .inr ⟨g', cap, cur, hv, hg, ?_, r⟩
    have hgg : g' ≠ g := Blk.ne_ (t := e) (cs := cur) (cs' := cs.toArray) hh hr hne
    rw [Below.heap_setCell _ _ _ _ hgg]; exact hh
/-- what an append to the writer's bytes, and its store, come to -/
theorem lay_done {w w1 w2 : World} {g n k c c2 : Nat} {r : Option Nat} {A A2 : Option Addr} {bs x : List Nat} (hrow : Row w g 127 [.slice A n c, .int .i64 ((0 : Nat) : Int)]) (hob : (Value.slice A n c).ownBlock = r) (hgr : r ≠ some g) (hb1 : Below w.heap.size w w1)
    (hown2 : w2.ownsRow 0 5 1 (.slice A2 (n + k) c2) (n + k) (bs.map u8 ++ x.map u8)) (hg2 : w1.grownBy w2 (Value.slice A n c).ownBlock) (hat2 : (Value.slice A2 (n + k) c2).ownBlock = (Value.slice A n c).ownBlock ∨ (Value.slice A2 (n + k) c2).ownBlock = some w1.heap.size)
    (hbs : ∀ b ∈ bs, b < 256) (hx : ∀ b ∈ x, b < 256) (hn : bs.length = n) (hk : x.length = k) :
    ∃ r', Wr (w2.setCell ⟨g, 0, none⟩ (.slice A2 (n + k) c2)) g r' ⟨bs ++ x, 0⟩ ∧ Chg (g :: r.toList) w (w2.setCell ⟨g, 0, none⟩ (.slice A2 (n + k) c2)) ∧ Moved w r r' := by
  have hr1 := hrow.below hb1 hrow.lt
  have hr2 : Row w2 g 127 [.slice A n c, .int .i64 ((0 : Nat) : Int)] := row_grown hr1 hg2 (fun h => hgr (hob.symm.trans h.symm))
  have hr3 := hr2.set_ 0 (.slice A2 (n + k) c2)
  refine ⟨(Value.slice A2 (n + k) c2).ownBlock, ⟨A2, c2, ?_, ?_, ?_, ?_⟩, ?_, ?_⟩
  · rw [List.length_append, hn, hk]; exact hr3
  · rw [List.length_append, hn, hk, List.map_append]; exact own_set hown2 hr2 (by decide) 0 _
  · rw [List.length_append, hn, hk]
  · intro b hb
    rcases List.mem_append.1 hb with h | h
    · exact hbs b h
    · exact hx b h
  · refine Chg.set_ (S := g :: r.toList) ?_ (.inl (by simp)) _
    exact ⟨hg2.os.trans hb1.os, hg2.tape.trans hb1.tape, hg2.output.trans hb1.output, Nat.le_trans hb1.size hg2.size, fun i hi hn => (hg2.block i (Nat.lt_of_lt_of_le hi hb1.size) (fun h => hn (by rw [hob] at h; rw [← h]; simp))).trans (hb1.block i hi)⟩
  · rcases hat2 with h | h
    · exact .inl (h.trans hob)
    · exact .inr ⟨_, h, hb1.size⟩

set_option maxRecDepth 100000 in
set_option maxHeartbeats 1000000 in
theorem lay_uint64 (g : Nat) (r : Option Nat) (s : Wd.W) (n : Nat) (w : World) (hw : Wr w g r s) (hn : n < 18446744073709551616) (hl : s.b.length ≤ 70368744177664) :
    Calls Try.prog 63 #[.pointer (some ⟨g, 0, none⟩), .int .u64 (n : Nat)] w fun e w' => e = .returned (.tuple #[]) ∧ ∃ r', Wr w' g r' (s.lay (Wd.le 8 n)) ∧ Chg (g :: r.toList) w w' ∧ Moved w r r' := by
  obtain ⟨A, c, hrow, hown, hob, hbs⟩ := hw
  obtain ⟨i0, hi0, hz1, hz2, hz3⟩ := info_parts info5w
  by_cases he : s.e = 0
  · have e0 : s.lay (Wd.le 8 n) = ⟨s.b ++ Wd.le 8 n, 0⟩ := by unfold Wd.W.lay; rw [if_pos he]
    obtain ⟨bs, e⟩ := s
    simp only at he hl hrow hown hob hbs e0
    subst he
    have c0 := hrow.cell 0
    have c1 := hrow.cell 1
    have f0 := hrow.frozen 0
    have hlt := hrow.lt
    simp only [List.getElem?_cons_zero, List.getElem?_cons_succ] at c0 c1
    have hgr : r ≠ some g := by
      rw [← hob]
      exact own_blk_ne (cs := #[.slice A bs.length c, .int .i64 0]) hown hrow (by decide)
    have HROW := Lib.hid hrow
    have HOWN := Lib.hid hown
    have HOB := Lib.hid hob
    have HE := Lib.hid e0
    have HI := Lib.hid hi0; have HZ1 := Lib.hid hz1; have HZ2 := Lib.hid hz2; have HZ3 := Lib.hid hz3
    have HGR := Lib.hid hgr
    clear hrow hown hob e0 hi0 hz1 hz2 hz3 hgr
    go_enter Try.func63, Try.ntmps63
    go_wp2_with fail
    go_region_law (first
      | (refine step_append_sl _ (by rfl) (.tmp 13) (.tmp 15) 25 (by rfl) 0 5 i0 _ 1 1 Try.underlying25 HI.out HZ1.out HZ2.out HZ3.out rfl (by omega) (.slice A bs.length c) bs.length (bs.map u8) (by simp [Act.eval, Act.put]) (owns_below (w := w.drew) HOWN.out hb1) w1.heap.size (some ⟨g1, 0, none⟩) 8 c1 ((Wd.le 8 n).map u8) (by simp [Act.eval, Act.put]) hown1.isB.1 (one_u8w _) (by unfold maxLen; omega) (by omega) (Nat.zero_le _) ?_; intro A2 c2 w2 hown2 hg2 hat2; obtain ⟨d0, d1⟩ := row_two (row_grown (HROW.out.below (w := w.drew) hb1 (by simpa using hlt)) hg2 (fun h => HGR.out (HOB.out.symm.trans h.symm))))
      | (go_simp; go_at_call 84; refine (put_uint64 none 0 0 [] n _ (isB_nil _ _) (by omega) hn).mono ?_; rintro e w1 ⟨⟨g1, c1, rfl, hown1⟩, hb1⟩; obtain ⟨d0, d1⟩ := row_two (HROW.out.below (w := w.drew) hb1 (by simpa using hlt))))
    all_goals
      go_end0
      refine ⟨rfl, ?_⟩
      rw [HE.out]
      exact lay_done (w := w) HROW.out HOB.out HGR.out (⟨hb1.os, hb1.tape, hb1.output, hb1.size, hb1.block⟩ : Below w.heap.size w w1) hown2 hg2 hat2 hbs (Wd.le_lt 8 n) rfl (Wd.le_len 8 n)
  · have he' : ((s.e : Int) == 0) = false := beq_eq_false_iff_ne.2 (by omega)
    have e0 : s.lay (Wd.le 8 n) = s := by unfold Wd.W.lay; rw [if_neg he]
    have HE := Lib.hid e0
    have c1 := hrow.cell 1
    simp only [List.getElem?_cons_zero, List.getElem?_cons_succ] at c1
    have HW : Hid (Wr w g r s) := Lib.hid ⟨A, c, hrow, hown, hob, hbs⟩
    clear hrow hown hob hbs hi0 hz1 hz2 hz3 he e0
    go_enter Try.func63, Try.ntmps63
    go_wp2_with fail
    go_end0
    exact ⟨rfl, r, by rw [HE.out]; exact HW.out, Chg.refl _ _, Moved.refl _ _⟩
set_option maxHeartbeats 400000 in
theorem wuint64_any (g : Nat) (r : Option Nat) (s : Wd.W) (n : Nat) (w : World) (hw : Wr w g r s) (hn : n < 18446744073709551616) (hl : s.b.length ≤ 70368744177664) :
    Calls Try.prog 37 #[.pointer (some ⟨g, 0, none⟩), .int .u64 (n : Nat)] w fun e w' => e = .returned (.tuple #[]) ∧ ∃ r', Wr w' g r' (s.lay (Wd.le 8 n)) ∧ Chg (g :: r.toList) w w' ∧ Moved w r r' := by
  have H := Lib.hid (lay_uint64 g r s n w hw hn hl)
  clear hw
  go_enter Try.func37, Try.ntmps37
  go_wp2_with fail
  refine H.out.mono ?_
  rintro e w' ⟨rfl, h⟩
  have HH := Lib.hid h
  clear h
  go_wp2_with fail
  go_end0
  exact ⟨rfl, HH.out⟩
end Go.Proofs.Ytblfagmoilhdnaa

/- The walks of NewWriter and of the writer's Bytes, Seal, Len, Err, All. -/
set_option linter.unusedVariables false
set_option linter.unusedSimpArgs false
namespace Go.Proofs.Ytblfagmoilhdnaa
open Go.RowKit

def IsB' (w : World) (A : Option Addr) (n c : Nat) (bs : List Nat) : Prop := IsB w w.heap.size A n bs ∧ (A = none → c = 0)
theorem Wr.open_ {w : World} {g : Nat} {r : Option Nat} {s : Wd.W} (h : Wr w g r s) : ∃ A c, w.cell? ⟨g, 0, none⟩ = some (.slice A s.b.length c) ∧ w.cell? ⟨g, 1, none⟩ = some (.int .i64 (s.e : Nat)) ∧ w.frozen? ⟨g, 0, none⟩ = false ∧ w.frozen? ⟨g, 1, none⟩ = false ∧ g < w.heap.size ∧
    IsB' w A s.b.length c s.b ∧ Hid (Row w g 127 [.slice A s.b.length c, .int .i64 (s.e : Nat)]) ∧ Hid (w.ownsRow 0 5 1 (.slice A s.b.length c) s.b.length (s.b.map u8)) ∧ Hid ((Value.slice A s.b.length c).ownBlock = r) ∧ Hid (r ≠ some g) := by
  obtain ⟨A, c, hrow, hown, hob, hbs⟩ := h
  refine ⟨A, c, hrow.cell 0, hrow.cell 1, hrow.frozen 0, hrow.frozen 1, hrow.lt, ⟨⟨Reads.of_own hown, hbs, ?_⟩, ?_⟩, hrow, hown, hob, ?_⟩
  · rcases hown.2 with ⟨_, h⟩ | ⟨g', cap, cur, hv, _, _, hnc, hcm, _⟩
    · omega
    · unfold maxLen at hcm; omega
  · rcases hown.2 with ⟨h, _⟩ | ⟨g', cap, cur, hv, _⟩
    · intro _; injection h
    · intro h; rw [h] at hv; cases hv
  · show r ≠ some g
    rw [← hob]
    exact own_blk_ne (cs := #[.slice A s.b.length c, .int .i64 (s.e : Nat)]) hown hrow (by decide)

/-- the writer is refused -/
theorem err_done {w : World} {g c k : Nat} {r : Option Nat} {A : Option Addr} {bs : List Nat} {e : Int} (hrow : Row w g 127 [.slice A bs.length c, .int .i64 e]) (hown : w.ownsRow 0 5 1 (.slice A bs.length c) bs.length (bs.map u8)) (hob : (Value.slice A bs.length c).ownBlock = r) (hbs : ∀ b ∈ bs, b < 256) :
    ∃ r', Wr (w.setCell ⟨g, 1, none⟩ (.int .i64 (k : Nat))) g r' ⟨bs, k⟩ ∧ Chg (g :: r.toList) w (w.setCell ⟨g, 1, none⟩ (.int .i64 (k : Nat))) ∧ Moved w r r' :=
  ⟨r, ⟨A, c, hrow.set_ 1 _, own_set hown hrow (by decide) 1 _, hob, hbs⟩, (Chg.refl _ _).set_ (.inl (by simp)) _, Moved.refl _ _⟩
theorem Wr.below {w w' : World} {g : Nat} {r : Option Nat} {s : Wd.W} (h : Wr w g r s) (hb : Below w.heap.size w w') : Wr w' g r s := by
  obtain ⟨A, c, hrow, hown, hob, hbs⟩ := h
  exact ⟨A, c, hrow.below hb hrow.lt, owns_below hown hb, hob, hbs⟩
set_option maxHeartbeats 400000 in
theorem newwriter_any (w : World) : Calls Try.prog 36 #[] w fun e w' => e = .returned (.pointer (some ⟨w.heap.size, 0, none⟩)) ∧ Wr w' w.heap.size none ⟨[], 0⟩ ∧ Below w.heap.size w w' := by
  go_enter Try.func36, Try.ntmps36
  go_wp2_with fail
  go_ret
  exact ⟨rfl, ⟨none, 0, Row.new w 127 [.slice none 0 0, .int .i64 0], World.ownsRow_nil _ _ _ _, rfl, by simp⟩, (Below.refl _ _).alloc (Nat.le_refl _) _⟩
set_option maxHeartbeats 400000 in
theorem wall_any (g : Nat) (r : Option Nat) (s : Wd.W) (w : World) (hw : Wr w g r s) (hl : s.b.length ≤ 140737488351232) : Calls Try.prog 38 #[.pointer (some ⟨g, 0, none⟩)] w fun e w' => (∃ A' c', e = .returned (.slice A' s.b.length c') ∧ Own w' w.heap.size A' s.b.length c' s.b) ∧ Below w.heap.size w w' := by
  obtain ⟨A, c, c0, c1, f0, f1, hlt, hB, _⟩ := hw.open_
  have H := Lib.hid (clone_any A s.b.length c s.b w hB.1 hl hB.2)
  clear hw hB
  go_enter Try.func38, Try.ntmps38
  go_wp2_with fail
  refine H.out.mono ?_
  rintro e w' ⟨⟨A', c', rfl, hown⟩, hb⟩
  have HO := Lib.hid hown
  have HB := Lib.hid hb
  clear hown hb
  go_wp2_with fail
  go_ret
  exact ⟨⟨A', c', rfl, HO.out⟩, HB.out⟩

end Go.Proofs.Ytblfagmoilhdnaa

/- Words for a reader in memory, and the walks of the reader's next, At, Left, Err, End, and of NewReader. -/
set_option linter.unusedVariables false
set_option linter.unusedSimpArgs false
namespace Go.Proofs.Ytblfagmoilhdnaa
open Go.RowKit

theorem owns_chg {S : List Nat} {w w' : World} {base : Nat} {e : TypeId} {size n : Nat} {v : Value} {xs : List Value} (h : w.ownsRow base e size v n xs) (hc : Chg S w w') (hr : ∀ k, v.ownBlock = some k → k ∉ S) : w'.ownsRow base e size v n xs := by
  refine ⟨h.1, ?_⟩
  rcases h.2 with h2 | ⟨g, cap, cur, hv, hg, hh, r⟩
  · exact .inl h2
  · refine .inr ⟨g, cap, cur, hv, hg, ?_, r⟩
    rw [hc.block g (Blk.lt (cs := cur) hh) (hr g (by rw [hv]; rfl))]; exact hh
theorem Wr.chg {S : List Nat} {w w' : World} {g : Nat} {r : Option Nat} {s : Wd.W} (h : Wr w g r s) (hc : Chg S w w') (hg : g ∉ S) (hr : ∀ k, r = some k → k ∉ S) : Wr w' g r s := by
  obtain ⟨A, c, hrow, hown, hob, h2⟩ := h
  exact ⟨A, c, hc.row hrow hg, owns_chg hown hc (fun k hk => hr k (hob.symm.trans hk)), hob, h2⟩
/-- bytes that lie in a block of one's own: they stay as long as that block does -/
def IsR (w : World) (r : Option Nat) (A : Option Addr) (n c : Nat) (bs : List Nat) : Prop := ∀ w2 : World, (∀ k, r = some k → w2.heap[k]? = w.heap[k]?) → w.heap.size ≤ w2.heap.size → IsB' w2 A n c bs
theorem IsR.b {w : World} {r : Option Nat} {A : Option Addr} {n c : Nat} {bs : List Nat} (h : IsR w r A n c bs) : IsB' w A n c bs := h w (fun _ _ => rfl) (Nat.le_refl _)
theorem IsR.chg {S : List Nat} {w w' : World} {r : Option Nat} {A : Option Addr} {n c : Nat} {bs : List Nat} (h : IsR w r A n c bs) (hc : Chg S w w') (hr : ∀ k, r = some k → k ∉ S) (hlt : ∀ k, r = some k → k < w.heap.size) : IsR w' r A n c bs :=
  fun w2 h1 h2 => h w2 (fun k hk => (h1 k hk).trans (hc.block k (hlt k hk) (hr k hk))) (Nat.le_trans hc.size h2)
theorem own_lt {w : World} {base n c : Nat} {e : TypeId} {size : Nat} {A : Option Addr} {xs : List Value} (h : w.ownsRow base e size (.slice A n c) n xs) : ∀ k, (Value.slice A n c).ownBlock = some k → k < w.heap.size := by
  rcases h.2 with ⟨h, _⟩ | ⟨g', cap, cur, hv, hg, hh, _⟩
  · injection h with hA _ _
    subst hA
    intro k hk
    cases hk
  · intro k hk
    rw [hv] at hk
    injection hk with hk
    exact hk ▸ (Blk.lt (cs := cur) hh)
theorem own_isR {w : World} {n c : Nat} {A : Option Addr} {bs : List Nat} (hown : w.ownsRow 0 5 1 (.slice A n c) n (bs.map u8)) (hbs : ∀ b ∈ bs, b < 256) : IsR w (Value.slice A n c).ownBlock A n c bs := by
  intro w2 h1 h2
  have hown2 : w2.ownsRow 0 5 1 (.slice A n c) n (bs.map u8) := by
    refine ⟨hown.1, ?_⟩
    rcases hown.2 with h3 | ⟨g, cap, cur, hv, hg, hh, r⟩
    · exact .inl h3
    · refine .inr ⟨g, cap, cur, hv, hg, ?_, r⟩
      rw [h1 g (by rw [hv]; rfl)]; exact hh
  refine ⟨⟨Reads.of_own hown2, hbs, ?_⟩, ?_⟩
  · rcases hown.2 with ⟨h, h0⟩ | ⟨g', cap, cur, hv, _, _, hnc, hcm, _⟩
    · omega
    · unfold maxLen at hcm
      omega
  · intro hA
    rcases hown.2 with ⟨h, _⟩ | ⟨g', cap, cur, hv, _⟩
    · injection h
    · rw [hA] at hv; cases hv
theorem next_part {w : World} {A : Option Addr} {xs : List Nat} {n c f k : Nat} (hB : IsB w w.heap.size A n xs) (hcn : n ≤ c) (hfl : f + k ≤ n) :
    IsB w w.heap.size (if c = f then A else A.map (·.add f)) k ((xs.drop f).take k) := by
  have hr : Reads w w.heap.size 1 (if c = f then A else A.map (·.add (f * 1))) (n - f) ((xs.map u8).drop (f * 1)) := hB.1.cut (by omega) hcn
  have := hB.2.2
  rw [Nat.mul_one] at hr
  refine ⟨⟨by have := hB.len; simp; omega, fun h => ?_⟩, fun b hb => hB.2.1 b (List.mem_of_mem_drop (List.mem_of_mem_take hb)), by omega⟩
  obtain ⟨ad, h1, h2, h3⟩ := hr.2 (by omega)
  refine ⟨ad, h1, h2, fun i u hu => h3 i u ?_⟩
  simp only [List.map_take, List.map_drop] at hu
  rw [List.getElem?_take] at hu
  split at hu
  · exact hu
  · cases hu

end Go.Proofs.Ytblfagmoilhdnaa
