/- Texts of this claim, one behind the other: PgC. -/
import Derived.Test.YtblfagmoilhdnaaJPagesTold20
import Derived.Test.YtblfagmoilhdnaaJPagesTold16
import Derived.Deep.Cut
import Derived.Deep.DeepCutAuto
import Derived.Deep.RegionHeld3
/- The walks of the builder's child and page. -/
set_option linter.unusedVariables false
set_option linter.unusedSimpArgs false
namespace Go.Proofs.Ytblfagmoilhdnaa
open Go.RowKit

def tcells (all : List (List Nat)) : List Value := all.flatMap (·.map u64v)
def Tabs (all : List (List Nat)) : Prop := ∀ t ∈ all, t.length = 512 ∧ ∀ x ∈ t, x < 18446744073709551616
def bcells (base mid low virt n c : Nat) (A : Option Addr) : List Value := [.int .u64 (base : Nat), .slice A n c, .int .i64 (mid : Nat), .int .i64 (low : Nat), .int .u64 (virt : Nat)]
/-- a builder in memory: block g; its tables in blocks from B on -/
def Bd (w : World) (B g base : Nat) (s : Pg.St) : Prop := ∃ ga c, Row w g 133 (bcells base s.mid s.low s.virt s.all.length c (some ⟨ga, 0, none⟩)) ∧ w.ownsRow B 24 512 (.slice (some ⟨ga, 0, none⟩) s.all.length c) s.all.length (tcells s.all) ∧ Tabs s.all
theorem Tabs.len {all : List (List Nat)} (h : Tabs all) : (tcells all).length = 512 * all.length := by
  induction all with
  | nil => rfl
  | cons t r ih =>
    have h1 := (h t (by simp)).1
    have h2 := ih fun x hx => h x (by simp [hx])
    unfold tcells at h2 ⊢
    rw [List.flatMap_cons, List.length_append, List.length_map, h1, h2, List.length_cons]
    omega
theorem tcells_at {all : List (List Nat)} (h : Tabs all) {t e : Nat} (ht : t < all.length) (he : e < 512) : (tcells all)[512 * t + e]? = some (u64v ((all.getD t []).getD e 0)) := by
  induction all generalizing t with
  | nil => simp at ht
  | cons a r ih =>
    have h1 := (h a (by simp)).1
    unfold tcells
    rw [List.flatMap_cons]
    cases t with
    | zero =>
      rw [Nat.mul_zero, Nat.zero_add, List.getElem?_append_left (by simp; omega)]
      simp [List.getD_eq_getElem?_getD, show e < a.length by omega]
    | succ t =>
      rw [List.getElem?_append_right (by simp; omega), List.length_map, h1, show 512 * (t + 1) + e - 512 = 512 * t + e by omega]
      have := ih (t := t) (fun x hx => h x (by simp [hx])) (by simpa using ht)
      unfold tcells at this
      rw [this]
      simp [List.getD_eq_getElem?_getD]
theorem setE_cons (a : List Nat) (r : List (List Nat)) (t e x : Nat) : Pg.setE (a :: r) (t + 1) e x = a :: Pg.setE r t e x := by simp [Pg.setE]
theorem tcells_set {all : List (List Nat)} (h : Tabs all) {t e x : Nat} (ht : t < all.length) (he : e < 512) : (tcells all).set (512 * t + e) (u64v x) = tcells (Pg.setE all t e x) := by
  induction all generalizing t with
  | nil => simp at ht
  | cons a r ih =>
    have h1 := (h a (by simp)).1
    cases t with
    | zero =>
      unfold tcells
      rw [List.flatMap_cons, Nat.mul_zero, Nat.zero_add, List.set_append_left _ _ (by simp; omega)]
      simp [Pg.setE, List.map_set]
    | succ t =>
      rw [setE_cons]
      have := ih (t := t) (fun x hx => h x (by simp [hx])) (by simpa using ht)
      unfold tcells at this ⊢
      rw [List.flatMap_cons, List.flatMap_cons, List.set_append_right _ _ (by simp; omega), List.length_map, h1, show 512 * (t + 1) + e - 512 = 512 * t + e by omega, this]
theorem Tabs.setE {all : List (List Nat)} (h : Tabs all) (t e x : Nat) (hx : x < 18446744073709551616) : Tabs (Pg.setE all t e x) := by
  rcases Nat.lt_or_ge t all.length with ht | ht
  · intro y hy
    unfold Pg.setE at hy
    rcases List.mem_or_eq_of_mem_set hy with hy | rfl
    · exact h y hy
    · have hm : all.getD t [] ∈ all := by simp [List.getD_eq_getElem?_getD, ht]
      obtain ⟨a1, a2⟩ := h _ hm
      refine ⟨by rw [List.length_set, a1], fun z hz => ?_⟩
      rcases List.mem_or_eq_of_mem_set hz with hz | rfl
      · exact a2 z hz
      · exact hx
  · unfold Pg.setE
    rw [List.set_eq_of_length_le ht]
    exact h
theorem Tabs.snoc {all : List (List Nat)} (h : Tabs all) : Tabs (all ++ [Pg.zero512]) := by
  intro y hy
  rcases List.mem_append.1 hy with hy | hy
  · exact h y hy
  · simp at hy
    subst hy
    refine ⟨List.length_replicate, fun z hz => ?_⟩
    obtain rfl := List.eq_of_mem_replicate hz
    decide
theorem tcells_snoc (all : List (List Nat)) : tcells (all ++ [Pg.zero512]) = tcells all ++ zeros 512 := by
  unfold tcells Pg.zero512 zeros
  rw [List.flatMap_append, List.flatMap_cons, List.flatMap_nil, List.append_nil, List.map_replicate]
theorem own_some {w : World} {base n c size : Nat} {e : TypeId} {A : Option Addr} {xs : List Value} (h : w.ownsRow base e size (.slice A n c) n xs) (hn : 0 < n) : ∃ g, A = some ⟨g, 0, none⟩ ∧ base ≤ g ∧ g < w.heap.size ∧ n ≤ c ∧ c ≤ maxLen := by
  rcases h.2 with ⟨_, e⟩ | ⟨g', cap, cur, hv, h1, hh, hnc, hcm, _⟩
  · omega
  · injection hv with hA _ hc
    subst hA hc
    exact ⟨g', rfl, h1, (h.lt g' rfl).2, hnc, hcm⟩
/-- blocks of other types are as they were -/
def Far (w w' : World) : Prop := ∀ k t cs, t ≠ 133 → t ≠ 24 → Row w k t cs → Row w' k t cs
theorem Far.refl (w : World) : Far w w := fun _ _ _ _ _ h => h
theorem Far.trans {a b c : World} (h : Far a b) (k : Far b c) : Far a c := fun i t cs h1 h2 hr => k i t cs h1 h2 (h i t cs h1 h2 hr)
theorem Far.below {w w' : World} (h : Below w.heap.size w w') : Far w w' := fun k t cs _ _ hr => hr.below h hr.lt
theorem Far.set_ {w : World} {g : Nat} {t0 : TypeId} {cur : Array Value} (h : Blk w g t0 cur) (ht : t0 = 133 ∨ t0 = 24) (i : Nat) (u : Value) : Far w (w.setCell ⟨g, i, none⟩ u) := fun k t cs h1 h2 hr =>
  hr.far (p := ⟨g, i, none⟩) (Blk.ne_ (cs := cs.toArray) hr h (by rcases ht with rfl | rfl <;> assumption)) u
theorem Far.grown {w w' : World} {row : Option Nat} (hg : w.grownBy w' row) (hb : ∀ k, row = some k → ∃ cur, Blk w k 24 cur) : Far w w' := fun k t cs h1 h2 hr =>
  row_grown hr hg (fun e => by
    obtain ⟨cur, hb⟩ := hb k e.symm
    exact Blk.ne_ (cs := cs.toArray) hr hb h2 rfl)
theorem own_blk' {w : World} {base n size : Nat} {e : TypeId} {v : Value} {xs : List Value} (h : w.ownsRow base e size v n xs) : ∀ k, v.ownBlock = some k → ∃ cur, Blk w k e cur := by
  intro k hk
  rcases h.2 with ⟨rfl, _⟩ | ⟨g, cap, cur, rfl, _, hh, _⟩
  · cases hk
  · simp [Value.ownBlock] at hk
    subst hk
    exact ⟨cur, hh⟩
theorem wpList_built {P : Program} {ops : Array Oper} {rest : List Oper} {o : Oper} {a : Act} {Q : Exit → Act → World → Prop} {w w1 : World} (hgd : Region.wanted o (yielded ops a.tmps) = true) (t : TypeId) (x : Operand) (ho : o.op = .buildSlice t 1 #[(0, x)]) {V v : Value} (hx : a.eval x = V)
    (hrun : (Instr.buildSlice t 1 #[(0, V)]).run P w = .ok v w1) (h : wpList P ops Q rest (a.put o.dst v) w1) : wpList P ops Q (o :: rest) a w :=
  wpList_wanted hgd fun _ hK => by
    unfold Oper.wp execOp
    simp only [ho, List.map_toArray, List.map_cons, List.map_nil, hx, Sem.run_bind, hrun, Result.andThen_ok]
    exact hK _ _ h
set_option maxRecDepth 100000 in
set_option maxHeartbeats 1000000 in
theorem child_any (B g base : Nat) (s : Pg.St) (tof e : Nat) (w : World) (hb : Bd w B g base s) (hB : B ≤ g) (hBw : B ≤ w.heap.size) (hof : tof < s.all.length) (he : e < 512) (hn : s.all.length ≤ 2000) (hbase : base % 4096 = 0) (hbl : base < 4294967296) :
    Calls Try.prog 85 #[.pointer (some ⟨g, 0, none⟩), .int .i64 (tof : Nat), .int .u64 (e : Nat)] w fun en w' => en = .returned (.int .i64 (s.all.length : Nat)) ∧ Bd w' B g base { s with all := Pg.childE base s.all tof e } ∧ Below B w w' ∧ Far w w' := by
  obtain ⟨ga, c, hrow, hown, htab⟩ := hb
  obtain ⟨n, hnn⟩ : ∃ n, n = s.all.length := ⟨_, rfl⟩
  rw [← hnn] at hrow hown hof hn ⊢
  obtain ⟨i0, hi0, hz1, hz2, hz3⟩ := info_parts infoTabA
  obtain ⟨hz, hsz⟩ := zero_of_info infoTabZ
  have hbs := tab_built
  have h0 := oneCell_zeros 512
  obtain ⟨Z, hZ⟩ : ∃ Z, Z = zeros 512 := ⟨_, rfl⟩
  rw [← hZ] at hz h0 hbs hz1
  have hzl : Z.length = 512 := by rw [hZ]; simp [zeros]
  have HBS := Lib.hid hbs
  clear hbs
  have HNE : Hid (some g ≠ (Value.slice (some ⟨ga, 0, none⟩) n c).ownBlock) := Lib.hid fun h => own_blk_ne (cs := (bcells base s.mid s.low s.virt n c (some ⟨ga, 0, none⟩)).toArray) hown hrow (by decide) h.symm
  have c0 := hrow.cell 0
  have c1 := hrow.cell 1
  simp only [bcells, List.getElem?_cons_zero, List.getElem?_cons_succ] at c0 c1
  have f1 := hrow.frozen 1
  have hlt := hrow.lt
  have HROW := Lib.hid hrow; have HOWN := Lib.hid hown; have HTAB := Lib.hid htab; have HN := Lib.hid hnn
  have HI := Lib.hid hi0; have HZ1 := Lib.hid hz1; have HZ2 := Lib.hid hz2; have HZ3 := Lib.hid hz3; have HZZ := Lib.hid hZ; have H0 := Lib.hid h0; have HZL := Lib.hid hzl
  clear hrow hown htab hnn hi0 hz1 hz2 hz3 hZ h0 hzl hsz
  go_enter Try.func85, Try.ntmps85
  go_upto_region 2 with fail
  have HR1 : Hid (Reads (w.alloc (.cells Z.toArray 24)) (w.alloc (.cells Z.toArray 24)).heap.size 512 (some ⟨w.heap.size, 0, none⟩) 1 Z) := Lib.hid (by
    have h := (Row.new w 24 Z)
    refine ⟨by rw [HZL.out], fun _ => ⟨_, rfl, h.lt, fun j u hu => ?_⟩⟩
    rw [Addr.add_mid, Nat.zero_add, h.cell, hu])
  go_upto_region 3 with (first | (refine wpList_built (V := .agg Z.toArray) (by rfl) 42 (.tmp 19) rfl (by rfl) (HBS.out _) ?_) | (at_builtin; refine wpList_append_sl _ (by rfl) (.tmp 18) (.tmp 20) 42 rfl B 24 i0 _ 512 4096 Try.underlying42 HI.out HZ1.out HZ2.out HZ3.out (by show Z.toArray.size = 512; simpa using HZL.out) (by omega) (.slice (some ⟨ga, 0, none⟩) n c) n (tcells s.all) rfl (HOWN.out.alloc _) _ (some ⟨w.heap.size, 0, none⟩) 1 1 Z rfl HR1.out H0.out (by unfold maxLen; omega) (by omega) (by simp; omega) ?_; intro A1 c1' w1 hown1 hrd1 hg1 hat1; have hr1 := row_grown (HROW.out.alloc _) hg1 HNE.out; have e1 := hr1.cell 1; simp only [bcells, List.getElem?_cons_zero, List.getElem?_cons_succ] at e1; have fe1 := hr1.frozen 1; have hl1 := hr1.lt; have HR1' := Lib.hid hr1; have HOWN1 := Lib.hid hown1; have HG1 := Lib.hid hg1; clear hown1 hrd1 hg1 hat1 hr1))
  have hown2 := HOWN1.out
  obtain ⟨g1, rfl, hB1, hlt1, hcc, hcm⟩ := own_some hown2 (by omega)
  have HO2 : Hid (w1.ownsRow B 24 512 (.slice (some ⟨g1, 0, none⟩) (n + 1) c1') (n + 1) (tcells (s.all ++ [Pg.zero512]))) := Lib.hid (by rw [tcells_snoc, ← HZZ.out]; exact hown2)
  have hT2 := HTAB.out.snoc
  have hne1 : g ≠ g1 := fun h => own_blk_ne (cs := (bcells base s.mid s.low s.virt n c (some ⟨ga, 0, none⟩)).toArray) hown2 HR1'.out (by decide) (by rw [h]; rfl)
  have HR2 : Hid (Row (w1.setCell ⟨g, 1, none⟩ (.slice (some ⟨g1, 0, none⟩) (n + 1) c1')) g 133 (bcells base s.mid s.low s.virt (n + 1) c1' (some ⟨g1, 0, none⟩))) := Lib.hid (HR1'.out.set_ 1 _)
  have HO3 : Hid ((w1.setCell ⟨g, 1, none⟩ (.slice (some ⟨g1, 0, none⟩) (n + 1) c1')).ownsRow B 24 512 (.slice (some ⟨g1, 0, none⟩) (n + 1) c1') (n + 1) (tcells (s.all ++ [Pg.zero512]))) := Lib.hid (own_set HO2.out HR1'.out (by decide) 1 _)
  have HB2 : Hid (Below B w (w1.setCell ⟨g, 1, none⟩ (.slice (some ⟨g1, 0, none⟩) (n + 1) c1'))) := Lib.hid ((((Below.refl B w).alloc hBw _).grown HG1.out (by simp; omega) (fun k hk => (HOWN.out.lt k hk).1)).setCell (p := ⟨g, 1, none⟩) hB _)
  have HFAR : Hid (Far w (w1.setCell ⟨g, 1, none⟩ (.slice (some ⟨g1, 0, none⟩) (n + 1) c1'))) := Lib.hid (((Far.below ((Below.refl w.heap.size w).alloc (Nat.le_refl _) (.cells Z.toArray 24))).trans (Far.grown HG1.out (own_blk' (HOWN.out.alloc _)))).trans (Far.set_ (cur := (bcells base s.mid s.low s.virt n c (some ⟨ga, 0, none⟩)).toArray) HR1'.out (.inl rfl) 1 _))
  have HT2 := Lib.hid hT2
  clear hown2 hT2 HOWN1 HO2 HG1 HOWN HROW HR1 HR1' HTAB e1 fe1 hl1 c0 c1 f1 hlt HNE hz HZ1 HZ2 HZ3 HI H0 HZL HZZ HBS hB1
  generalize w1.setCell ⟨g, 1, none⟩ (.slice (some ⟨g1, 0, none⟩) (n + 1) c1') = w2 at *
  have c0 := HR2.out.cell 0
  have c1 := HR2.out.cell 1
  simp only [bcells, List.getElem?_cons_zero, List.getElem?_cons_succ] at c0 c1
  have hlt := HR2.out.lt
  unfold maxLen at hcm
  go_upto_region 4 with fail
  obtain ⟨F, hF⟩ : ∃ F, F = (base + n * 4096) % 4294967296 := ⟨_, rfl⟩
  have hFl : F < 4294967296 := by omega
  have hFa : F % 4096 = 0 := by omega
  have w1' : IntKind.u64.wrap (n : Int) = (n : Int) := by rw [IntKind.wrap_u64]; omega
  have w2' : IntKind.u64.wrap ((n : Int) * 4096) = (n : Int) * 4096 := by rw [IntKind.wrap_u64]; omega
  have w3' : IntKind.u64.wrap ((base : Int) + (n : Int) * 4096) = (base : Int) + (n : Int) * 4096 := by rw [IntKind.wrap_u64]; omega
  have w4' : ((base : Int) + (n : Int) * 4096).tmod 4294967296 = (F : Int) := by rw [Int.tmod_eq_emod_of_nonneg (by omega)]; omega
  have w5' : ((base : Int) + (n : Int) * 4096) % 4294967296 = (F : Int) := by omega
  have HMK : Hid (Calls Try.prog 86 #[.agg #[.int .u64 (F : Nat), .bool true, .bool false, .bool false, .bool false], .int .i64 0] w2.drew fun en w' => en = .returned (.tuple #[.int .u64 ((F + 1 : Nat) : Int), .int .i64 0]) ∧ Below w2.drew.heap.size w2.drew w') := Lib.hid (by
    have h := make_walk ⟨F, true, false, false, false⟩ 0 w2.drew (by show F < _; omega) (by omega)
    rw [Pg.make_table hFa hFl] at h
    exact h)
  have hw0 : 512 * tof + e < (tcells (s.all ++ [Pg.zero512])).length := by rw [HT2.out.len, List.length_append, ← HN.out]; simp; omega
  have ca : w2.cell? ⟨g1, tof * 512 + e, none⟩ = some (u64v (((s.all ++ [Pg.zero512]).getD tof []).getD e 0)) := by
    rw [show tof * 512 + e = 512 * tof + e by omega, HO3.out.cellAt (512 * tof + e) (by omega), tcells_at HT2.out (by rw [List.length_append]; have := HN.out; simp; omega) he]
  have fa : w2.frozen? ⟨g1, tof * 512 + e, none⟩ = false := HO3.out.frozenAt _
  have hg1l : g1 < w2.heap.size := (HO3.out.lt g1 rfl).2
  have HFF := Lib.hid hF
  have KEEP : Hid (∀ (w' : World) (v : Value), w'.cell? ⟨g, 0, none⟩ = some (.int .u64 (base : Nat)) → (w'.setCell ⟨g1, tof * 512 + e, none⟩ v).cell? ⟨g, 0, none⟩ = some (.int .u64 (base : Nat))) := Lib.hid fun w' v h => (World.cell?_setCell_other _ _ _ _ (by simp [hne1])).trans h
  have he2 : (e : Int) < 512 := by omega
  have he0 : (0 : Int) ≤ (e : Int) := by omega
  clear hF c1 hw0
  go_cut [] (fun wx => Hid (∃ wm, Below w2.heap.size w2 wm ∧ wx = wm.setCell ⟨g1, tof * 512 + e, none⟩ (.int .u64 ((F + 1 : Nat) : Int))))
  case first =>
    go_region_held3 (fun w' => w'.cell? ⟨g, 0, none⟩ = some (.int .u64 (base : Nat)))
      (first | exact c0 | exact d0 | exact KEEP.out _ _ (by assumption))
      (first | (go_at_call 86; refine HMK.out.mono ?_; rintro en w' ⟨rfl, hbm⟩; have d0 : w'.cell? ⟨g, 0, none⟩ = some (.int .u64 (base : Nat)) := (hbm.cell (p := ⟨g, 0, none⟩) hlt).trans c0; have d1 := (hbm.cell (p := ⟨g1, tof * 512 + e, none⟩) hg1l).trans ca; have d2 := (hbm.frozen (p := ⟨g1, tof * 512 + e, none⟩) hg1l).trans fa; have hls := hbm.size; have HBM := Lib.hid hbm; clear hbm))
    all_goals
      go_wp2_with fail
      go_meet
      case rel => exact Lib.hid ⟨_, ((Below.refl w2.heap.size w2).drew).trans HBM.out, rfl⟩
  case rest =>
    obtain ⟨wm, hbm, rfl⟩ := hcut.out
    go_wp2_with fail
    go_ret
    have hown5 := owns_below HO3.out hbm
    have hst := hown5.stored (512 * tof + e) (u64v (F + 1))
    rw [tcells_set HT2.out (by rw [List.length_append]; have := HN.out; simp; omega) he, HFF.out] at hst
    have hl2 : (Pg.childE base s.all tof e).length = n + 1 := by rw [Pg.childE_len, ← HN.out]
    have hch : Pg.setE (s.all ++ [Pg.zero512]) tof e ((base + n * 4096) % 4294967296 + 1) = Pg.childE base s.all tof e := by
      have h := HN.out
      subst h
      rfl
    rw [hch, show 512 * tof + e = tof * 512 + e by omega] at hst
    have hp : F + 1 = (base + n * 4096) % 4294967296 + 1 := by rw [HFF.out]
    have hTT : Tabs (Pg.childE base s.all tof e) := by rw [← hch]; exact HT2.out.setE tof e _ (by omega)
    refine ⟨rfl, ⟨g1, c1', ?_, ?_, hTT⟩, (HB2.out.trans (hbm.mono (by have := HB2.out.size; omega))).setCell (by show B ≤ g1; exact (HO3.out.lt g1 rfl).1) _, ?_⟩
    · show Row _ g _ (bcells base s.mid s.low s.virt (Pg.childE base s.all tof e).length c1' _)
      rw [hl2]
      exact (HR2.out.below hbm hlt).far (p := ⟨g1, tof * 512 + e, none⟩) hne1 _
    · show World.ownsRow _ B _ 512 (.slice _ (Pg.childE base s.all tof e).length c1') (Pg.childE base s.all tof e).length (tcells (Pg.childE base s.all tof e))
      rw [hl2, hp]
      exact hst.1
    · obtain ⟨cur, hblk⟩ := own_blk' hown5 g1 rfl
      exact (HFAR.out.trans (Far.below hbm)).trans (Far.set_ hblk (.inr rfl) _ _)
end Go.Proofs.Ytblfagmoilhdnaa
