/- The walks of gap and of the writer's Pad and Text. -/
import Derived.Test.YtajkiglogfahfaaWriterC
import Derived.Test.YtajkiglogfahfaaZeros
import Derived.Test.YtajkiglogfahfaaStr
set_option linter.unusedVariables false
set_option linter.unusedSimpArgs false
namespace Go.Proofs.Ytajkiglogfahfaa
open Go.RowKit

set_option maxHeartbeats 400000 in
theorem gap_any (a al : Nat) (w : World) (ha : a ≤ 140737488355328) (h1 : 1 ≤ al) (h2 : al ≤ 4096) :
    Calls Try.prog 93 #[.int .i64 (a : Nat), .int .i64 (al : Nat)] w fun e w' => e = .returned (.int .i64 (Wd.gap a al : Nat)) ∧ w = w' := by
  have h3 : a % al < al := Nat.mod_lt _ h1
  have e0 : (a : Int) % (al : Int) = ((a % al : Nat) : Int) := by omega
  have e1 : (al : Int) - (a : Int) % (al : Int) = ((al - a % al : Nat) : Int) := by omega
  have e2 : ((al : Int) - (a : Int) % (al : Int)) % (al : Int) = ((Wd.gap a al : Nat) : Int) := by rw [e1]; unfold Wd.gap; omega
  have hpos : (0 : Int) < (al : Int) - (a : Int) % (al : Int) := by omega
  have hne : ((al : Int) == 0) = false := beq_eq_false_iff_ne.2 (by omega)
  have HE := Lib.hid e2
  clear e1 e0 e2
  go_enter Try.func93, Try.ntmps93
  go_wp2_with fail
  go_ret
  exact ⟨by rw [← HE.out]; rfl, rfl⟩
theorem moved_trans {w w1 : World} {r r1 r2 : Option Nat} (hs : w.heap.size ≤ w1.heap.size) (h1 : Moved w r r1) (h2 : Moved w1 r1 r2) : Moved w r r2 := by
  rcases h2 with rfl | ⟨k, rfl, hk⟩
  · exact h1
  · exact .inr ⟨k, rfl, by omega⟩
theorem chg_moved {w w1 w2 : World} {g : Nat} {r r1 : Option Nat} (h1 : Chg (g :: r.toList) w w1) (m1 : Moved w r r1) (h2 : Chg (g :: r1.toList) w1 w2) : Chg (g :: r.toList) w w2 := by
  refine h1.trans h2 fun x hx => ?_
  rcases List.mem_cons.1 hx with rfl | hx
  · exact .inl (by simp)
  · rcases m1 with rfl | ⟨k, rfl, hk⟩
    · exact .inl (by simp at hx ⊢; exact .inr hx)
    · simp at hx; subst hx; exact .inr hk
theorem Moved.below {w w1 : World} {r r1 : Option Nat} (hb : w.heap.size ≤ w1.heap.size) (h : Moved w1 r r1) : Moved w r r1 := by
  rcases h with rfl | ⟨k, rfl, hk⟩
  · exact .inl rfl
  · exact .inr ⟨k, rfl, by omega⟩
theorem pad_done {w w2 : World} {g n k c c2 : Nat} {r : Option Nat} {A A2 : Option Addr} {bs : List Nat} (hrow : Row w g 108 [.slice A n c, .int .i64 ((0 : Nat) : Int)]) (hob : (Value.slice A n c).ownBlock = r) (hgr : r ≠ some g)
    (hown2 : w2.ownsRow 0 5 1 (.slice A2 (n + k) c2) (n + k) (bs.map u8 ++ List.replicate k (.int .u8 0))) (hg2 : w.grownBy w2 (Value.slice A n c).ownBlock) (hat2 : (Value.slice A2 (n + k) c2).ownBlock = (Value.slice A n c).ownBlock ∨ (Value.slice A2 (n + k) c2).ownBlock = some w.heap.size)
    (hbs : ∀ b ∈ bs, b < 256) (hn : bs.length = n) :
    ∃ r', Wr (w2.setCell ⟨g, 0, none⟩ (.slice A2 (n + k) c2)) g r' ⟨bs ++ List.replicate k 0, 0⟩ ∧ Chg (g :: r.toList) w (w2.setCell ⟨g, 0, none⟩ (.slice A2 (n + k) c2)) ∧ Moved w r r' := by
  have e : (List.replicate k 0).map u8 = List.replicate k (.int .u8 0) := by simp [u8]
  rw [← e] at hown2
  exact lay_done hrow hob hgr (Below.refl _ _) hown2 hg2 hat2 hbs (by intro b hb; rw [(List.mem_replicate.1 hb).2]; omega) hn (by simp)
theorem pad_near (s : Wd.W) (al : Nat) (he : s.e = 0) (h1 : 1 ≤ al) (h2 : al ≤ 4096) : s.pad al = ⟨s.b ++ List.replicate (Wd.gap s.b.length al) 0, 0⟩ := by unfold Wd.W.pad; rw [if_pos he, if_pos (by omega)]; simp
theorem pad_far (s : Wd.W) (al : Int) (he : s.e = 0) (h : ¬ (1 ≤ al ∧ al ≤ 4096)) : s.pad al = ⟨s.b, 1⟩ := by unfold Wd.W.pad; rw [if_pos he, if_neg h]
theorem pad_not (s : Wd.W) (al : Int) (he : s.e ≠ 0) : s.pad al = s := by unfold Wd.W.pad; rw [if_neg he]

set_option maxRecDepth 100000 in
set_option maxHeartbeats 1000000 in
theorem wpad_any (g : Nat) (r : Option Nat) (s : Wd.W) (al : Int) (w : World) (hw : Wr w g r s) (hl : s.b.length ≤ 70368744177664) :
    Calls Try.prog 49 #[.pointer (some ⟨g, 0, none⟩), .int .i64 al] w fun e w' => e = .returned (.tuple #[]) ∧ ∃ r', Wr w' g r' (s.pad al) ∧ Chg (g :: r.toList) w w' ∧ Moved w r r' := by
  obtain ⟨A, c, d0, d1, f0, f1, hlt, hB, HROW, HOWN, HOB, HGR⟩ := hw.open_
  obtain ⟨i0, hi0, hz1, hz2, hz3⟩ := info_parts info5w
  by_cases he : s.e = 0
  · obtain ⟨xs, e⟩ := s
    simp only at he hl d0 d1 hB
    subst he
    have HBX := Lib.hid hB
    by_cases ha : 1 ≤ al ∧ al ≤ 4096
    · obtain ⟨a, rfl⟩ : ∃ a : Nat, al = a := ⟨al.toNat, by omega⟩
      have ha1 : 1 ≤ a := by omega
      have ha2 : a ≤ 4096 := by omega
      have HE := Lib.hid (pad_near ⟨xs, 0⟩ a rfl ha1 ha2)
      have hgl : Wd.gap xs.length a < a := Nat.mod_lt _ ha1
      have hgl2 : Wd.gap xs.length a ≤ 4096 := by omega
      have HI := Lib.hid hi0; have HZ1 := Lib.hid hz1; have HZ2 := Lib.hid hz2; have HZ3 := Lib.hid hz3
      clear hi0 hz1 hz2 hz3 hB hw ha
      simp only at HE
      obtain ⟨k, hk⟩ : ∃ k, k = Wd.gap xs.length a := ⟨_, rfl⟩
      have HG := Lib.hid (gap_any xs.length a w.drew (by omega) ha1 ha2)
      rw [← hk] at HE hgl hgl2 HG
      clear hk
      go_enter Try.func49, Try.ntmps49
      go_wp2_with fail
      go_region_law (first
        | (refine step_append_zeros _ (by rfl) (.tmp 8) (.tmp 15) 22 3 (by rfl) 0 5 i0 _ 1 Try.underlying22 Try.underlying3 HI.out HZ1.out HZ2.out HZ3.out rfl rfl (.slice A xs.length c) xs.length (xs.map u8) (by simp [Act.eval, Act.put]) (HOWN.out.drew) k (by simp [Act.eval, Act.put]) (by unfold maxLen; omega) (by omega) (by omega) (Nat.zero_le _) ?_; intro A2 c2 w2 hown2 hg2 hat2; obtain ⟨d0, d1⟩ := row_two (row_grown (w := w.drew) HROW.out hg2 (fun h => HGR.out (HOB.out.symm.trans h.symm))))
        | (go_simp; go_at_call 93; refine HG.out.mono ?_; rintro e w' ⟨rfl, rfl⟩))
      all_goals
        go_end0
        refine ⟨rfl, ?_⟩
        rw [HE.out]
        exact pad_done (w := w) HROW.out HOB.out HGR.out hown2 ⟨hg2.os, hg2.tape, hg2.output, hg2.size, hg2.block⟩ hat2 HBX.out.1.2.1 rfl
    · have HE := Lib.hid (pad_far ⟨xs, 0⟩ al rfl ha)
      have HF := Lib.hid ha
      clear hB hw hi0 hz1 hz2 hz3 ha
      by_cases h0 : al < 1
      all_goals
        have h1 : al < 1 ∨ 4096 < al := by have := HF.out; omega
        have HF1 := Lib.hid h1
        clear h1
        first
          | (have h2 : 4096 < al := by have := HF1.out; omega)
          | skip
        go_enter Try.func49, Try.ntmps49
        go_wp2_with fail
        go_end0
        exact ⟨rfl, by rw [HE.out]; exact err_done HROW.out HOWN.out HOB.out HBX.out.1.2.1⟩
  · have he' : ((s.e : Int) != 0) = true := by rw [bne_iff_ne]; omega
    have HE := Lib.hid (pad_not s al he)
    have HW := Lib.hid hw
    clear hw he hB hi0 hz1 hz2 hz3
    go_enter Try.func49, Try.ntmps49
    go_wp2_with fail
    go_end0
    exact ⟨rfl, r, by rw [HE.out]; exact HW.out, Chg.refl _ _, Moved.refl _ _⟩

theorem text_near (s : Wd.W) (t : List Nat) (he : s.e = 0) (h : t.length < 65536) : s.text t = (s.lay (Wd.le 2 t.length)).lay t := by unfold Wd.W.text Wd.W.lay; simp [he, h]
theorem text_far (s : Wd.W) (t : List Nat) (he : s.e = 0) (h : 65536 ≤ t.length) : s.text t = ⟨s.b, 3⟩ := by unfold Wd.W.text; rw [if_pos he, if_neg (by omega)]
theorem text_not (s : Wd.W) (t : List Nat) (he : s.e ≠ 0) : s.text t = s := by unfold Wd.W.text; rw [if_neg he]
theorem lay_not (s : Wd.W) (x : List Nat) (he : s.e ≠ 0) : s.lay x = s := by unfold Wd.W.lay; rw [if_neg he]
theorem lay_len (s : Wd.W) (x : List Nat) : (s.lay x).b.length ≤ s.b.length + x.length := by unfold Wd.W.lay; split <;> simp
/-- the two calls at Text's end -/
theorem text_tail (g : Nat) (r : Option Nat) (s : Wd.W) (t : ByteArray) (w1 : World) (r1 : Option Nat) (hw : Wr w1 g r1 s) (hl : s.b.length + t.size ≤ 140737488351232) :
    ∃ gg c W, (convert 9 22 (.string t)).run Try.prog w1 = .ok (.slice (some ⟨gg, 0, none⟩) t.size c) W ∧ Below w1.heap.size w1 W ∧ Hid (Calls Try.prog 32 #[.pointer (some ⟨g, 0, none⟩), .slice (some ⟨gg, 0, none⟩) t.size c] W fun e w' => e = .returned (.tuple #[]) ∧ ∃ r', Wr w' g r' (s.lay (sb t)) ∧ Chg (g :: r1.toList) w1 w' ∧ Moved w1 r1 r') := by
  obtain ⟨gg, c, W, hrun, hB, hbl, _⟩ := run_bytes_of 9 22 t w1 Try.underlying9 Try.underlying22 (by omega)
  refine ⟨gg, c, W, hrun, hbl, ?_⟩
  refine (wbytes_any g r1 s (some ⟨gg, 0, none⟩) t.size c (sb t) W (hw.below hbl) hB (by omega)).mono ?_
  rintro e w' ⟨he, r', q1, q2, q3⟩
  exact ⟨he, r', q1, (Chg.of_below hbl).trans q2 (fun x hx => .inl hx), q3.below hbl.size⟩
set_option maxRecDepth 100000 in
set_option maxHeartbeats 1000000 in
theorem wtext_near (g : Nat) (r : Option Nat) (xs : List Nat) (t : ByteArray) (w : World) (hw : Wr w g r ⟨xs, 0⟩) (hl : xs.length + t.size ≤ 70368744177664) (ht : t.size < 65536) :
    Calls Try.prog 98 #[.pointer (some ⟨g, 0, none⟩), .string t] w fun e w' => e = .returned (.tuple #[]) ∧ ∃ r', Wr w' g r' (Wd.W.text ⟨xs, 0⟩ (sb t)) ∧ Chg (g :: r.toList) w w' ∧ Moved w r r' := by
  obtain ⟨A, c, d0, d1, f0, f1, hlt, hB, HROW, HOWN, HOB, HGR⟩ := hw.open_
  have HE := Lib.hid (text_near ⟨xs, 0⟩ (sb t) rfl (by rw [sb_len]; exact ht))
  have HL := Lib.hid (lay_uint16 g r ⟨xs, 0⟩ t.size w hw ht (by simp only; omega))
  rw [sb_len] at HE
  have hm : ((t.size : Nat) : Int) % 65536 = (t.size : Int) := by omega
  have hq : ((t.size : Int) != (t.size : Int)) = false := by simp
  simp only at d0 d1
  clear hw hB
  go_enter Try.func98, Try.ntmps98
  go_wp2_with fail
  refine HL.out.mono ?_
  rintro e w1 ⟨rfl, r1, hwr, hch, hmv⟩
  obtain ⟨gg, c2, W, hrun, hbl, HC⟩ := text_tail g r1 _ t w1 r1 hwr (by have := lay_len ⟨xs, 0⟩ (Wd.le 2 t.size); rw [Wd.le_len] at this; simp only at this; omega)
  have HCH := Lib.hid hch; have HMV := Lib.hid hmv
  clear hwr hch hmv
  go_wp2_with fail
  refine HC.out.mono ?_
  rintro e w2 ⟨rfl, h⟩
  have HH := Lib.hid h
  clear h hrun
  go_wp2_with fail
  go_end0
  refine ⟨rfl, ?_⟩
  rw [HE.out]
  obtain ⟨r2, q1, q2, q3⟩ := HH.out
  exact ⟨r2, q1, chg_moved HCH.out HMV.out q2, moved_trans HCH.out.size HMV.out q3⟩
set_option maxRecDepth 100000 in
set_option maxHeartbeats 1000000 in
theorem wtext_far (g : Nat) (r : Option Nat) (xs : List Nat) (t : ByteArray) (w : World) (hw : Wr w g r ⟨xs, 0⟩) (hl : xs.length + t.size ≤ 70368744177664) (ht : 65536 ≤ t.size) :
    Calls Try.prog 98 #[.pointer (some ⟨g, 0, none⟩), .string t] w fun e w' => e = .returned (.tuple #[]) ∧ ∃ r', Wr w' g r' (Wd.W.text ⟨xs, 0⟩ (sb t)) ∧ Chg (g :: r.toList) w w' ∧ Moved w r r' := by
  obtain ⟨A, c, d0, d1, f0, f1, hlt, hB, HROW, HOWN, HOB, HGR⟩ := hw.open_
  have HE := Lib.hid (text_far ⟨xs, 0⟩ (sb t) rfl (by rw [sb_len]; exact ht))
  obtain ⟨m, hm⟩ : ∃ m, m = t.size % 65536 := ⟨_, rfl⟩
  have hml : m < 65536 := by omega
  have hmi : IntKind.u16.wrap (t.size : Int) = (m : Int) := by rw [IntKind.wrap_u16]; omega
  have hq : ((m : Int) != (t.size : Int)) = true := by rw [bne_iff_ne]; omega
  simp only at d0 d1 hB HROW HOWN HOB
  obtain ⟨r0, q1, q2, q3⟩ := err_done (k := 3) HROW.out HOWN.out HOB.out hB.1.2.1
  have HL := Lib.hid (lay_uint16 g r0 ⟨xs, 3⟩ m _ q1 hml (by simp only; omega))
  rw [lay_not _ _ (by simp)] at HL
  have HQ2 := Lib.hid q2; have HQ3 := Lib.hid q3
  clear hw hB hm q1 q2 q3
  go_enter Try.func98, Try.ntmps98
  go_wp2_with fail
  refine HL.out.mono ?_
  rintro e w1 ⟨rfl, r1, hwr, hch, hmv⟩
  obtain ⟨gg, c2, W, hrun, hbl, HC⟩ := text_tail g r1 _ t w1 r1 hwr (by simp only; omega)
  rw [lay_not _ _ (by simp)] at HC
  have HCH := Lib.hid hch; have HMV := Lib.hid hmv
  clear hwr hch hmv
  go_wp2_with fail
  refine HC.out.mono ?_
  rintro e w2 ⟨rfl, h⟩
  have HH := Lib.hid h
  clear h hrun
  go_wp2_with fail
  go_end0
  refine ⟨rfl, ?_⟩
  rw [HE.out]
  obtain ⟨r2, q1, q2, q3⟩ := HH.out
  have h5 := chg_moved HQ2.out HQ3.out HCH.out
  have h6 := moved_trans HQ2.out.size HQ3.out HMV.out
  exact ⟨r2, q1, chg_moved h5 h6 q2, moved_trans h5.size h6 q3⟩
set_option maxRecDepth 100000 in
set_option maxHeartbeats 1000000 in
theorem wtext_not (g : Nat) (r : Option Nat) (s : Wd.W) (t : ByteArray) (w : World) (hw : Wr w g r s) (hl : s.b.length + t.size ≤ 70368744177664) (he : s.e ≠ 0) :
    Calls Try.prog 98 #[.pointer (some ⟨g, 0, none⟩), .string t] w fun e w' => e = .returned (.tuple #[]) ∧ ∃ r', Wr w' g r' (s.text (sb t)) ∧ Chg (g :: r.toList) w w' ∧ Moved w r r' := by
  obtain ⟨A, c, d0, d1, f0, f1, hlt, hB, HROW, HOWN, HOB, HGR⟩ := hw.open_
  have HE := Lib.hid (text_not s (sb t) he)
  obtain ⟨m, hm⟩ : ∃ m, m = t.size % 65536 := ⟨_, rfl⟩
  have hml : m < 65536 := by omega
  have hmi : IntKind.u16.wrap (t.size : Int) = (m : Int) := by rw [IntKind.wrap_u16]; omega
  have hq : ((s.e : Int) == 0) = false := beq_eq_false_iff_ne.2 (by omega)
  have HL := Lib.hid (lay_uint16 g r s m w hw hml (by omega))
  rw [lay_not _ _ he] at HL
  have HN := Lib.hid he
  clear hw hB hm he
  go_enter Try.func98, Try.ntmps98
  go_wp2_with fail
  refine HL.out.mono ?_
  rintro e w1 ⟨rfl, r1, hwr, hch, hmv⟩
  obtain ⟨gg, c2, W, hrun, hbl, HC⟩ := text_tail g r1 _ t w1 r1 hwr (by omega)
  rw [lay_not _ _ HN.out] at HC
  have HCH := Lib.hid hch; have HMV := Lib.hid hmv
  clear hwr hch hmv
  go_wp2_with fail
  refine HC.out.mono ?_
  rintro e w2 ⟨rfl, h⟩
  have HH := Lib.hid h
  clear h hrun
  go_wp2_with fail
  go_end0
  refine ⟨rfl, ?_⟩
  rw [HE.out]
  obtain ⟨r2, q1, q2, q3⟩ := HH.out
  exact ⟨r2, q1, chg_moved HCH.out HMV.out q2, moved_trans HCH.out.size HMV.out q3⟩
theorem wtext_any (g : Nat) (r : Option Nat) (s : Wd.W) (t : ByteArray) (w : World) (hw : Wr w g r s) (hl : s.b.length + t.size ≤ 70368744177664) :
    Calls Try.prog 98 #[.pointer (some ⟨g, 0, none⟩), .string t] w fun e w' => e = .returned (.tuple #[]) ∧ ∃ r', Wr w' g r' (s.text (sb t)) ∧ Chg (g :: r.toList) w w' ∧ Moved w r r' := by
  by_cases he : s.e = 0
  · obtain ⟨xs, e⟩ := s
    simp only at he hl
    subst he
    by_cases ht : t.size < 65536
    · exact wtext_near g r xs t w hw hl ht
    · exact wtext_far g r xs t w hw hl (by omega)
  · exact wtext_not g r s t w hw hl he
end Go.Proofs.Ytajkiglogfahfaa
