/- The walk of the law SpanNames. -/
import Derived.Test.YtchajbegjajlkaaGreatSpU8
import Derived.Test.YtchajbegjajlkaaGreatSpU16
import Derived.Test.YtchajbegjajlkaaGreatSpU64
import Derived.Deep.RegionHeld3
import Derived.Deep.Cut
import Derived.Deep.DeepCutAuto
set_option linter.unusedVariables false
set_option linter.unusedSimpArgs false
namespace Go.Proofs.YtchajbegjajlkaaGreat
open Go.RowKit
open Bu
attribute [local go_sem] Oper.semAt_some
theorem wp_mid {c : Code} {P : Program} {Q' : Exit → Act → World → Prop} {a : Act} {w : World} (R : World → Prop) (d : Deferred) (h1 : c.wp P (fun e a' W => e = .normal ∧ a' = { a with defers := d :: a.defers } ∧ R W) a w) (h2 : ∀ W, R W → Q' .normal { a with defers := d :: a.defers } W) : c.wp P Q' a w :=
  Code.wp_mono (fun e a' W ⟨he, ha, hr⟩ => by subst he ha; exact h2 W hr) h1
/-- a call that answers v, below -/
def Tells (f : FuncId) (args : Array Value) (v : Value) (wx : World) : Prop := Calls Tryz.prog f args wx fun e w' => e = .returned v ∧ Below wx.heap.size wx w'
theorem nrm_all : Sp.Nrm S64.TOP [(0, 18446744073709551615)] := Sp.Nrm.one (by decide) (by decide)
theorem nrm_few : Sp.Nrm S8.TOP [(10, 20)] := Sp.Nrm.one (by decide) (by decide)
theorem n_sz16 (wx : World) : Tells 15 #[.agg #[.slice none 0 0]] (.tuple #[.int .u64 0, .bool true]) wx := S16.size_any none 0 0 [] wx (S16.IsSet.nil _)
theorem n_lg16 (wx : World) : Tells 16 #[.agg #[.slice none 0 0]] (.tuple #[.agg #[.int .u16 0, .int .u16 0], .bool false]) wx := S16.largest_any none 0 0 [] wx (S16.IsSet.nil _)
theorem n_ft16 (wx : World) : Tells 17 #[.agg #[.slice none 0 0], .int .u16 1, .int .u16 1] (.tuple #[.int .u16 0, .bool false]) wx := S16.fit_any none 0 0 1 1 [] wx (S16.IsSet.nil _) (by decide) (by decide)
theorem n_hs16 (wx : World) : Tells 18 #[.agg #[.slice none 0 0], .int .u16 0] (.bool false) wx := S16.has_any none 0 0 0 [] wx (S16.IsSet.nil _) (by decide)
theorem n_cv16 (wx : World) : Tells 19 #[.agg #[.slice none 0 0], .agg #[.int .u16 2, .int .u16 1]] (.bool true) wx := S16.covers_any none 0 0 2 1 [] wx (S16.IsSet.nil _) (by decide) (by decide)
theorem n_tc16 (wx : World) : Tells 20 #[.agg #[.slice none 0 0], .agg #[.int .u16 0, .int .u16 65535]] (.bool false) wx := S16.touches_any none 0 0 0 65535 [] wx (S16.IsSet.nil _) (by decide) (by decide)
theorem n_sp16 (wx : World) : Calls Tryz.prog 21 #[.agg #[.slice none 0 0]] wx fun e w' => ∃ A c, e = .returned (.slice A 0 c) ∧ Below wx.heap.size wx w' := (S16.spans_any none 0 0 [] wx (S16.IsSet.nil _)).mono fun e w' hh => by
  obtain ⟨⟨A, c, he, _⟩, hb⟩ := hh
  exact ⟨A, c, he, hb⟩
theorem n_of16 (wx : World) : Tells 29 #[.slice none 0 0] (.agg #[.slice none 0 0]) wx := S16.of_nil wx
theorem n_of8 (wx : World) : Tells 9 #[.slice none 0 0] (.agg #[.slice none 0 0]) wx := S8.of_nil wx
theorem n_sm16 (wx : World) : Tells 28 #[.agg #[.slice none 0 0], .agg #[.slice none 0 0]] (.bool true) wx := S16.ssame_any none none 0 0 0 0 [] [] wx (S16.IsSet.nil _) (S16.IsSet.nil _)
theorem n_sm8 (A : Option Addr) (c : Nat) (wx : World) (h : S8.IsSet wx A 1 c [(10, 20)]) : Tells 8 #[.agg #[.slice A 1 c], .agg #[.slice none 0 0]] (.bool false) wx := S8.ssame_any A none 1 0 c 0 [(10, 20)] [] wx h (S8.IsSet.nil _)
theorem n_ft8a (A : Option Addr) (c : Nat) (wx : World) (h : S8.IsSet wx A 1 c [(10, 20)]) : Tells 27 #[.agg #[.slice A 1 c], .int .u8 4, .int .u8 8] (.tuple #[.int .u8 16, .bool true]) wx := S8.fit_any A 1 c 4 8 [(10, 20)] wx h (by decide) (by decide)
theorem n_ft8b (A : Option Addr) (c : Nat) (wx : World) (h : S8.IsSet wx A 1 c [(10, 20)]) : Tells 27 #[.agg #[.slice A 1 c], .int .u8 6, .int .u8 8] (.tuple #[.int .u8 0, .bool false]) wx := S8.fit_any A 1 c 6 8 [(10, 20)] wx h (by decide) (by decide)
theorem n_sz64 (A : Option Addr) (c : Nat) (wx : World) (h : S64.IsSet wx A 1 c [(0, 18446744073709551615)]) : Tells 23 #[.agg #[.slice A 1 c]] (.tuple #[.int .u64 0, .bool false]) wx := by
  have h1 := S64.size_any A 1 c _ wx h
  rw [show S64.szW [(0, 18446744073709551615)] = 0 by decide +kernel] at h1
  exact h1
theorem n_ft64 (A : Option Addr) (c : Nat) (wx : World) (h : S64.IsSet wx A 1 c [(0, 18446744073709551615)]) : Tells 24 #[.agg #[.slice A 1 c], .int .u64 9223372036854775808, .int .u64 9223372036854775808] (.tuple #[.int .u64 0, .bool true]) wx := by
  have h1 := S64.fit_any A 1 c 9223372036854775808 9223372036854775808 _ wx h (by decide) (by decide)
  rw [show S64.fitS [(0, 18446744073709551615)] 9223372036854775808 9223372036854775808 = (0, true) by decide +kernel] at h1
  exact h1
theorem n_hs64 (A : Option Addr) (c : Nat) (wx : World) (h : S64.IsSet wx A 1 c [(0, 18446744073709551615)]) : Tells 25 #[.agg #[.slice A 1 c], .int .u64 18446744073709551615] (.bool true) wx := by
  have h1 := S64.has_any A 1 c 18446744073709551615 _ wx h (by decide)
  rw [show Sp.has [(0, 18446744073709551615)] 18446744073709551615 = true by decide +kernel] at h1
  exact h1
theorem n_of64 (g : Nat) (wx : World) (h : Row wx g 59 [.int .u64 0, .int .u64 18446744073709551615]) : Calls Tryz.prog 22 #[.slice (some ⟨g, 0, none⟩) 1 1] wx fun e w' => ∃ A c, e = .returned (.agg #[.slice A 1 c]) ∧ S64.OwnS w' wx.heap.size A 1 c [(0, 18446744073709551615)] ∧ Below wx.heap.size wx w' :=
  (S64.of_one g 1 0 18446744073709551615 wx h (by decide) (by decide)).mono fun e w' hh => hh
theorem n_ofb (g : Nat) (wx : World) (h : Row wx g 32 [.int .u8 10, .int .u8 20]) : Calls Tryz.prog 9 #[.slice (some ⟨g, 0, none⟩) 1 1] wx fun e w' => ∃ A c, e = .returned (.agg #[.slice A 1 c]) ∧ S8.OwnS w' wx.heap.size A 1 c [(10, 20)] ∧ Below wx.heap.size wx w' :=
  (S8.of_one g 1 10 20 wx h (by decide) (by decide)).mono fun e w' hh => hh
end Go.Proofs.YtchajbegjajlkaaGreat
