/- The walks of the chapter on pages of cells: the document's example. -/
import Derived.Test.YtoaiiiblakgopaaDoorCelB
import Derived.Test.YtoaiiiblakgopaaDoorCelY
import Derived.Outline
namespace Go.Proofs.YtoaiiiblakgopaaDoor
open Go.RowKit

/-- The example's page. -/
def exPage : List UInt8 := pageOf 1 [[97]]
theorem exPage_length : exPage.length = 128 := pageOf_length 1 [[97]] (by decide)
theorem exPage_6 : exPage[6]?.getD 0 = 127 := by
  rw [exPage, pageOf, List.getElem?_append_right (by rw [beBytes_length]; omega), beBytes_length]; rfl
theorem exPage_127 : exPage[127]?.getD 0 = 97 := by
  rw [exPage, pageOf, List.getElem?_append_right (by rw [beBytes_length]; omega), beBytes_length]; decide

theorem bss_one {w : World} (b g : Nat) (hb : b < w.heap.size) (hg : w.cell? ⟨b, 0, none⟩ = some (.slice (some ⟨g, 0, none⟩) 1 1)) (hg2 : g < w.heap.size) (hc : w.cell? ⟨g, 0, none⟩ = some (.int .u8 97)) : Bss w (some ⟨b, 0, none⟩) 1 1 [[97]] := by
  refine ⟨rfl, Nat.le_refl _, by unfold maxLen; omega, (fun h => by cases h), .inr ⟨b, 0, rfl, hb, fun i y hy => ?_⟩⟩
  match i, hy with
  | 0, hy =>
    cases hy
    refine ⟨[.slice (some ⟨g, 0, none⟩) 1 1], rfl, ⟨_, 1, 1, rfl, ⟨rfl, Nat.le_refl _, by unfold maxLen; omega, (fun h => by cases h), .inr ⟨g, 0, rfl, hg2, fun i hi => ?_⟩⟩⟩, fun j v hv => ?_⟩
    · obtain rfl : i = 0 := by omega
      simpa [toI] using hc
    · match j, hv with
      | 0, hv => cases hv; simpa using hg
      | j + 1, hv => simp at hv
  | i + 1, hy => simp at hy

set_option maxRecDepth 100000 in
set_option maxHeartbeats 4000000 in
theorem awake_any (w : World) (hh : Half w) :
    Calls Tryd.prog 8 #[] w fun e w' => e = .returned (.bool true) ∧ Below w.heap.size w w' := by
  have hB1 := ((Below.refl w.heap.size w).alloc (Nat.le_refl _) (.cells #[.int .u8 97] 5)).alloc (by simp) (.cells #[.slice (some ⟨w.heap.size, 0, none⟩) 1 1] 25)
  go_enter Tryd.func8, Tryd.ntmps8
  have hbss : Bss ((w.alloc (.cells #[.int .u8 97] 5)).alloc (.cells #[.slice (some ⟨w.heap.size, 0, none⟩) 1 1] 25)) (some ⟨w.heap.size + 1, 0, none⟩) 1 1 [[97]] := by
    refine bss_one _ w.heap.size (by simp) ?_ (by simp; omega) ?_
    · have := World.alloc_heap_new (w.alloc (.cells #[.int .u8 97] 5)) (.cells #[.slice (some ⟨w.heap.size, 0, none⟩) 1 1] 25)
      have e : (w.alloc (.cells #[.int .u8 97] 5)).heap.size = w.heap.size + 1 := by simp
      rw [e] at this
      simp only [World.cell?, this]; rfl
    · have h1 := World.alloc_heap_new w (.cells #[.int .u8 97] 5)
      have h2 := Below.heap_alloc (w.alloc (.cells #[.int .u8 97] 5)) (.cells #[.slice (some ⟨w.heap.size, 0, none⟩) 1 1] 25) w.heap.size (by simp)
      rw [h1] at h2
      simp only [World.cell?, h2]; rfl
  have hp : ∀ W, Bss W (some ⟨w.heap.size + 1, 0, none⟩) 1 1 [[97]] → Half W → Calls Tryd.prog 10 #[.int .u8 1, .slice (some ⟨w.heap.size + 1, 0, none⟩) 1 1] W (PackPost W exPage) := fun W h1 h2 => pack_ok 1 _ 1 1 [[97]] W h1 h2 (by decide) (by decide)
  have hp := hp _ hbss (hh.below (Nat.le_refl _) hB1)
  have HB1 := Lib.hid hB1
  clear hB1 hbss
  obtain ⟨u1, u2, u3⟩ := page_back 1 [[97]] (by decide)
  have hun := fun a n cap W => unpack_any a n cap exPage W
  rw [exPage, u1, u2, u3, ← exPage] at hun
  clear u1 u2 u3
  have HL := Lib.hid exPage_length
  have H6 := Lib.hid exPage_6
  have H127 := Lib.hid exPage_127
  go_wp2_with fail
  refine hp.mono ?_
  rintro e w1 ⟨v1, rfl, hown, hb1⟩
  have hB := below_then HB1.out hb1
  have hown : w1.ownsRow w.heap.size 5 1 v1 128 ((toI exPage).map (Value.int .u8)) := own_base hown (HB1.out.size)
  obtain ⟨a1, c1, rfl, hbs⟩ := Bs.of_own hown
  clear hp hb1 hown
  generalize exPage = pg at *
  go_wp2_with fail
  refine (hun a1 128 c1 w1 hbs (hh.below (Nat.le_refl _) hB)).mono ?_
  rintro e w2 ⟨v2, rfl, hob, hb2⟩
  have hB2 := below_then hB hb2
  obtain ⟨a2, c2, rfl, hbs2⟩ := hob.bss
  have hbs1 := hbs.below (Nat.le_refl _) hb2
  clear hbs hob hb2 hun
  go_wp2_with fail
  refine (pack_zero none 0 0 w2).mono ?_
  rintro e w3 ⟨rfl, rfl⟩
  obtain ⟨b, off, rfl, _, hcell⟩ := hbs1.cell (k := 0) (by omega)
  have q127 := hcell 127 (by omega)
  have q6 := hcell 6 (by omega)
  rw [H127.out] at q127
  rw [H6.out] at q6
  obtain ⟨b3, off3, a3, n3, cap3, rfl, _, q0, hx⟩ := hbs2.at (k := 0) (by decide)
  have hx : Bs w2 a3 n3 cap3 [97] := hx
  have hcv := conv_string Tryd.underlying25 Tryd.underlying5 Tryd.underlying9 hx
  rw [Nat.add_zero] at q0
  have hsz : Calls Tryd.prog 13 #[.slice (some ⟨b3, off3, none⟩) 1 c2] w2 fun e w' => e = .returned (.int .i64 2) ∧ w2 = w' := csize_any _ _ _ _ w2 hbs2 (by decide)
  have q127 : w2.cell? ⟨b, off + 127, none⟩ = some (.int .u8 97) := q127
  have q6 : w2.cell? ⟨b, off + 6, none⟩ = some (.int .u8 127) := q6
  have hst := strOf_toList [97]
  have hm := hbs1.cap
  have hm2 := hbs2.2.2.1
  unfold maxLen at hm hm2
  clear hcell hx hbs1 hbs2
  go_wp2_with (go_at_call 13; refine hsz.mono ?_; rintro e w4 ⟨rfl, rfl⟩)
  go_ret
  exact ⟨rfl, hB2⟩
end Go.Proofs.YtoaiiiblakgopaaDoor
