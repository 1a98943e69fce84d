/- The laws of the chapter on metas: the newest one of any two pages is the document's. -/
import Derived.Test.YtjdepdgoaopfoaaDoorMetL
namespace Go.Proofs.YtjdepdgoaopfoaaDoor
open Go.RowKit

/-- A box with a meta's cells. -/
def MBox (w : World) (b : Nat) (m : Mt) : Prop :=
  b < w.heap.size ∧ w.cell? ⟨b, 0, none⟩ = some (.int .i64 m.label) ∧ w.cell? ⟨b, 1, none⟩ = some (.int .u64 m.txn) ∧ w.cell? ⟨b, 2, none⟩ = some (.int .i64 m.root) ∧ w.cell? ⟨b, 3, none⟩ = some (.int .i64 m.list) ∧ w.cell? ⟨b, 4, none⟩ = some (.int .i64 m.high)
theorem MBox.below {w w' : World} {b B : Nat} {m : Mt} (h : MBox w b m) (hB : w.heap.size ≤ B) (hb : Below B w w') : MBox w' b m := by
  have hl := Nat.lt_of_lt_of_le h.1 hB
  exact ⟨Nat.lt_of_lt_of_le h.1 hb.size, (hb.cell (p := ⟨b, 0, none⟩) hl).trans h.2.1, (hb.cell (p := ⟨b, 1, none⟩) hl).trans h.2.2.1, (hb.cell (p := ⟨b, 2, none⟩) hl).trans h.2.2.2.1, (hb.cell (p := ⟨b, 3, none⟩) hl).trans h.2.2.2.2.1, (hb.cell (p := ⟨b, 4, none⟩) hl).trans h.2.2.2.2.2⟩
theorem MBox.new (w : World) (m : Mt) (t : TypeId) : MBox (w.alloc (.cells #[.int .i64 m.label, .int .u64 m.txn, .int .i64 m.root, .int .i64 m.list, .int .i64 m.high] t)) w.heap.size m :=
  ⟨by simp, rbox_cells (m := m) (World.alloc_heap_new w _)⟩

set_option maxRecDepth 100000 in
set_option maxHeartbeats 8000000 in
theorem lNewest (a1 : Option Addr) (n1 c1 : Nat) (l : List UInt8) (a2 : Option Addr) (n2 c2 : Nat) (m : List UInt8) (label : Int) (w : World) (h1 : Bs w a1 n1 c1 l) (h2 : Bs w a2 n2 c2 m) (hh : Half w) :
    Calls Tryd.prog 4 #[.slice a1 n1 c1, .slice a2 n2 c2, .int .i64 label] w fun e w' => e = .returned (.bool true) ∧ Below w.heap.size w w' := by
  have hl1 := h1.len
  have hl2 := h2.len
  have haw := mawake_any w hh
  by_cases h3 : 300 < n1
  · clear hl1 hl2
    go_enter Tryd.func4, Tryd.ntmps4
    go_wp2_with fail
    refine haw.mono ?_
    rintro e w1 ⟨rfl, hb⟩
    go_wp2_with fail
    go_ret
    exact ⟨rfl, hb⟩
  by_cases h4 : 300 < n2
  · clear hl1 hl2
    go_enter Tryd.func4, Tryd.ntmps4
    go_wp2_with fail
    refine haw.mono ?_
    rintro e w1 ⟨rfl, hb⟩
    go_wp2_with fail
    go_ret
    exact ⟨rfl, hb⟩
  have G1 : ∀ W, Below w.heap.size w W → Calls Tryd.prog 21 #[.slice a1 n1 c1] W (GetPost W (getM l) (getE l)) := fun W hW => mget_any a1 n1 c1 l W (h1.below (Nat.le_refl _) hW) (hh.below (Nat.le_refl _) hW)
  have R1 : ∀ W, Calls Tryd.prog 22 #[.string (strOf l)] W (GetPost W (getM l) (getE l)) := fun W => rget_any l W (by omega)
  have N1 : ∀ W, Below w.heap.size w W → Calls Tryd.prog 23 #[.slice a1 n1 c1, .slice a2 n2 c2, .int .i64 label] W (NewPost W (newM l m label) (newB l m label)) := fun W hW => newest_any a1 a2 n1 n2 c1 c2 l m label W (h1.below (Nat.le_refl _) hW) (h2.below (Nat.le_refl _) hW) (hh.below (Nat.le_refl _) hW)
  have M1 : ∀ W, Calls Tryd.prog 24 #[.string (strOf l), .string (strOf m), .int .i64 label] W (NewPost W (newM l m label) (newB l m label)) := fun W => rnewest_any l m label W (by omega) (by omega)
  have hcv1 : ∀ W, Below w.heap.size w W → (convert 26 9 (.slice a1 n1 c1)).run Tryd.prog W = .ok (.string (strOf l)) W := fun W hW => conv_string Tryd.underlying26 Tryd.underlying5 Tryd.underlying9 (h1.below (Nat.le_refl _) hW)
  have hcv2 : ∀ W, Below w.heap.size w W → (convert 26 9 (.slice a2 n2 c2)).run Tryd.prog W = .ok (.string (strOf m)) W := fun W hW => conv_string Tryd.underlying26 Tryd.underlying5 Tryd.underlying9 (h2.below (Nat.le_refl _) hW)
  generalize getM l = x at *
  generalize getE l = ge at *
  generalize newM l m label = y at *
  generalize newB l m label = nb at *
  have hee : (ge == ge) = true := by simp
  have hnn : (nb == nb) = true := by simp
  have P1 := fun W => plain_any x W
  have P2 := fun W => plain_any y W
  have Q1 := fun W => rsame x W
  have Q2 := fun W => rsame y W
  have HEE := Lib.hid hee
  have HNN := Lib.hid hnn
  have HP1 := Lib.hid P1
  have HP2 := Lib.hid P2
  have HQ1 := Lib.hid Q1
  have HQ2 := Lib.hid Q2
  clear hl1 hl2 h1 h2 hh hee hnn P1 P2 Q1 Q2
  go_enter Tryd.func4, Tryd.ntmps4
  go_wp2_with fail
  refine haw.mono ?_
  rintro e w1 ⟨rfl, hb⟩
  go_wp2_with fail
  refine (G1 w1 hb).mono ?_
  rintro e w2 ⟨rfl, hb2⟩
  unfold mv mcells
  have hx := below_then hb2 (below_box w2 (.cells #[.int .i64 x.label, .int .u64 x.txn, .int .i64 x.root, .int .i64 x.list, .int .i64 x.high] 24))
  have B1 := MBox.new w2 x 24
  have hb := below_then hb hx
  have hv1 := hcv1 _ hb
  clear hx hb2
  go_wp2_with fail
  clear hv1
  generalize w2.alloc _ = W2 at *
  generalize w2.heap.size = b2 at *
  refine (R1 W2).mono ?_
  rintro e w3 ⟨rfl, hb3⟩
  unfold mv mcells
  have hx := below_then hb3 (below_box w3 (.cells #[.int .i64 x.label, .int .u64 x.txn, .int .i64 x.root, .int .i64 x.list, .int .i64 x.high] 32))
  have B1 := B1.below (Nat.le_refl _) hx
  have B2 := MBox.new w3 x 32
  have hb := below_then hb hx
  clear hx hb3
  go_wp2_with fail
  generalize w3.alloc _ = W3 at *
  generalize w3.heap.size = b3 at *
  refine (N1 W3 hb).mono ?_
  rintro e w4 ⟨rfl, hb4⟩
  unfold mv mcells
  have hx := below_then hb4 (below_box w4 (.cells #[.int .i64 y.label, .int .u64 y.txn, .int .i64 y.root, .int .i64 y.list, .int .i64 y.high] 24))
  have B1 := B1.below (Nat.le_refl _) hx
  have B2 := B2.below (Nat.le_refl _) hx
  have B3 := MBox.new w4 y 24
  have hb := below_then hb hx
  have hv1 := hcv1 _ hb
  have hv2 := hcv2 _ hb
  clear hx hb4
  go_wp2_with fail
  clear hv1 hv2 hcv1 hcv2
  generalize w4.alloc _ = W4 at *
  generalize w4.heap.size = b4 at *
  refine (M1 W4).mono ?_
  rintro e w5 ⟨rfl, hb5⟩
  unfold mv mcells
  have hx := below_then hb5 (below_box w5 (.cells #[.int .i64 y.label, .int .u64 y.txn, .int .i64 y.root, .int .i64 y.list, .int .i64 y.high] 32))
  have B1 := B1.below (Nat.le_refl _) hx
  have B2 := B2.below (Nat.le_refl _) hx
  have B3 := B3.below (Nat.le_refl _) hx
  have B4 := MBox.new w5 y 32
  have hb := below_then hb hx
  clear hx hb5
  go_wp2_with fail
  generalize w5.alloc _ = W5 at *
  generalize w5.heap.size = b5 at *
  have k10 := fun W hW => (MBox.below (w' := W) B1 (Nat.le_refl _) hW).2.1
  have k11 := fun W hW => (MBox.below (w' := W) B1 (Nat.le_refl _) hW).2.2.1
  have k12 := fun W hW => (MBox.below (w' := W) B1 (Nat.le_refl _) hW).2.2.2.1
  have k13 := fun W hW => (MBox.below (w' := W) B1 (Nat.le_refl _) hW).2.2.2.2.1
  have k14 := fun W hW => (MBox.below (w' := W) B1 (Nat.le_refl _) hW).2.2.2.2.2
  have k20 := fun W hW => (MBox.below (w' := W) B2 (Nat.le_refl _) hW).2.1
  have k21 := fun W hW => (MBox.below (w' := W) B2 (Nat.le_refl _) hW).2.2.1
  have k22 := fun W hW => (MBox.below (w' := W) B2 (Nat.le_refl _) hW).2.2.2.1
  have k23 := fun W hW => (MBox.below (w' := W) B2 (Nat.le_refl _) hW).2.2.2.2.1
  have k24 := fun W hW => (MBox.below (w' := W) B2 (Nat.le_refl _) hW).2.2.2.2.2
  have k30 := fun W hW => (MBox.below (w' := W) B3 (Nat.le_refl _) hW).2.1
  have k31 := fun W hW => (MBox.below (w' := W) B3 (Nat.le_refl _) hW).2.2.1
  have k32 := fun W hW => (MBox.below (w' := W) B3 (Nat.le_refl _) hW).2.2.2.1
  have k33 := fun W hW => (MBox.below (w' := W) B3 (Nat.le_refl _) hW).2.2.2.2.1
  have k34 := fun W hW => (MBox.below (w' := W) B3 (Nat.le_refl _) hW).2.2.2.2.2
  have k40 := fun W hW => (MBox.below (w' := W) B4 (Nat.le_refl _) hW).2.1
  have k41 := fun W hW => (MBox.below (w' := W) B4 (Nat.le_refl _) hW).2.2.1
  have k42 := fun W hW => (MBox.below (w' := W) B4 (Nat.le_refl _) hW).2.2.2.1
  have k43 := fun W hW => (MBox.below (w' := W) B4 (Nat.le_refl _) hW).2.2.2.2.1
  have k44 := fun W hW => (MBox.below (w' := W) B4 (Nat.le_refl _) hW).2.2.2.2.2
  have hC : Below W5.heap.size W5 W5.drew := (Below.refl _ _).drew
  have hP1 := HP1.out
  have hP2 := HP2.out
  unfold mv mcells at hP1 hP2
  have hee := HEE.out
  have hnn := HNN.out
  have hq1 := HQ1.out
  have hq2 := HQ2.out
  clear HP1 HP2 HEE HNN HQ1 HQ2 B1 B2 B3 B4 G1 R1 N1 M1
  go_region_held3 (fun W => Below W5.heap.size W5 W) (assumption) (first | (go_at_call 16; (with_reducible refine (hP1 _).mono ?_); rintro e wa ⟨rfl, hba⟩; have hC8 := hC.trans (hba.mono hC.size)) | (go_at_call 16; (with_reducible refine (hP2 _).mono ?_); rintro e wb ⟨rfl, hbb⟩; have hC9 := hC8.trans (hbb.mono hC8.size)))
  have hb9 := below_then hb hC9
  go_wp2_with fail
  go_ret
  exact ⟨rfl, hb9⟩
end Go.Proofs.YtjdepdgoaopfoaaDoor
