/- The walk of Loose. -/
import Derived.Test.YtopnfpobbemfbaaLd
namespace Go.Proofs.Ytopnfpobbemfbaa
open Go.RowKit

def LoosePost (w : World) (l : List Nat) (e : Ending) (w' : World) : Prop :=
  ∃ v, e = .returned v ∧ w'.ownsRow w.heap.size 3 1 v l.length (l.map fun n : Nat => Value.int .i64 (n : Int)) ∧ Below w.heap.size w w'
set_option maxRecDepth 100000 in
set_option maxHeartbeats 4000000 in
theorem dloose_in {w : World} {F : List Nat} {db M : Nat} {bs : List (Nat × List Nat)} {d : List Rg} (h : DskIn w F db M bs d) (hM : M ≤ 1000000) (i : Nat) (x : Rg) (hx : d[i]? = some x) :
    Calls Try.prog 16 #[.pointer (some ⟨db, 0, none⟩), .int .i64 (i : Int)] w (LoosePost w (x.loose.map (·.1))) := by
  have hi : i < d.length := (List.getElem?_eq_some_iff.1 hx).1
  obtain ⟨q, hq⟩ : ∃ q, bs[i]? = some q := ⟨_, List.getElem?_eq_getElem (by rw [h.len]; exact hi)⟩
  have R := h.reg i q x hq hx
  have O := of_in h i q hq
  obtain ⟨a, cap, c0, hc1, hc2, hlM, hrow⟩ := R.loose
  have HLT := Lib.hid R.lt
  obtain ⟨i0, hi0, hz0, hz1, hz2⟩ := info_parts info_int
  clear h hx hq R hi
  go_enter Try.func16, Try.ntmps16
  go_wp2_with fail
  refine O.mono ?_
  rintro e w' ⟨rfl, rfl⟩
  go_wp2_with fail
  go_loopw [19, 6] (fun s v wr => ∃ (k : Nat), k ≤ x.loose.length ∧ s = .int .i64 k ∧ wr.ownsRow w.heap.size 3 1 v k ((x.loose.take k).map fun y => Value.int .i64 (y.1 : Int)) ∧ Below w.heap.size w wr) (fun s _ _ => x.loose.length - (intOf s).toNat)
  case atStart => exact ⟨0, Nat.zero_le _, rfl, World.ownsRow_nil _ _ _ _, Below.refl _ _⟩
  case round =>
    obtain ⟨k, hk, rfl, hown, hbw⟩ := hrel
    by_cases hlt : k < x.loose.length
    · obtain ⟨y, hy⟩ : ∃ y, x.loose[k]? = some y := ⟨_, List.getElem?_eq_getElem hlt⟩
      obtain ⟨g, rfl, hgf, hr⟩ := hrow k y hy
      have hr2 : wr.rangeAt g (k * 129) (wcells y) := rangeAt_only (S := []) hr (Only.of_below hbw) (by simp)
      have HL := load_write hr2
      obtain ⟨w1, hfill, hb1, hs1, hra, hfz⟩ := fresh_fill (P := Try.prog) wr 78 (wcells (0, zpage)) (wcells y) (by rw [wcells_length, wcells_length]) (wcells_one y)
      have hc0 := wcells_at hra
      have hwr := hbw.size
      obtain ⟨v', w2, hr9, ho9, hg9, _⟩ := run_append_new (P := Try.prog) (w := w1) w.heap.size 28 3 i0 _ 1 8 Try.underlying28 hi0 hz0 hz1 hz2 rfl (by decide) (own_step hown hb1) #[.int .i64 (y.1 : Int)] rfl (by intro u hu; simp at hu; subst hu; rfl) (by unfold maxLen; omega) (by omega) (by omega)
      have hb2 : Below w.heap.size w w2 := (hbw.trans (hb1.mono hwr)).grown hg9 (by omega) (own_ge hown)
      have hts : (x.loose.take (k + 1)).map (fun y => Value.int .i64 (y.1 : Int)) = (x.loose.take k).map (fun y => Value.int .i64 (y.1 : Int)) ++ [.int .i64 (y.1 : Int)] := by
        rw [List.take_succ_eq_append_getElem hlt, List.map_append, (List.getElem?_eq_some_iff.1 hy).2]; rfl
      have END : ∃ k' : Nat, k' ≤ x.loose.length ∧ Value.int .i64 ((k + 1 : Nat) : Int) = .int .i64 k' ∧ w2.ownsRow w.heap.size 3 1 v' k' ((x.loose.take k').map fun y => Value.int .i64 (y.1 : Int)) ∧ Below w.heap.size w w2 := ⟨k + 1, hlt, rfl, by rw [hts]; exact ho9, hb2⟩
      have END := Lib.hid END
      have ZW := zero_write
      have SZ := wcells_length y
      clear hts ho9 hg9 hr hr2 hra hfz hb1 hown hbw hwr hb2 hi0 hz0 hz1 hz2 hrow hlM hy
      go_wp2_with fail
      refine wp_load_run 78 _ rfl rfl HL ?_
      go_at_K
      go_wp2_with (at_builtin; refine wpList_append_run rfl _ _ _ _ rfl rfl rfl hr9 ?_)
      go_roundw
      case rel => exact END.out
      case measure => simp [intOf]; omega
    · obtain rfl : k = x.loose.length := by omega
      go_wp2_with fail
      rw [List.take_length] at hown
      go_ret
      refine ⟨_, rfl, ?_, hbw⟩
      rw [List.map_map, List.length_map]
      exact hown
end Go.Proofs.Ytopnfpobbemfbaa
