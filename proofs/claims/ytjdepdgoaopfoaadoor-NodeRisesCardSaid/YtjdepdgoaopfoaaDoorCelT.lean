/- The walks of the chapter on pages of cells: texts of cells, rows of texts. -/
import Derived.Test.YtjdepdgoaopfoaaDoorCelR
namespace Go.Proofs.YtjdepdgoaopfoaaDoor
open Go.RowKit

/-- 'append(out, x)': a row of the call's own gets one element more. -/
theorem wpList_append_one {P : Program} {w : World} {ops : Array Oper} {rest : List Oper} {o : Oper} {act : Act} {Q : Exit → Act → World → Prop} (hgd : o.guard = none) (s x : Operand) (t : TypeId)
    (ho : o.op = .call { callee := .builtin .append, args := #[s, x], argTypes := #[t, t] })
    (base : Nat) (e : TypeId) (i : TypeInfo) (z : Value) (bytes : Nat) (ht : P.underlying t = some (.slice e)) (hi : P.info? e = some i) (hz : i.zero = some z)
    (hsize : i.size = 1) (hby : i.bytes = bytes) (hzs : z.cells.size = 1)
    (v : Value) (n : Nat) (xs : List Value) (hs : act.eval s = v) (hown : w.ownsRow base e 1 v n xs)
    (b : Nat) (hx : act.eval x = .slice (some ⟨b, 0, none⟩) 1 1) (u : Value) (hu : w.cell? ⟨b, 0, none⟩ = some u) (h1 : u.oneCell' = true)
    (h63 : n + 1 ≤ maxLen) (hbytes : (n + 1) * bytes ≤ 140737488355328) (hbase : base ≤ w.heap.size)
    (h : ∀ v' w', w'.ownsRow base e 1 v' (n + 1) (xs ++ [u]) → w.grownBy w' v.ownBlock → wpList P ops Q rest (act.put o.dst v') w') : wpList P ops Q (o :: rest) act w := by
  refine wpList_append_own w hgd s x t ho base e i z 1 bytes ht hi hz hsize hby hzs (by decide) v n xs hs hown ⟨b, 0, none⟩ 1 1 [u] hx rfl ?_ (fun y hy => by
      obtain rfl := List.mem_singleton.1 hy; exact h1) h63 hbytes hbase fun v' w' h5 h6 _ => h v' w' h5 h6
  intro j y hj
  match j, hj with
  | 0, hj => cases hj; simpa [Addr.add] using hu
  | j + 1, hj => simp at hj

/-- The value that a text is. -/
def sv (c : List UInt8) : Value := .string (strOf c)
/-- The call hands back a row of texts of its own; nothing that was there has turned. -/
def OwnStrs (w : World) (l : List (List UInt8)) (e : Ending) (w' : World) : Prop :=
  ∃ v, e = .returned v ∧ w'.ownsRow w.heap.size 9 1 v l.length (l.map sv) ∧ Below w.heap.size w w'

theorem Strs.of_own {w : World} {base : Nat} {v : Value} {n : Nat} {l : List (List UInt8)} (h : w.ownsRow base 9 1 v n (l.map sv)) :
    ∃ a cap, v = .slice a n cap ∧ Strs w a n cap l := by
  obtain ⟨h1, h2⟩ := h
  simp only [List.length_map, Nat.mul_one] at h1
  rcases h2 with ⟨rfl, rfl⟩ | ⟨g, cap, cur, rfl, hb, hg, hn, hm, hc, ht⟩
  · exact ⟨none, 0, rfl, h1, Nat.le_refl _, by unfold maxLen; omega, fun _ => rfl, .inl rfl⟩
  · refine ⟨_, cap, rfl, h1, hn, hm, (fun h => by cases h), .inr ⟨g, 0, rfl, (Array.getElem?_eq_some_iff.1 hg).1, fun i y hy => ⟨[sv y], rfl, rfl, fun j u hu => ?_⟩⟩⟩
    have hi := (List.getElem?_eq_some_iff.1 hy).1
    match j, hu with
    | 0, hu =>
      cases hu
      simp only [World.cell?, hg, Nat.zero_add, Nat.mul_one, Nat.add_zero]
      have e : (cur.toList.take (n * 1))[i]? = cur.toList[i]? := List.getElem?_take_of_lt (by omega)
      rw [ht] at e
      rw [← Array.getElem?_toList, ← e]
      simp [hy]
    | j + 1, hu => simp at hu

theorem info_str : (Tryd.prog.info? 9).map (fun i => (i.zero, i.size, i.bytes)) = some (some (.string ByteArray.empty), 1, 16) := by kernel_rfl

set_option maxRecDepth 100000 in
set_option maxHeartbeats 1000000 in
theorem texts_any (a : Option Addr) (len cap : Nat) (l : List (List UInt8)) (w : World) (h : Bss w a len cap l) (hn : len ≤ 65536) :
    Calls Tryd.prog 31 #[.slice a len cap] w (OwnStrs w l) := by
  have hll := Lib.hid h.1
  have hm := h.2.2.1
  have hc := h.2.1
  unfold maxLen at hm
  obtain ⟨i0, hi, hz0, hz1, hz2⟩ := info_parts info_str
  go_enter Tryd.func31, Tryd.ntmps31
  go_wp2
  go_loopw [3, 4] (fun v i wr => ∃ k : Nat, k ≤ len ∧ i = .int .i64 k ∧ wr.ownsRow w.heap.size 9 1 v k ((l.take k).map sv) ∧ Below w.heap.size w wr) (fun _ i _ => len - (intOf i).toNat)
  case atStart => exact ⟨0, Nat.zero_le _, rfl, World.ownsRow_nil _ _ _ _, Below.refl _ _⟩
  case round =>
    obtain ⟨k, hk, rfl, hown, hb⟩ := hrel
    by_cases hlt : k < len
    · obtain ⟨b, off, a', n', cap', rfl, hbb, hcell, hbs⟩ := (h.below (Nat.le_refl _) hb).at hlt
      have hst := Lib.hid (take_snoc l k [] (by rw [hll.out]; exact hlt))
      generalize l[k]?.getD [] = c at *
      have hcv := conv_string Tryd.underlying26 Tryd.underlying5 Tryd.underlying9 hbs
      have HSZ := Lib.hid hb.size
      have hB1 := Lib.hid (hb.alloc hb.size (.cells #[.string (strOf c)] 9))
      have hown1 := hown.alloc (.cells #[.string (strOf c)] 9)
      have hcl : (wr.alloc (.cells #[.string (strOf c)] 9)).cell? ⟨wr.heap.size, 0, none⟩ = some (sv c) := by
        simp only [World.cell?, World.alloc_heap_new]; rfl
      have HG := Lib.hid (own_ge hown)
      clear hown
      go_wp2_with (at_builtin; refine wpList_append_one rfl _ _ 61 rfl w.heap.size 9 i0 _ 16 Tryd.underlying61 hi hz0 hz1 hz2 rfl _ k _ rfl hown1 wr.heap.size rfl (sv c) hcl rfl (by unfold maxLen; omega) (by omega) (by have := HSZ.out; simp; omega) ?_)
      intro v2 w2 hown2 hg
      have HB := Lib.hid (hB1.out.grown hg (by have := HSZ.out; simp; omega) (fun j e => HG.out j e))
      clear hg
      go_wp2
      go_roundw
      case rel => exact ⟨k + 1, by omega, by go_num, by rw [hst.out, List.map_append, List.map_take]; exact hown2, HB.out⟩
      case measure => simp [intOf]; omega
    · obtain rfl : k = len := by omega
      have hx : l.take k = l := List.take_of_length_le (by rw [hll.out]; exact Nat.le_refl _)
      rw [hx] at hown
      go_wp2
      go_ret
      exact ⟨_, rfl, by rw [hll.out]; exact hown, hb⟩

/-- Few and short cells. -/
def smallF (l : List (List UInt8)) : Bool := decide (l.length ≤ 300) && l.all fun c => decide (c.length ≤ 300)
theorem small_lens (l : List (List UInt8)) (h : l.all (fun c => decide (c.length ≤ 300)) = true) : lens l ≤ l.length * 300 := by
  induction l with
  | nil => simp [lens]
  | cons c r ih =>
    simp only [List.all_cons, Bool.and_eq_true, decide_eq_true_eq] at h
    have := ih h.2
    simp only [lens, List.map_cons, List.sum_cons, List.length_cons] at this ⊢
    omega
theorem smallF_true {l : List (List UInt8)} (h : smallF l = true) : l.length ≤ 300 ∧ lens l ≤ 90000 := by
  simp only [smallF, Bool.and_eq_true, decide_eq_true_eq] at h
  have := small_lens l h.2
  exact ⟨h.1, by omega⟩

end Go.Proofs.YtjdepdgoaopfoaaDoor
