/- Rows of the document's cells on blocks of any kind: a kid written over; the node. -/
import Derived.Test.YtemfnjlfcemehaaM13
import Derived.Test.YtemfnjlfcemehaaTreDpq
namespace Go.Proofs.Ytemfnjlfcemehaa
open Go.RowKit

theorem CellsF.mono {E : TypeId} {F G : Nat → Prop} {n B : Nat} {w : World} {v : Value} {l : List Rc} (h : CellsF E F n B w v l) (hFG : ∀ b, F b → G b) : CellsF E G n B w v l := by
  obtain ⟨L, h1, h2⟩ := h
  exact ⟨L, h1, h2.mono (fun _ _ _ h => h.mono hFG)⟩
theorem CellsF.sl {E : TypeId} {F : Nat → Prop} {n B : Nat} {w : World} {v : Value} {l : List Rc} (h : CellsF E F n B w v l) :
    ∃ a c, v = .slice a l.length c ∧ l.length ≤ c ∧ c ≤ 9223372036854775807 ∧ TabR 4 (RcOn F n w) w a l.length c l ∧ Fa (fun b => B ≤ b) a l.length ∧ (0 < l.length → ∃ g, a = some ⟨g, 0, none⟩ ∧ B ≤ g ∧ g < w.heap.size ∧ ∀ o, w.frozen? ⟨g, o, none⟩ = false) := by
  obtain ⟨L, h1, h2⟩ := h
  have hlen : L.length = l.length := h2.1
  rcases h1.2 with ⟨rfl, h0⟩ | ⟨g, cap, cur, rfl, hg, hh, hn, hm, hr⟩
  · have : l = [] := List.eq_nil_of_length_eq_zero h0
    subst this
    exact ⟨none, 0, rfl, by simp, by omega, ⟨rfl, by simp, by unfold maxLen; omega, fun _ => rfl, .inl rfl⟩, .inl rfl, fun h => by simp at h⟩
  · refine ⟨_, cap, rfl, hn, by unfold maxLen at hm; omega, ?_, Fa.of_own h1 (fun b hb => hb), fun _ => ⟨g, rfl, hg, (Array.getElem?_eq_some_iff.1 hh).1, fun o => by simp [World.frozen?, hh]⟩⟩
    obtain ⟨a', c', e, hr'⟩ := Raw.of_own h1 hlen
    cases e
    exact hr'.tab h2
/-- All cells: the node, on the row's block too. -/
theorem CellsF.nodeH {E : TypeId} {G H : Nat → Prop} {n B : Nat} {w : World} {v : Value} {t : Tr} (h : CellsF E G n B w v (cellsR t)) (hG : ∀ b, G b → H b) (hB : ∀ b, B ≤ b → H b) :
    RNodeOn H (n + 1) w [.int .i64 t.page, .bool t.isLeaf, v] t := by
  obtain ⟨a, c, rfl, _, _, h1, h2, _⟩ := h.sl
  rw [cellsR_len] at h1 h2 ⊢
  exact RNodeOn.mk (TabR.mono h1 (fun _ _ h => h.mono hG)) (h2.mono hB)
/-- A cell's kid written over. -/
theorem CellsF.kidPut {E : TypeId} {G : Nat → Prop} {n B : Nat} {w : World} {g m c : Nat} {l : List Rc} (h : CellsF E G n B w (.slice (some ⟨g, 0, none⟩) m c) l) {k : Nat} {y : Rc} (hk : l[k]? = some y) (hG : ¬ G g) {ka : Option Addr} {kn kc : Nat} {T : Tr} (hr : TabR 3 (RNodeOn G n w) w ka kn kc [T]) (hf : Fa G ka kn) :
    CellsF E G n B (w.setCell ⟨g, k * 4 + 3, none⟩ (.slice ka kn kc)) (.slice (some ⟨g, 0, none⟩) m c) (l.set k ⟨y.key, y.val, some T⟩) := by
  obtain ⟨L, h1, h2⟩ := h
  have hag : AgreeF G w (w.setCell ⟨g, k * 4 + 3, none⟩ (.slice ka kn kc)) := AgreeF.set ⟨Nat.le_refl _, fun _ _ _ => rfl⟩ (.inl hG)
  have hkl := (List.getElem?_eq_some_iff.1 hk).1
  have hlen : l.length = m := by
    rcases h1.2 with ⟨e, _⟩ | ⟨g', cap, cur, e, _⟩
    · cases e
    · cases e; rfl
  obtain ⟨x, hx⟩ : ∃ x, L[k]? = some x := ⟨_, List.getElem?_eq_getElem (by rw [h2.1]; exact hkl)⟩
  have hxy := h2.2 k x y hx hk
  obtain ⟨pa, pn, pc, ka0, kn0, kc0, ex, k1, k2, _, _⟩ := hxy
  have hx' : RcOn G n w [.string (strOf y.key), .string (strOf y.val.data), .slice pa pn pc, .slice ka kn kc] ⟨y.key, y.val, some T⟩ := ⟨pa, pn, pc, ka, kn, kc, rfl, k1, k2, hr, hf⟩
  obtain ⟨p, s, hp, q1, q2⟩ := flat_parts (fun y : Cl 4 => y.1) 4 (fun y => y.2.1) hx
  have g0 := own_put (by rw [hlen] at h1; exact h1) (k * 4 + 3) (.slice ka kn kc) (by omega)
  refine ⟨L.set k ⟨_, hx'.len, hx'.one⟩, ?_, (h2.mono (fun _ _ _ h => h.agree hag)).set k (hx'.agree hag)⟩
  have e1 : flatC L = p ++ ([.string (strOf y.key), .string (strOf y.val.data), .slice pa pn pc, .slice ka0 kn0 kc0] ++ s) := by rw [← ex]; exact q1
  have e2 : flatC (L.set k ⟨_, hx'.len, hx'.one⟩) = p ++ ([.string (strOf y.key), .string (strOf y.val.data), .slice pa pn pc, .slice ka kn kc] ++ s) := q2 ⟨_, hx'.len, hx'.one⟩
  rw [List.length_set, hlen, e2]
  rw [e1, ← hp] at g0
  rw [← hp]
  simpa using g0
theorem cells_set {p : Int} {l : List (List UInt8 × Tr)} {k : Nat} {y : Rc} (h : (cellsR (.node p l))[k]? = some y) (T : Tr) : (cellsR (.node p l)).set k ⟨y.key, y.val, some T⟩ = cellsR (.node 0 (l.set k (keyAt l k, T))) := by
  rw [cellsR_node] at h
  obtain ⟨x, hx1, hx2⟩ := Option.map_eq_some_iff.1 h
  subst hx2
  have hkey : keyAt l k = x.1 := by unfold keyAt; rw [hx1]; rfl
  simp [cellsR, List.map_set, hkey]
end Go.Proofs.Ytemfnjlfcemehaa
