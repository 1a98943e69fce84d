/- A tree in its box beside a row of keys that grows between its puts. -/
import Derived.Test.YtemfnjlfcemehaaTreDsq
import Derived.Test.YtemfnjlfcemehaaTreOrq
namespace Go.Proofs.Ytemfnjlfcemehaa
open Go.RowKit

/-- Blocks from some place on that are not a row's. -/
def Qr (B : Nat) (v : Value) (x : Nat) : Prop := B ≤ x ∧ ∀ g, v.ownBlock = some g → x ≠ g
def PutStayOn (Q : Nat → Prop) (b : Nat) (w wr : World) (N : Nat) (T : Tr) (EP : List (List UInt8 × Tv)) (wx : World) : Prop :=
  ∃ M, TrOn Q b wx M T ∧ M ≤ N + 1 ∧ entsT M T = EP ∧ AgreeF (fun x => x ≠ b) wr wx ∧ Below w.heap.size w wx
theorem PutStayOn.mk {Q : Nat → Prop} {b : Nat} {w wr w9 : World} {N M : Nat} {T : Tr} {EP : List (List UInt8 × Tv)} {G : Nat → Prop} {x0 x1 x2 x3 x4 : Value} {p : Int} {lf : Bool} {a1 : Option Addr} {n1 c1 : Nat} {a2 : Option Addr} {n2 c2 : Nat} {a3 : Option Addr} {n3 c3 : Nat} (hx : Boxes w9 [(b, [x0, x1, x2, x3, x4])])
    (h : NodeOn G M w9 [.int .i64 p, .bool lf, .slice a1 n1 c1, .slice a2 n2 c2, .slice a3 n3 c3] T) (hG : ∀ x, G x → Q x) (hb : ¬ Q b) (hw : Whole M T) (hM : M ≤ N + 1) (hE : entsT M T = EP) (hA : AgreeF (fun x => x ≠ b) wr w9) (hB : Below w.heap.size w w9) (hle : w.heap.size ≤ b) :
    PutStayOn Q b w wr N T EP (set5 w9 b (.int .i64 p) (.bool lf) (.slice a1 n1 c1) (.slice a2 n2 c2) (.slice a3 n3 c3)) := by
  have e := set5_box hx (by simp) (.int .i64 p) (.bool lf) (.slice a1 n1 c1) (.slice a2 n2 c2) (.slice a3 n3 c3)
  have hag : AgreeF (fun x => x ≠ b) w9 (set5 w9 b (.int .i64 p) (.bool lf) (.slice a1 n1 c1) (.slice a2 n2 c2) (.slice a3 n3 c3)) := agree_set5 (by simp) _ _ _ _ _
  refine ⟨M, ⟨p, lf, a1, n1, c1, a2, n2, c2, a3, n3, c3, e, ?_, hw⟩, hM, hE, hA.trans hag, set5_below hB hle _ _ _ _ _⟩
  exact (NodeOn.mono hG h).agree (hag.sub (fun x hx e => hb (e ▸ hx)))
theorem TrOn.lt {Q : Nat → Prop} {b : Nat} {w : World} {N : Nat} {t : Tr} (h : TrOn Q b w N t) : TrOn (fun x => Q x ∧ x < w.heap.size) b w N t := by
  obtain ⟨p, lf, a1, n1, c1, a2, n2, c2, a3, n3, c3, h1, h2, h3⟩ := h
  exact ⟨p, lf, a1, n1, c1, a2, n2, c2, a3, n3, c3, h1, h2.lt, h3⟩
theorem TrOn.mono {Q R : Nat → Prop} {b : Nat} {w : World} {N : Nat} {t : Tr} (hQ : ∀ x, Q x → R x) (h : TrOn Q b w N t) : TrOn R b w N t := by
  obtain ⟨p, lf, a1, n1, c1, a2, n2, c2, a3, n3, c3, h1, h2, h3⟩ := h
  exact ⟨p, lf, a1, n1, c1, a2, n2, c2, a3, n3, c3, h1, NodeOn.mono hQ h2, h3⟩
/-- One more key, the tree beside it as it was. -/
theorem row_grows {B b : Nat} {w : World} {v : Value} {q : List (List UInt8)} {N : Nat} {t : Tr} (h : OwnKs B w v q) (hB : B ≤ w.heap.size) (hl : q.length ≤ 10000) (y : List UInt8) (ht : TrOn (Qr B v) b w N t) (hbB : b < B) :
    ∃ v' w', (Builtin.append_ #[29, 29] 29 #[v, .slice (some ⟨w.heap.size, 0, none⟩) 1 1]).run Try.prog (w.alloc (.cells #[.string (strOf y)] 9)) = .ok v' w' ∧ OwnKs B w' v' (q ++ [y]) ∧ TrOn (Qr B v') b w' N t ∧ w.grownBy w' v.ownBlock := by
  obtain ⟨i, z, i1, i2, i3, i4, i5⟩ := info_K
  obtain ⟨v', w', hr, ho, hg, hv⟩ := run_append_new (P := Try.prog) B 29 9 i z 1 16 Try.underlying29 i1 i2 i3 i4 i5 (by decide) h #[.string (strOf y)] rfl (by intro u hu; simp at hu; subst hu; rfl) (by unfold maxLen; omega) (by omega) hB
  refine ⟨v', w', hr, ?_, ?_, hg⟩
  · unfold OwnKs
    rw [List.length_append, List.flatMap_append]
    exact ho
  · have hag : AgreeF (fun x => ∀ g, v.ownBlock = some g → x ≠ g) w w' := ⟨hg.size, fun x hx hlt => hg.block x hlt (fun e => hx x e.symm rfl)⟩
    have h2 := ht.lt.agree hag (fun x hx => hx.1.2) (fun g hg e => by have := (h.lt g hg).1; omega)
    refine h2.mono (fun x hx => ⟨hx.1.1, fun g e => ?_⟩)
    rcases hv with hv | hv
    · exact hx.1.2 g (hv ▸ e)
    · rw [hv] at e
      cases e
      have := hx.2
      omega
theorem perm_swap_key {q : List (List UInt8)} {x y : Nat} {a b : List UInt8} (hx : q[x]? = some a) (hy : q[y]? = some b) : List.Perm ((q.set x b).set y a) q := by
  obtain ⟨hx1, hx2⟩ := List.getElem?_eq_some_iff.1 hx
  obtain ⟨hy1, hy2⟩ := List.getElem?_eq_some_iff.1 hy
  subst hx2 hy2
  exact List.set_set_perm hx1 hy1
theorem mem_put_key {key : List UInt8} {v : Tv} {l : List (List UInt8 × Tv)} {q : List (List UInt8)} (h : Srt l) (hl : ∀ c ∈ l, c.1 ∈ q) : ∀ c ∈ putL key v l, c.1 ∈ q ++ [key] := fun c hc => by
  rcases (mem_put h c).1 hc with rfl | hc
  · simp
  · simp [hl c hc.1]
/-- Put and deleted again. -/
theorem put_del {key : List UInt8} {v : Tv} {l : List (List UInt8 × Tv)} (h : Srt l) : (delL key (putL key v l)).length + (if (lookT l key).isSome then 1 else 0) = l.length := by
  have h1 := put_length (key := key) (v := v) h
  have h2 := del_length (key := key) (srt_put (key := key) (v := v) h)
  rw [look_put h] at h2
  simp only [Option.isSome_some, if_true] at h2
  split at h1 <;> simp_all <;> omega
end Go.Proofs.Ytemfnjlfcemehaa
