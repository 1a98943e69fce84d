/- Texts that other texts of this claim lean on, one behind the other. -/
import Derived.Test.YtemfnjlfcemehaaM6
import Derived.Test.YtemfnjlfcemehaaM3
import Derived.Test.YtemfnjlfcemehaaM2
import Derived.Test.YtemfnjlfcemehaaM4
import Derived.Deep.RegionHeld3
import Derived.Test.YtemfnjlfcemehaaM1
import Derived.OwnWalk
/- What the walks ask of trees that may be. -/
namespace Go.Proofs.Ytemfnjlfcemehaa
open Go.RowKit

theorem shape_cnt {n : Nat} {lo hi : List UInt8} {t : Tr} (h : Shape n lo hi t) (hs : sumT t ≤ 200) : cntT t ≤ 50 := by
  have h1 := len_sum (fun x hx => (shape_cells h x hx).1)
  have e : (sizesT t).length = cntT t := sizes_len t
  have : sumI (sizesT t) = sumT t := rfl
  omega
theorem kid_keys {P : List UInt8 → List UInt8 → Tr → Prop} {lo hi : List UInt8} {l : List (List UInt8 × Tr)} (h : KidsP P lo hi l) (h0 : keyAt l 0 = []) : ∀ c ∈ l, c.1.length ≤ 16 := by
  cases l with
  | nil => intro c hc; cases hc
  | cons c r =>
    intro d hd
    rcases List.mem_cons.1 hd with rfl | hd
    · have : d.1 = [] := by simpa [keyAt] using h0
      rw [this]; simp
    · exact (kids_keys h d hd).2
theorem shape_bnd : ∀ {n : Nat} {lo hi : List UInt8} {t : Tr}, Shape n lo hi t → sumT t ≤ 200 → Bnd n t
  | 0, _, _, _, h, _ => h.elim
  | n + 1, lo, hi, .leaf p l, h, hs => by
    have hc := shape_cnt h hs
    obtain ⟨rfl, hl⟩ := h
    have : l.length ≤ 50 := hc
    refine ⟨by omega, fun c hm => ?_⟩
    obtain ⟨h1, _, _, h2⟩ := hl.2 c hm
    have := h1.2
    have := h2.1
    omega
  | n + 1, lo, hi, .node p l, h, hs => by
    have hc := shape_cnt h hs
    obtain ⟨h1, h0⟩ := shape_kids h
    have : l.length ≤ 50 := hc
    refine ⟨by omega, fun c hm => ⟨by have := kid_keys h1 h0 c hm; omega, ?_⟩⟩
    obtain ⟨lo', hi', g⟩ := kids_each h1 c hm
    exact shape_bnd g.1 (by have := g.2.2; omega)
theorem bnd_join {n : Nat} {key : List UInt8} {x y : Tr} (hx : Bnd (n + 1) x) (hy : Bnd (n + 1) y) (h1 : cntT x ≤ 400) (h2 : cntT y ≤ 400) (hk : key.length ≤ 200) : Bnd (n + 1) (joinT key x y) := by
  cases x with
  | leaf p l =>
    cases y with
    | leaf q m =>
      have h1 : l.length ≤ 400 := h1
      have h2 : m.length ≤ 400 := h2
      refine ⟨by simp; omega, fun c hc => ?_⟩
      rcases List.mem_append.1 hc with hc | hc
      · exact hx.2 c hc
      · exact hy.2 c hc
    | node q m => exact hx
  | node p l =>
    cases y with
    | leaf q m => exact hx
    | node q m =>
      have h1 : l.length ≤ 400 := h1
      have h2 : m.length ≤ 400 := h2
      have e : (firstK key m).length = m.length := by cases m <;> rfl
      refine ⟨by rw [List.length_append]; omega, fun c hc => ?_⟩
      rcases List.mem_append.1 hc with hc | hc
      · exact hx.2 c hc
      · cases m with
        | nil => cases hc
        | cons d r =>
          rcases List.mem_cons.1 hc with rfl | hc
          · exact ⟨hk, (hy.2 d (by simp)).2⟩
          · exact hy.2 c (List.mem_cons_of_mem _ hc)
theorem mendOk_of {m : Nat} {l : List (List UInt8 × Tr)} (hlen : l.length ≤ 1000) (h : ∀ c ∈ l, c.1.length ≤ 200 ∧ ∃ lo hi, Shape (m + 1) lo hi c.2 ∧ sumT c.2 ≤ 200) : MendOk m l where
  len := hlen
  bnd := fun c hc => by obtain ⟨_, lo, hi, h1, h2⟩ := h c hc; exact shape_bnd h1 h2
  kind := fun c hc d hd => by
    obtain ⟨_, lo, hi, h1, _⟩ := h c hc
    obtain ⟨_, lo', hi', h2, _⟩ := h d hd
    rw [shape_kind h1, shape_kind h2]
  some_ := fun c hc hl => by
    obtain ⟨_, lo, hi, h1, _⟩ := h c hc
    cases hcc : c.2 with
    | leaf p l => rw [hcc] at hl; cases hl
    | node p l => rw [hcc] at h1; exact List.length_pos_iff.2 (kids_ne (shape_kids h1).1)
  both := fun j hj => by
    obtain ⟨c, hc, ec⟩ := kid_mem (l := l) (k := j) (by omega)
    obtain ⟨d, hd, ed⟩ := kid_mem (l := l) (k := j + 1) hj
    obtain ⟨_, lo, hi, h1, s1⟩ := h c hc
    obtain ⟨_, lo', hi', h2, s2⟩ := h d hd
    have hk : (keyAt l (j + 1)).length ≤ 200 := by
      have := (h l[j + 1] (List.getElem_mem hj)).1
      simpa [keyAt, hj] using this
    rw [← ec, ← ed]
    exact bnd_join (shape_bnd h1 s1) (shape_bnd h2 s2) (by have := shape_cnt h1 s1; omega) (by have := shape_cnt h2 s2; omega) hk
theorem node_kids {n : Nat} {lo hi : List UInt8} {p : Int} {l : List (List UInt8 × Tr)} (h : Shape (n + 1) lo hi (.node p l)) : ∀ c ∈ l, c.1.length ≤ 200 ∧ ∃ lo hi, Shape n lo hi c.2 ∧ sumT c.2 ≤ 200 := by
  obtain ⟨h1, h0⟩ := shape_kids h
  intro c hc
  obtain ⟨lo', hi', g⟩ := kids_each h1 c hc
  exact ⟨by have := kid_keys h1 h0 c hc; omega, lo', hi', g.1, by have := g.2.2; omega⟩
theorem set_kids {n : Nat} {l : List (List UInt8 × Tr)} (h : ∀ c ∈ l, c.1.length ≤ 200 ∧ ∃ lo hi, Shape n lo hi c.2 ∧ sumT c.2 ≤ 200) {k : Nat} {key : List UInt8} {T : Tr} (hk : key.length ≤ 200) {lo hi : List UInt8} (hT : Shape n lo hi T) (hs : sumT T ≤ 200) :
    ∀ c ∈ l.set k (key, T), c.1.length ≤ 200 ∧ ∃ lo hi, Shape n lo hi c.2 ∧ sumT c.2 ≤ 200 := by
  intro c hc
  rcases List.mem_or_eq_of_mem_set hc with hc | rfl
  · exact h c hc
  · exact ⟨hk, lo, hi, hT, hs⟩
theorem key_len {n : Nat} {l : List (List UInt8 × Tr)} (h : ∀ c ∈ l, c.1.length ≤ 200 ∧ ∃ lo hi, Shape n lo hi c.2 ∧ sumT c.2 ≤ 200) (k : Nat) : (keyAt l k).length ≤ 200 := by
  unfold keyAt
  cases e : l[k]? with
  | none => simp
  | some c => exact (h c (List.mem_of_getElem? e)).1
theorem putOk_of : ∀ {n : Nat} {lo hi key : List UInt8} {v : Tv} {t : Tr}, Shape n lo hi t → sumT t ≤ 122 → (∀ p l, t = .node p l → 2 ≤ l.length) → keyOk key → ¬ key < lo → ltH hi key → valOk v → PutOk n t key v
  | 0, _, _, _, _, _, h, _, _, _, _, _, _ => h.elim
  | n + 1, lo, hi, key, v, .leaf p l, h, hs, _, hk, hlo, hhi, hv => by
    have hc : l.length ≤ 50 := shape_cnt h (by omega)
    obtain ⟨rfl, hl⟩ := h
    exact ⟨by omega, hl.1⟩
  | n + 1, lo, hi, key, v, .node p l, h, hs, h2, hk, hlo, hhi, hv => by
    have hc : l.length ≤ 50 := shape_cnt h (by omega)
    have hall := node_kids h
    obtain ⟨h1, h0⟩ := shape_kids h
    have hl2 := h2 p l rfl
    obtain ⟨a, c, b, lo', hi', e, hal, hcx, hp, g1, g2⟩ := way_focus h1 hlo hhi
    have hkid : kidAt l (wayF (keysOf l) key) = c.2 := by
      rw [← hal]
      conv => lhs; rw [e]
      exact kidAt_at a b c
    have i0 := putOk_of hp.1 hp.2.2 (fun q m e => good_len (p := q) (by rw [← e]; exact hp)) hk g1 g2 hv
    obtain ⟨i1, i2, _⟩ := put_ok hp.1 hp.2.2 (fun q m e => good_len (p := q) (by rw [← e]; exact hp)) hk g1 g2 hv
    cases n with
    | zero => exact hp.1.elim
    | succ m =>
      refine ⟨by omega, by omega, by rw [hkid]; exact i0, m, rfl, ?_⟩
      rw [hkid]
      exact mendOk_of (by simp; omega) (set_kids hall (key_len hall _) i1 (by omega))
theorem topOk_of : ∀ {n : Nat} {t : Tr}, Shape n [] [] t → sumT t ≤ 200 → TopOk n t
  | 0, _, h, _ => h.elim
  | n + 1, t, h, hs => by
    refine ⟨shape_bnd h hs, fun hl => ?_, fun p l e h1 => ?_⟩
    · cases t with
      | leaf p l => cases hl
      | node p l => exact List.length_pos_iff.2 (kids_ne (shape_kids h).1)
    · subst e
      obtain ⟨hk, h0⟩ := shape_kids h
      obtain ⟨c, rfl⟩ := List.length_eq_one_iff.1 h1
      have hg : Good n [] [] c.2 := hk
      have := topOk_of hg.1 (by have := hg.2.2; omega)
      simpa [kidAt] using this
theorem findOk_of : ∀ {n : Nat} {lo hi key : List UInt8} {t : Tr}, Shape n lo hi t → sumT t ≤ 200 → FindOk n t key
  | 0, _, _, _, _, h, _ => h.elim
  | n + 1, lo, hi, key, .leaf p l, h, hs => by
    have hc : l.length ≤ 50 := shape_cnt h hs
    obtain ⟨rfl, hl⟩ := h
    exact ⟨by omega, hl.1⟩
  | n + 1, lo, hi, key, .node p l, h, hs => by
    have hc : l.length ≤ 50 := shape_cnt h hs
    have hall := node_kids h
    have hpos := List.length_pos_iff.2 (kids_ne (shape_kids h).1)
    obtain ⟨c, hm, e⟩ := kid_mem (l := l) (k := wayF (keysOf l) key) (by have := wayF_lt (ks := keysOf l) key (by simpa [keysOf] using hpos); simpa [keysOf] using this)
    obtain ⟨_, lo', hi', g1, g2⟩ := hall c hm
    exact ⟨hpos, by omega, by rw [← e]; exact findOk_of g1 g2⟩
/-! whole trees -/
theorem Whole.bnd {n : Nat} {t : Tr} (h : Whole n t) : Bnd n t := shape_bnd h.1.1 (by have := h.1.2.1; omega)
theorem Whole.find {n : Nat} {t : Tr} (h : Whole n t) (key : List UInt8) : FindOk n t key := findOk_of h.1.1 (by have := h.1.2.1; omega)
theorem Whole.put {n : Nat} {t : Tr} {key : List UInt8} {v : Tv} (h : Whole n t) (hk : keyOk key) (hv : valOk v) : PutOk n t key v ∧ TopOk n (putT n t key v) := by
  obtain ⟨i1, i2, _⟩ := put_ok h.1.1 h.1.2.1 h.1.2.2 hk (knil key) (ltH_nil _) hv
  exact ⟨putOk_of h.1.1 h.1.2.1 h.1.2.2 hk (knil key) (ltH_nil _) hv, topOk_of i1 (by omega)⟩
/-- A tree as deep as it is. -/
theorem NodeOn.less {F : Nat → Prop} : ∀ {m n : Nat} {lo hi : List UInt8} {w : World} {cs : List Value} {t : Tr}, NodeOn F n w cs t → Shape m lo hi t → NodeOn F m w cs t
  | 0, _, _, _, _, _, _, _, h => h.elim
  | _, 0, _, _, _, _, _, h, _ => h.elim
  | m + 1, n + 1, lo, hi, w, cs, .leaf p l, h, _ => h
  | m + 1, n + 1, lo, hi, w, cs, .node p l, h, hs => by
    obtain ⟨ka, kn, kc, va, vc, ca, cn, cc, e, h1, f1, h2, h3, f3⟩ := h
    refine ⟨ka, kn, kc, va, vc, ca, cn, cc, e, h1, f1, h2, ?_, f3⟩
    have hall := node_kids hs
    exact TabR.agree h3 (Fa.mono f3 (fun _ h => h)) (AgreeF.refl w) (fun cs y hy h => by
      obtain ⟨c, hc, rfl⟩ := List.mem_map.1 hy
      obtain ⟨_, lo', hi', g, _⟩ := hall c hc
      exact NodeOn.less h g)
/-- A tree that a put leaves. -/
def PutTo (F : Nat → Prop) (n : Nat) (w : World) (t : Tr) (key : List UInt8) (v : Tv) (e : Ending) (w' : World) : Prop :=
  ∃ m cs, m ≤ n + 1 ∧ e = .returned (.agg cs.toArray) ∧ NodeOn (Fr F w) m w' cs (putW n t key v) ∧ Whole m (putW n t key v) ∧ entsT m (putW n t key v) = putL key v (entsT n t) ∧ Below w.heap.size w w'
theorem tPut_whole {n : Nat} {F : Nat → Prop} {w : World} {cs : List Value} {t : Tr} (h : NodeOn F n w cs t) (hw : Whole n t) (key d : List UInt8) (hk : keyOk key) (hd : d.length ≤ 400) :
    Calls Try.prog 33 #[.agg cs.toArray, .string (strOf key), .string (strOf d)] w (PutTo F n w t key ⟨d, []⟩) := by
  have hv : valOk ⟨d, []⟩ := ⟨hd, fun h => absurd rfl h⟩
  obtain ⟨h1, h2⟩ := hw.put hk hv
  refine (tPut_any key d h h1 h2).mono ?_
  rintro e w' ⟨cs', rfl, h3, h4⟩
  obtain ⟨m, e1, e2, e3⟩ := whole_put hw hk hv
  exact ⟨m, cs', e1, rfl, h3.less e2.1.1, e2, e3, h4⟩
end Go.Proofs.Ytemfnjlfcemehaa

/- The document's nodes that stand on some blocks alone. -/
namespace Go.Proofs.Ytemfnjlfcemehaa
open Go.RowKit

/-- A cell, as the document has it. -/
structure Rc where
  key : List UInt8
  val : Tv
  kid : Option Tr
def cellsR : Tr → List Rc
  | .leaf _ l => l.map fun c => ⟨c.1, c.2, none⟩
  | .node _ l => l.map fun c => ⟨c.1, ⟨[], []⟩, some c.2⟩
theorem cellsR_len (t : Tr) : (cellsR t).length = cntT t := by cases t <;> simp [cellsR, cntT]
theorem cellsR_keys (t : Tr) : (cellsR t).map (·.key) = t.keys := by
  cases t <;> simp [cellsR, Tr.keys, keysOf, Function.comp_def]
theorem cellsR_leaf (p : Int) (l : List (List UInt8 × Tv)) (i : Nat) : (cellsR (.leaf p l))[i]? = (l[i]?).map fun c => ⟨c.1, c.2, none⟩ := by simp [cellsR]
theorem cellsR_node (p : Int) (l : List (List UInt8 × Tr)) (i : Nat) : (cellsR (.node p l))[i]? = (l[i]?).map fun c => ⟨c.1, ⟨[], []⟩, some c.2⟩ := by simp [cellsR]
/-- A node's cells, all of it on some blocks. -/
def RNodeOn (F : Nat → Prop) : Nat → World → List Value → Tr → Prop
  | 0, _, _, _ => False
  | n + 1, w, cs, t => ∃ a c, cs = [.int .i64 t.page, .bool t.isLeaf, .slice a (cntT t) c] ∧ TabR 4 (fun cs (y : Rc) => ∃ pa pn pc ka kn kc, cs = [.string (strOf y.key), .string (strOf y.val.data), .slice pa pn pc, .slice ka kn kc] ∧ Row .i64 w pa pn pc y.val.pages ∧ Fa F pa pn ∧ TabR 3 (RNodeOn F n w) w ka kn kc y.kid.toList ∧ Fa F ka kn) w a (cntT t) c (cellsR t) ∧ Fa F a (cntT t)
/-- A cell's words. -/
def RcOn (F : Nat → Prop) (n : Nat) (w : World) (cs : List Value) (y : Rc) : Prop := ∃ pa pn pc ka kn kc, cs = [.string (strOf y.key), .string (strOf y.val.data), .slice pa pn pc, .slice ka kn kc] ∧ Row .i64 w pa pn pc y.val.pages ∧ Fa F pa pn ∧ TabR 3 (RNodeOn F n w) w ka kn kc y.kid.toList ∧ Fa F ka kn
theorem RNodeOn.at {F : Nat → Prop} {n : Nat} {w : World} {cs : List Value} {t : Tr} (h : RNodeOn F (n + 1) w cs t) : ∃ a c, cs = [.int .i64 t.page, .bool t.isLeaf, .slice a (cntT t) c] ∧ TabR 4 (RcOn F n w) w a (cntT t) c (cellsR t) ∧ Fa F a (cntT t) := h
theorem RNodeOn.mk {F : Nat → Prop} {n : Nat} {w : World} {t : Tr} {a : Option Addr} {c : Nat} (h : TabR 4 (RcOn F n w) w a (cntT t) c (cellsR t)) (hf : Fa F a (cntT t)) : RNodeOn F (n + 1) w [.int .i64 t.page, .bool t.isLeaf, .slice a (cntT t) c] t := ⟨a, c, rfl, h, hf⟩
theorem RcOn.agree' {F : Nat → Prop} {n : Nat} {w w' : World} (H : ∀ {cs : List Value} {t : Tr}, RNodeOn F n w cs t → RNodeOn F n w' cs t) (ha : AgreeF F w w') {cs : List Value} {y : Rc} (h : RcOn F n w cs y) : RcOn F n w' cs y := by
  obtain ⟨pa, pn, pc, ka, kn, kc, e, h1, f1, h2, f2⟩ := h
  exact ⟨pa, pn, pc, ka, kn, kc, e, h1.agree f1 ha, f1, TabR.agree h2 f2 ha (fun _ _ _ h => H h), f2⟩
theorem RNodeOn.agree {F : Nat → Prop} : ∀ {n : Nat} {w w' : World} {cs : List Value} {t : Tr}, RNodeOn F n w cs t → AgreeF F w w' → RNodeOn F n w' cs t
  | 0, _, _, _, _, h, _ => h.elim
  | n + 1, _, _, _, t, h, ha => by
    obtain ⟨a, c, e, h1, f1⟩ := h.at
    exact ⟨a, c, e, TabR.agree h1 f1 ha (fun _ _ _ h => RcOn.agree' (fun h => RNodeOn.agree h ha) ha h), f1⟩
theorem RcOn.agree {F : Nat → Prop} {n : Nat} {w w' : World} {cs : List Value} {y : Rc} (h : RcOn F n w cs y) (ha : AgreeF F w w') : RcOn F n w' cs y := RcOn.agree' (fun h => h.agree ha) ha h
theorem RNodeOn.below {F : Nat → Prop} {n : Nat} {w w' : World} {cs : List Value} {t : Tr} (h : RNodeOn F n w cs t) (hb : Below w.heap.size w w') : RNodeOn F n w' cs t := h.agree (.of_below hb)
theorem RcOn.below {F : Nat → Prop} {n : Nat} {w w' : World} {cs : List Value} {y : Rc} (h : RcOn F n w cs y) (hb : Below w.heap.size w w') : RcOn F n w' cs y := h.agree (.of_below hb)
theorem RcOn.mono' {F G : Nat → Prop} (hFG : ∀ b, F b → G b) {n : Nat} {w : World} (H : ∀ {cs : List Value} {t : Tr}, RNodeOn F n w cs t → RNodeOn G n w cs t) {cs : List Value} {y : Rc} (h : RcOn F n w cs y) : RcOn G n w cs y := by
  obtain ⟨pa, pn, pc, ka, kn, kc, e, h1, f1, h2, f2⟩ := h
  exact ⟨pa, pn, pc, ka, kn, kc, e, h1, f1.mono hFG, TabR.mono h2 (fun _ _ h => H h), f2.mono hFG⟩
theorem RNodeOn.mono {F G : Nat → Prop} (hFG : ∀ b, F b → G b) : ∀ {n : Nat} {w : World} {cs : List Value} {t : Tr}, RNodeOn F n w cs t → RNodeOn G n w cs t
  | 0, _, _, _, h => h.elim
  | n + 1, _, _, t, h => by
    obtain ⟨a, c, e, h1, f1⟩ := h.at
    exact ⟨a, c, e, TabR.mono h1 (fun _ _ h => RcOn.mono' hFG (fun h => RNodeOn.mono hFG h) h), f1.mono hFG⟩
theorem RcOn.mono {F G : Nat → Prop} (hFG : ∀ b, F b → G b) {n : Nat} {w : World} {cs : List Value} {y : Rc} (h : RcOn F n w cs y) : RcOn G n w cs y := RcOn.mono' hFG (fun h => h.mono hFG) h
theorem RcOn.lt' {F : Nat → Prop} {n : Nat} {w : World} (H : ∀ {cs : List Value} {t : Tr}, RNodeOn F n w cs t → RNodeOn (fun b => F b ∧ b < w.heap.size) n w cs t) {cs : List Value} {y : Rc} (h : RcOn F n w cs y) : RcOn (fun b => F b ∧ b < w.heap.size) n w cs y := by
  obtain ⟨pa, pn, pc, ka, kn, kc, e, h1, f1, h2, f2⟩ := h
  exact ⟨pa, pn, pc, ka, kn, kc, e, h1, f1.and h1.block, TabR.mono h2 (fun _ _ h => H h), f2.and h2.block⟩
theorem RNodeOn.lt {F : Nat → Prop} : ∀ {n : Nat} {w : World} {cs : List Value} {t : Tr}, RNodeOn F n w cs t → RNodeOn (fun b => F b ∧ b < w.heap.size) n w cs t
  | 0, _, _, _, h => h.elim
  | n + 1, _, _, t, h => by
    obtain ⟨a, c, e, h1, f1⟩ := h.at
    exact ⟨a, c, e, TabR.mono h1 (fun _ _ h => RcOn.lt' (fun h => RNodeOn.lt h) h), f1.and h1.block⟩
theorem RcOn.lt {F : Nat → Prop} {n : Nat} {w : World} {cs : List Value} {y : Rc} (h : RcOn F n w cs y) : RcOn (fun b => F b ∧ b < w.heap.size) n w cs y := RcOn.lt' (fun h => h.lt) h
theorem RcOn.more' {F : Nat → Prop} {n m : Nat} {w : World} (H : ∀ {cs : List Value} {t : Tr}, RNodeOn F n w cs t → RNodeOn F m w cs t) {cs : List Value} {y : Rc} (h : RcOn F n w cs y) : RcOn F m w cs y := by
  obtain ⟨pa, pn, pc, ka, kn, kc, e, h1, f1, h2, f2⟩ := h
  exact ⟨pa, pn, pc, ka, kn, kc, e, h1, f1, TabR.mono h2 (fun _ _ h => H h), f2⟩
theorem RNodeOn.more {F : Nat → Prop} : ∀ {n m : Nat} {w : World} {cs : List Value} {t : Tr}, RNodeOn F n w cs t → n ≤ m → RNodeOn F m w cs t
  | 0, _, _, _, _, h, _ => h.elim
  | n + 1, 0, _, _, _, _, h => by omega
  | n + 1, m + 1, _, _, t, h, hm => by
    obtain ⟨a, c, e, h1, f1⟩ := h.at
    exact ⟨a, c, e, TabR.mono h1 (fun _ _ h => RcOn.more' (fun h => RNodeOn.more h (by omega)) h), f1⟩
theorem RcOn.more {F : Nat → Prop} {n m : Nat} {w : World} {cs : List Value} {y : Rc} (h : RcOn F n w cs y) (hm : n ≤ m) : RcOn F m w cs y := RcOn.more' (fun h => h.more hm) h
theorem RcOn.one {F : Nat → Prop} {n : Nat} {w : World} {cs : List Value} {y : Rc} (h : RcOn F n w cs y) : ∀ u ∈ cs, u.oneCell' = true := by
  obtain ⟨pa, pn, pc, ka, kn, kc, rfl, _⟩ := h
  intro u hu
  simp at hu
  rcases hu with rfl | rfl | rfl | rfl <;> rfl
theorem RcOn.len {F : Nat → Prop} {n : Nat} {w : World} {cs : List Value} {y : Rc} (h : RcOn F n w cs y) : cs.length = 4 := by
  obtain ⟨pa, pn, pc, ka, kn, kc, rfl, _⟩ := h
  rfl
theorem RNodeOn.one {F : Nat → Prop} {n : Nat} {w : World} {cs : List Value} {t : Tr} (h : RNodeOn F n w cs t) : ∀ u ∈ cs, u.oneCell' = true := by
  cases n with
  | zero => exact h.elim
  | succ n =>
    obtain ⟨a, c, rfl, _⟩ := h.at
    intro u hu
    simp at hu
    rcases hu with rfl | rfl | rfl <;> rfl
/-- A node opened: its row, word by word. -/
theorem RNodeOn.open {F : Nat → Prop} {n : Nat} {w : World} {cs : List Value} {t : Tr} (h : RNodeOn F (n + 1) w cs t) :
    ∃ a c L, cs = [.int .i64 t.page, .bool t.isLeaf, .slice a (cntT t) c] ∧ Raw 4 w a (cntT t) c L ∧ Tells (RcOn F n w) L (cellsR t) ∧ Fa F a (cntT t) := by
  obtain ⟨a, c, e, h1, f1⟩ := h.at
  obtain ⟨L, l1, l2⟩ := TabR.raw h1 (fun _ _ h => h.one)
  exact ⟨a, c, L, e, l1, l2, f1⟩
theorem RNodeOn.shut {F : Nat → Prop} {n : Nat} {w : World} {t : Tr} {a : Option Addr} {m c : Nat} {p : Int} {lf : Bool} {L : List (Cl 4)} (hp : t.page = p) (hl : t.isLeaf = lf) (h1 : Raw 4 w a m c L) (h2 : Tells (RcOn F n w) L (cellsR t)) (f1 : Fa F a m) : RNodeOn F (n + 1) w [.int .i64 p, .bool lf, .slice a m c] t := by
  subst hp hl
  have : m = cntT t := by rw [← h1.1, h2.1, cellsR_len]
  subst this
  exact ⟨a, c, rfl, h1.tab h2, f1⟩
/-- A node that a call answers. -/
def RNodeTo (F : Nat → Prop) (n : Nat) (w : World) (t : Tr) (e : Ending) (w' : World) : Prop := ∃ cs, e = .returned (.agg cs.toArray) ∧ RNodeOn (Fr F w) n w' cs t ∧ Below w.heap.size w w'
/-- A cell of a node's row. -/
theorem RNodeOn.cell {F : Nat → Prop} {n : Nat} {w : World} {a : Option Addr} {m c : Nat} {l : List Rc} (h : TabR 4 (RcOn F n w) w a m c l) {k : Nat} (hk : k < m) :
    ∃ b off y pa pn pc ka kn kc, a = some ⟨b, off, none⟩ ∧ b < w.heap.size ∧ l[k]? = some y ∧ RcOn F n w [.string (strOf y.key), .string (strOf y.val.data), .slice pa pn pc, .slice ka kn kc] y ∧ Row .i64 w pa pn pc y.val.pages ∧ Fa F pa pn ∧ TabR 3 (RNodeOn F n w) w ka kn kc y.kid.toList ∧ Fa F ka kn ∧
      w.cell? ⟨b, off + k * 4, none⟩ = some (.string (strOf y.key)) ∧ w.cell? ⟨b, off + k * 4 + 1, none⟩ = some (.string (strOf y.val.data)) ∧ w.cell? ⟨b, off + k * 4 + 2, none⟩ = some (.slice pa pn pc) ∧ w.cell? ⟨b, off + k * 4 + 3, none⟩ = some (.slice ka kn kc) := by
  obtain ⟨b, off, y, cs, e1, e2, e3, _, hy, e6⟩ := TabR.at h hk
  obtain ⟨pa, pn, pc, ka, kn, kc, rfl, h1, f1, h2, f2⟩ := hy
  exact ⟨b, off, y, pa, pn, pc, ka, kn, kc, e1, e2, e3, ⟨pa, pn, pc, ka, kn, kc, rfl, h1, f1, h2, f2⟩, h1, f1, h2, f2, e6 0 _ rfl, e6 1 _ rfl, e6 2 _ rfl, e6 3 _ rfl⟩
end Go.Proofs.Ytemfnjlfcemehaa

/- A row of the document's cells, one by one. -/
namespace Go.Proofs.Ytemfnjlfcemehaa
open Go.RowKit

theorem AgreeF.sub {F G : Nat → Prop} {w w' : World} (h : AgreeF F w w') (hG : ∀ b, G b → F b) : AgreeF G w w' := ⟨h.1, fun b hb hlt => h.2 b (hG b hb) hlt⟩
/-- The blocks that a row's cells may stand on: those allowed, and new ones, but for the row itself. -/
def Gp (F : Nat → Prop) (B : Nat) (v : Value) (b : Nat) : Prop := (F b ∨ B ≤ b) ∧ v.ownBlock ≠ some b
/-- A row of cells of the call's own: the first so many. -/
def CellsOwn (E : TypeId) (F : Nat → Prop) (n B : Nat) (w : World) (v : Value) (l : List Rc) : Prop := ∃ L : List (Cl 4), w.ownsRow B E 4 v l.length (flatC L) ∧ Tells (RcOn (Gp F B v) n w) L l
theorem CellsOwn.nil (E : TypeId) (F : Nat → Prop) (n B : Nat) (w : World) : CellsOwn E F n B w (.slice none 0 0) [] := ⟨[], own_nil w E 4 B, Tells.nil⟩
theorem CellsOwn.below {E : TypeId} {F : Nat → Prop} {n B : Nat} {w w' : World} {v : Value} {l : List Rc} (h : CellsOwn E F n B w v l) (hb : Below w.heap.size w w') : CellsOwn E F n B w' v l := by
  obtain ⟨L, h1, h2⟩ := h
  exact ⟨L, own_held h1 hb, h2.mono (fun _ _ _ h => h.below hb)⟩
theorem CellsOwn.set {E : TypeId} {F : Nat → Prop} {n B : Nat} {w : World} {v : Value} {l : List Rc} (h : CellsOwn E F n B w v l) {p : Addr} (u : Value) (hp : p.block < B) (hF : ¬ F p.block) : CellsOwn E F n B (w.setCell p u) v l := by
  obtain ⟨L, h1, h2⟩ := h
  refine ⟨L, own_set h1 p u (fun e => ?_), h2.mono (fun _ _ _ h => h.agree (AgreeF.set ⟨Nat.le_refl _, fun _ _ _ => rfl⟩ (.inl fun hg => ?_)))⟩
  · have := own_ge h1 _ e; omega
  · rcases hg.1 with hg | hg
    · exact hF hg
    · omega
theorem CellsOwn.block {E : TypeId} {F : Nat → Prop} {n B : Nat} {w : World} {v : Value} {l : List Rc} (h : CellsOwn E F n B w v l) {b : Nat} (hb : v.ownBlock = some b) : B ≤ b ∧ b < w.heap.size := by
  obtain ⟨L, h1, _⟩ := h
  refine ⟨own_ge h1 b hb, ?_⟩
  rcases h1.2 with ⟨rfl, _⟩ | ⟨g, cap, cur, rfl, _, hg, _⟩
  · cases hb
  · cases hb; exact (Array.getElem?_eq_some_iff.1 hg).1
/-- The row as a slice of a node. -/
theorem CellsOwn.sl {E : TypeId} {F : Nat → Prop} {n B : Nat} {w : World} {v : Value} {l : List Rc} (h : CellsOwn E F n B w v l) :
    ∃ a c, v = .slice a l.length c ∧ l.length ≤ c ∧ c ≤ 9223372036854775807 ∧ TabR 4 (RcOn (Gp F B v) n w) w a l.length c l ∧ Fa (fun b => B ≤ b) a l.length := by
  obtain ⟨L, h1, h2⟩ := h
  have hlen : L.length = l.length := h2.1
  rcases h1.2 with ⟨rfl, h0⟩ | ⟨g, cap, cur, rfl, hg, hh, hn, hm, hr⟩
  · have : l = [] := List.eq_nil_of_length_eq_zero h0
    subst this
    exact ⟨none, 0, rfl, by simp, by omega, ⟨rfl, by simp, by unfold maxLen; omega, fun _ => rfl, .inl rfl⟩, .inl rfl⟩
  · refine ⟨_, cap, rfl, hn, by unfold maxLen at hm; omega, ?_, Fa.of_own h1 (fun b hb => hb)⟩
    obtain ⟨a', c', e, hr'⟩ := Raw.of_own h1 hlen
    cases e
    exact hr'.tab h2
/-- All cells: the node. -/
theorem CellsOwn.node {E : TypeId} {F : Nat → Prop} {n B : Nat} {w W : World} {v : Value} {t : Tr} (h : CellsOwn E F n B W v (cellsR t)) (hB : w.heap.size ≤ B) : RNodeOn (Fr F w) (n + 1) W [.int .i64 t.page, .bool t.isLeaf, v] t := by
  obtain ⟨a, c, rfl, _, _, h1, h2⟩ := h.sl
  rw [cellsR_len] at h1 h2 ⊢
  exact RNodeOn.mk (TabR.mono h1 (fun _ _ h => h.mono (fun b hb => hb.1.imp id (fun h => Nat.le_trans hB h)))) (h2.mono (fun b hb => .inr (Nat.le_trans hB hb)))
/-- A fresh cell appended. -/
theorem CellsOwn.append {P : Program} {E t : TypeId} (ht : P.underlying t = some (.slice E)) (hi : RowInfo P E 4 80) {F : Nat → Prop} {n B : Nat} {w : World} {v : Value} {l : List Rc} (h : CellsOwn E F n B w v l) (hB : B ≤ w.heap.size) (_hF : ∀ b, F b → b < B) (hl : l.length ≤ 100000) {cs : List Value} {y : Rc} (hy : RcOn (Gp F B v) n w cs y) :
    ∃ v' w', (Builtin.append_ #[t, t] t #[v, .slice (some ⟨w.heap.size, 0, none⟩) 1 1]).run P (w.alloc (.cells cs.toArray E)) = .ok v' w' ∧ CellsOwn E F n B w' v' (l ++ [y]) ∧ w.grownBy w' v.ownBlock := by
  obtain ⟨L, h1, h2⟩ := h
  obtain ⟨i, z, i1, i2, i3, i4, i5⟩ := hi
  obtain ⟨v', w', hr, ho, hg, hv⟩ := run_append_new (P := P) B t E i z 4 80 ht i1 i2 i3 i4 i5 (by decide) h1 cs.toArray (by simpa using hy.len) (by simpa using hy.one) (by unfold maxLen; omega) (by omega) hB
  refine ⟨v', w', hr, ⟨L ++ [⟨cs, hy.len, hy.one⟩], ?_, ?_⟩, hg⟩
  · have e : flatC (L ++ [⟨cs, hy.len, hy.one⟩]) = flatC L ++ cs := by rw [flatC_append]; exact congrArg (flatC L ++ ·) (List.append_nil cs)
    rw [e, List.length_append]; exact ho
  · have hag : AgreeF (fun b => v.ownBlock ≠ some b) w w' := ⟨hg.size, fun b hb hlt => hg.block b hlt (fun e => hb e.symm)⟩
    have step : ∀ {cs : List Value} {y : Rc}, RcOn (Gp F B v) n w cs y → RcOn (Gp F B v') n w' cs y := fun h =>
      (h.lt.agree (hag.sub (fun b hb => hb.1.2))).mono (fun b hb => ⟨hb.1.1, fun e => by
        rcases hv with hv | hv
        · rw [hv] at e; exact hb.1.2 e
        · rw [hv] at e; have := Option.some.inj e; have := hb.2; omega⟩)
    exact (h2.mono (fun _ _ _ h => step h)).append (Tells.one (step hy))
end Go.Proofs.Ytemfnjlfcemehaa

/- The walks of trees: the document's Entries. -/
namespace Go.Proofs.Ytemfnjlfcemehaa
open Go.RowKit

/-- An entry's words. -/
def entC (y : List UInt8 × Tv) : Cl 4 := ⟨[.string (strOf y.1), .string (strOf y.2.data), .slice none 0 0, .slice none 0 0], rfl, by intro u hu; simp at hu; rcases hu with rfl | rfl | rfl <;> rfl⟩
theorem info_Ce : RowInfo Try.prog 48 4 80 := row_info (by kernel_rfl)
theorem flat_entC (a : List (Cl 4)) (y : List UInt8 × Tv) : flatC (a ++ [entC y]) = flatC a ++ [.string (strOf y.1), .string (strOf y.2.data), .slice none 0 0, .slice none 0 0] := by
  rw [flatC_append]; exact congrArg (flatC a ++ ·) (List.append_nil _)
/-- What a round reads. -/
def EsS (B : Nat) (sl : Value) (b o : Nat) (k d : Value) (W : World) : Prop := (B < W.heap.size ∧ b < W.heap.size) ∧ W.cell? ⟨B, 2, none⟩ = some sl ∧ W.cell? ⟨b, o, none⟩ = some k ∧ W.cell? ⟨b, o + 1, none⟩ = some d
theorem EsS.below {B : Nat} {sl : Value} {b o : Nat} {k d : Value} {W W' : World} (h : EsS B sl b o k d W) (hb : Below W.heap.size W W') : EsS B sl b o k d W' :=
  ⟨⟨Nat.lt_of_lt_of_le h.1.1 hb.size, Nat.lt_of_lt_of_le h.1.2 hb.size⟩, (hb.cell (p := ⟨B, 2, none⟩) h.1.1).trans h.2.1, (hb.cell (p := ⟨b, o, none⟩) h.1.2).trans h.2.2.1, (hb.cell (p := ⟨b, o + 1, none⟩) h.1.2).trans h.2.2.2⟩
theorem EsS.dr {B : Nat} {sl : Value} {b o : Nat} {k d : Value} {W : World} (h : EsS B sl b o k d W) : EsS B sl b o k d W.drew := h
theorem EsS.al {B : Nat} {sl : Value} {b o : Nat} {k d : Value} {W : World} {ob : Obj} (h : EsS B sl b o k d W) : EsS B sl b o k d (W.alloc ob) := h.below (Below.al (Below.refl _ _))
theorem EsS.grown {B : Nat} {sl : Value} {b o : Nat} {k d : Value} {W W' : World} {row : Option Nat} (h : EsS B sl b o k d W) (hg : W.grownBy W' row) (h1 : row ≠ some B) (h2 : row ≠ some b) : EsS B sl b o k d W' := by
  have g : ∀ j off, j < W.heap.size → row ≠ some j → W'.cell? ⟨j, off, none⟩ = W.cell? ⟨j, off, none⟩ := fun j off hj hne => World.cell?_of_block (hg.block j hj (fun e => hne e.symm))
  exact ⟨⟨Nat.lt_of_lt_of_le h.1.1 hg.size, Nat.lt_of_lt_of_le h.1.2 hg.size⟩, (g B 2 h.1.1 h1).trans h.2.1, (g b o h.1.2 h2).trans h.2.2.1, (g b (o + 1) h.1.2 h2).trans h.2.2.2⟩
set_option maxRecDepth 100000 in
set_option maxHeartbeats 3000000 in
theorem entries_leaf {n : Nat} {F : Nat → Prop} {w : World} {cs : List Value} {p : Int} {l : List (List UInt8 × Tv)} (h : RNodeOn F (n + 1) w cs (.leaf p l)) (hm : l.length ≤ 1000) :
    Calls Try.prog 27 #[.agg cs.toArray] w (OwnRaw 48 4 w (l.map entC)) := by
  obtain ⟨a, c, rfl, h1, _⟩ := h.at
  obtain ⟨e1, e2, e3⟩ := h1.lens
  obtain ⟨m, hml⟩ : ∃ m, cntT (.leaf p l) = m := ⟨_, rfl⟩
  rw [hml] at h1 e1 e2 ⊢
  have hml : l.length = m := hml
  show Calls _ _ #[.agg #[.int .i64 p, .bool true, .slice a m c]] _ _
  have H1 := Lib.hid h1
  have hB0 : Below w.heap.size w (w.alloc (.cells #[.int .i64 p, .bool true, .slice a m c] 26)) := Below.al (Below.refl _ _)
  have HX0 := Lib.hid ((Boxes.nil w).alloc #[.int .i64 p, .bool true, .slice a m c] 26 (b := w.heap.size) rfl)
  have HB0 := Lib.hid hB0
  have HML := Lib.hid hml
  obtain ⟨ti, tz, i1, i2, i3, i4, i5⟩ := info_Ce
  clear h1 hB0 e1 h hml
  have hm : m ≤ 1000 := by rw [← HML.out]; exact hm
  go_enter Try.func27, Try.ntmps27
  go_wp2_with fail
  go_loopw [3, 4] (fun s3 s4 wr => ∃ (i : Nat), i ≤ m ∧ s4 = .int .i64 i ∧ Boxes wr [(w.heap.size, [.int .i64 p, .bool true, .slice a m c])] ∧ wr.ownsRow (w.heap.size + 1) 48 4 s3 i (flatC ((l.take i).map entC)) ∧ Below w.heap.size w wr) (fun _ s _ => m - (intOf s).toNat)
  case atStart => exact ⟨0, Nat.zero_le _, rfl, HX0.out, own_nil _ _ _ _, HB0.out⟩
  case round =>
    obtain ⟨i, hi, rfl, hx, hown, hb⟩ := hrel
    clear HX0 HB0
    have hx0 := hx.lt 0 rfl
    have n0 := hx.cell 0 0 rfl rfl
    have n1 := hx.cell 0 1 rfl rfl
    have n2 := hx.cell 0 2 rfl rfl
    by_cases hlt : i < m
    · obtain ⟨b, off, y, pa, pn, pc, ka, kn, kc, rfl, hbb, hy, _, _, _, _, _, c0, c1, c2, c3⟩ := RNodeOn.cell H1.out hlt
      rw [cellsR_leaf] at hy
      obtain ⟨x, hx1, hx2⟩ := Option.map_eq_some_iff.1 hy
      subst hx2
      have v0 := (hb.cell (p := ⟨b, off + i * 4, none⟩) hbb).trans c0
      have v1 := (hb.cell (p := ⟨b, off + i * 4 + 1, none⟩) hbb).trans c1
      have hts : (l.take (i + 1)).map entC = (l.take i).map entC ++ [entC x] := by rw [List.take_add_one, hx1]; simp
      obtain ⟨v8, w8, hr8, ho8, hg8, hv8⟩ := run_append_new (P := Try.prog) (w := wr.drew) (w.heap.size + 1) 24 48 ti tz 4 80 Try.underlying24 i1 i2 i3 i4 i5 (by decide) hown #[.string (strOf x.1), .string (strOf x.2.data), .slice none 0 0, .slice none 0 0] rfl (by intro u hu; simp at hu; rcases hu with rfl | rfl | rfl <;> rfl) (by unfold maxLen; omega) (by omega) (by show w.heap.size + 1 ≤ wr.heap.size; omega)
      have HO8 : Hid (w8.ownsRow (w.heap.size + 1) 48 4 v8 (i + 1) (flatC ((l.take (i + 1)).map entC))) := Lib.hid (by rw [hts, flat_entC]; exact ho8)
      have hge := own_ge hown
      have HX8 := Lib.hid ((hx.drew).grown hg8 (by intro p hp e; simp at hp; subst hp; have := hge _ e; simp at this; omega))
      have HB8 := Lib.hid (hb.drew.grown hg8 (by show w.heap.size ≤ wr.heap.size; omega) (fun k hk => by have := hge k hk; omega))
      have hS : EsS w.heap.size (.slice (some ⟨b, off, none⟩) m c) b (off + i * 4) (.string (strOf x.1)) (.string (strOf x.2.data)) wr.drew := ⟨⟨hx0, Nat.lt_of_lt_of_le hbb hb.size⟩, n2, v0, v1⟩
      have hSw : EsS w.heap.size (.slice (some ⟨b, off, none⟩) m c) b (off + i * 4) (.string (strOf x.1)) (.string (strOf x.2.data)) wr := hS
      have hS8 := hS.grown hg8 (fun e => by have := hge _ e; omega) (fun e => by have := hge _ e; omega)
      have t0 : ∀ W, EsS w.heap.size (.slice (some ⟨b, off, none⟩) m c) b (off + i * 4) (.string (strOf x.1)) (.string (strOf x.2.data)) W → W.cell? ⟨w.heap.size, 2, none⟩ = some (.slice (some ⟨b, off, none⟩) m c) := fun W h => h.2.1
      have t1 : ∀ W, EsS w.heap.size (.slice (some ⟨b, off, none⟩) m c) b (off + i * 4) (.string (strOf x.1)) (.string (strOf x.2.data)) W → W.cell? ⟨b, off + i * 4, none⟩ = some (.string (strOf x.1)) := fun W h => h.2.2.1
      have t2 : ∀ W, EsS w.heap.size (.slice (some ⟨b, off, none⟩) m c) b (off + i * 4) (.string (strOf x.1)) (.string (strOf x.2.data)) W → W.cell? ⟨b, off + i * 4 + 1, none⟩ = some (.string (strOf x.2.data)) := fun W h => h.2.2.2
      clear hx hown hb hts ho8 hg8 hv8 hge c0 c1 c2 c3 hx1 hy
      go_wp2_with fail
      go_region_held3 (fun W => EsS w.heap.size (.slice (some ⟨b, off, none⟩) m c) b (off + i * 4) (.string (strOf x.1)) (.string (strOf x.2.data)) W) (first | with_reducible assumption | (repeat (with_reducible first | assumption | apply EsS.dr | apply EsS.al))) (refine step_append_run rfl _ _ _ _ rfl rfl rfl hr8 ?_)
      go_wp2_with fail
      go_roundw
      case rel => exact ⟨i + 1, hlt, by go_num, HX8.out, HO8.out, HB8.out⟩
      case measure => simp [intOf]; omega
    · obtain rfl : i = m := by omega
      have HE : Hid (OwnRaw 48 4 w (l.map entC) (.returned u3) wr) := Lib.hid (by
        rw [List.take_of_length_le (by rw [HML.out]; exact Nat.le_refl _)] at hown
        exact ⟨u3, rfl, by rw [List.length_map, HML.out]; exact own_base hown (by omega), hb⟩)
      clear hx hown hb
      go_wp2_with fail
      go_ret
      exact HE.out
theorem entsK_take {n : Nat} {l : List (List UInt8 × Tr)} {i : Nat} {c : List UInt8 × Tr} (h : l[i]? = some c) : entsK n (l.take (i + 1)) = entsK n (l.take i) ++ entsT n c.2 := by
  rw [List.take_add_one, h, entsK_append]
  simp [entsK]
theorem entsK_part (n : Nat) (l : List (List UInt8 × Tr)) (i : Nat) : (entsK n (l.take i)).length ≤ (entsK n l).length := by
  conv => rhs; rw [← List.take_append_drop i l, entsK_append, List.length_append]
  omega
set_option maxRecDepth 100000 in
set_option maxHeartbeats 3000000 in
theorem entries_node {n : Nat} {F : Nat → Prop} (IH : ∀ {w : World} {cs : List Value} {t : Tr}, RNodeOn F n w cs t → Bnd n t → (entsT n t).length ≤ 100000 → Calls Try.prog 27 #[.agg cs.toArray] w (OwnRaw 48 4 w ((entsT n t).map entC)))
    {w : World} {cs : List Value} {p : Int} {l : List (List UInt8 × Tr)} (h : RNodeOn F (n + 1) w cs (.node p l)) (hbd : Bnd (n + 1) (.node p l)) (hen : (entsK n l).length ≤ 100000) :
    Calls Try.prog 27 #[.agg cs.toArray] w (OwnRaw 48 4 w ((entsK n l).map entC)) := by
  obtain ⟨a, c, rfl, h1, _⟩ := h.at
  obtain ⟨e1, e2, e3⟩ := h1.lens
  obtain ⟨m, hml⟩ : ∃ m, cntT (.node p l) = m := ⟨_, rfl⟩
  rw [hml] at h1 e1 e2 ⊢
  have hml : l.length = m := hml
  show Calls _ _ #[.agg #[.int .i64 p, .bool false, .slice a m c]] _ _
  have H1 := Lib.hid h1
  have hB0 : Below w.heap.size w (w.alloc (.cells #[.int .i64 p, .bool false, .slice a m c] 26)) := Below.al (Below.refl _ _)
  have HX0 := Lib.hid ((Boxes.nil w).alloc #[.int .i64 p, .bool false, .slice a m c] 26 (b := w.heap.size) rfl)
  have HB0 := Lib.hid hB0
  have HML := Lib.hid hml
  obtain ⟨ti, tz, i1, i2, i3, i4, i5⟩ := info_Ce
  have hm : m ≤ 1000 := by rw [← hml]; exact hbd.1
  have HBD := Lib.hid hbd.2
  clear h1 hB0 e1 h hml hbd
  go_enter Try.func27, Try.ntmps27
  go_wp2_with fail
  go_loopw [3, 4] (fun s3 s4 wr => ∃ (i : Nat), i ≤ m ∧ s4 = .int .i64 i ∧ Boxes wr [(w.heap.size, [.int .i64 p, .bool false, .slice a m c])] ∧ wr.ownsRow (w.heap.size + 1) 48 4 s3 (entsK n (l.take i)).length (flatC ((entsK n (l.take i)).map entC)) ∧ Below w.heap.size w wr) (fun _ s _ => m - (intOf s).toNat)
  case atStart => exact ⟨0, Nat.zero_le _, rfl, HX0.out, own_nil _ _ _ _, HB0.out⟩
  case round =>
    obtain ⟨i, hi, rfl, hx, hown, hb⟩ := hrel
    clear HX0 HB0
    have hx0 := hx.lt 0 rfl
    have n0 := hx.cell 0 0 rfl rfl
    have n1 := hx.cell 0 1 rfl rfl
    have n2 := hx.cell 0 2 rfl rfl
    by_cases hlt : i < m
    · obtain ⟨b, off, y, pa, pn, pc, ka, kn, kc, rfl, hbb, hy, _, _, _, hk, _, c0, c1, c2, c3⟩ := RNodeOn.cell H1.out hlt
      rw [cellsR_node] at hy
      obtain ⟨x, hx1, hx2⟩ := Option.map_eq_some_iff.1 hy
      subst hx2
      have v3 := (hb.cell (p := ⟨b, off + i * 4 + 3, none⟩) hbb).trans c3
      have hkn : kn = 1 := hk.1.symm
      subst hkn
      obtain ⟨kb, ko, ky, kcs, rfl, hkb, hky, hkl, hkid, hkc⟩ := TabR.at hk (Nat.lt_add_one 0)
      have hky : ky = x.2 := by simpa using hky.symm
      subst hky
      cases n with
      | zero => exact hkid.elim
      | succ n =>
      obtain ⟨xa, xc, ek, _, _⟩ := hkid.at
      subst ek
      have g0 := (hb.cell (p := ⟨kb, ko + 0 * 3, none⟩) hkb).trans (hkc 0 _ rfl)
      have g1 := (hb.cell (p := ⟨kb, ko + 0 * 3 + 1, none⟩) hkb).trans (hkc 1 _ rfl)
      have g2 := (hb.cell (p := ⟨kb, ko + 0 * 3 + 2, none⟩) hkb).trans (hkc 2 _ rfl)
      rw [Nat.zero_mul, Nat.add_zero] at g0 g1 g2
      have hts := entsK_take (n := n + 1) hx1
      have hp1 := entsK_part (n + 1) l (i + 1)
      have hp2 := congrArg List.length hts
      rw [List.length_append] at hp2
      have CE := IH (hkid.below hb) (HBD.out x (List.mem_of_getElem? hx1)).2 (by omega)
      obtain ⟨ct, hct⟩ : ∃ q, cntT x.2 = q := ⟨_, rfl⟩
      obtain ⟨pt, hpt⟩ : ∃ q, x.2.page = q := ⟨_, rfl⟩
      obtain ⟨lt, hlt2⟩ : ∃ q, x.2.isLeaf = q := ⟨_, rfl⟩
      rw [hct, hpt, hlt2] at CE
      rw [hct] at g2
      rw [hpt] at g0
      rw [hlt2] at g1
      have HX := Lib.hid hx
      have HB := Lib.hid hb
      have HO := Lib.hid hown
      have HTS := Lib.hid hts
      have hbb9 := Nat.lt_of_lt_of_le hbb hb.size
      have hkb9 := Nat.lt_of_lt_of_le hkb hb.size
      have hkc1 := hk.2.1
      have hkc2 := hk.lens.2.2
      clear hx hown hb hts c0 c1 c2 c3 hy hkid hkc hct hpt hlt2 hk
      obtain ⟨el, hel⟩ : ∃ q, (entsK (n + 1) (l.take i)).length = q := ⟨_, rfl⟩
      have HEL := Lib.hid hel
      rw [hel] at hp2
      clear hel
      go_wp2_with fail
      refine CE.mono ?_
      rintro e w2 ho2
      obtain ⟨L2, hL2⟩ : ∃ q, (entsT (n + 1) x.2).map entC = q := ⟨_, rfl⟩
      have hl9 : L2.length = (entsT (n + 1) x.2).length := by rw [← hL2]; exact List.length_map _
      rw [hL2] at ho2
      obtain ⟨a2, k2, he2, hl2, hm2, ho2, hb2⟩ := ho2.sl
      have hraw := Raw.of_sl ho2 rfl
      obtain ⟨ll, hll⟩ : ∃ q, L2.length = q := ⟨_, rfl⟩
      rw [hll] at hl9 hl2 hraw he2
      subst he2
      have HLL := Lib.hid hll
      have HL2 := Lib.hid hL2
      have HL9 := Lib.hid hl9
      obtain ⟨v8, w8, hr8, ho8, hg8, hv8⟩ := run_append_tab (α := Cl 4) (P := Try.prog) (w := w2) (w.heap.size + 1) 24 48 ti tz 4 80 Try.underlying24 i1 i2 i3 i4 i5 (by decide) (own_held HO.out hb2) (fun cs y => cs = y.1) (fun y => y.1) (fun _ _ h => h) (fun y => y.2.1) (fun y => y.2.2) hraw (by rw [hl9, HEL.out]; unfold maxLen; omega) (by rw [hl9, HEL.out]; omega) (by have := HB.out.size; have := hb2.size; omega)
      have hge := own_ge HO.out
      have HO8 : Hid (w8.ownsRow (w.heap.size + 1) 48 4 v8 (entsK (n + 1) (l.take (i + 1))).length (flatC ((entsK (n + 1) (l.take (i + 1))).map entC))) := Lib.hid (by
        rw [HTS.out, List.length_append, List.map_append, flatC_append, ← HL9.out, HL2.out]
        exact ho8)
      have HX8 := Lib.hid ((HX.out.step hb2).grown hg8 (by intro p hp e; simp at hp; subst hp; have := hge _ e; simp at this; omega))
      have HB8 := Lib.hid ((HB.out.trans (hb2.mono HB.out.size)).grown hg8 (Nat.le_trans HB.out.size hb2.size) (fun k hk => by have := hge k hk; omega))
      clear ho8 hg8 hv8 hge hraw ho2 hb2 CE hl9 hll hL2
      go_wp2_with (at_builtin; refine wpList_append_run rfl _ _ _ _ rfl rfl rfl hr8 ?_)
      go_roundw
      case rel => exact ⟨i + 1, hlt, by go_num, HX8.out, HO8.out, HB8.out⟩
      case measure => simp [intOf]; omega
    · obtain rfl : i = m := by omega
      have HE : Hid (OwnRaw 48 4 w ((entsK n l).map entC) (.returned u3) wr) := Lib.hid (by
        rw [List.take_of_length_le (by rw [HML.out]; exact Nat.le_refl _)] at hown
        exact ⟨u3, rfl, by rw [List.length_map]; exact own_base hown (by omega), hb⟩)
      clear hx hown hb
      go_wp2_with fail
      go_ret
      exact HE.out
theorem entries_any : ∀ {n : Nat} {F : Nat → Prop} {w : World} {cs : List Value} {t : Tr}, RNodeOn F n w cs t → Bnd n t → (entsT n t).length ≤ 100000 → Calls Try.prog 27 #[.agg cs.toArray] w (OwnRaw 48 4 w ((entsT n t).map entC))
  | 0, _, _, _, _, h, _, _ => h.elim
  | _n + 1, _, _, _, .leaf _p _l, h, hb, _ => entries_leaf h hb.1
  | _n + 1, _, _, _, .node _p _l, h, hb, he => entries_node (fun h hb he => entries_any h hb he) h hb he
end Go.Proofs.Ytemfnjlfcemehaa

/- Entries as a set of pairs: put, struck out, in whichever order: plain laws. -/
namespace Go.Proofs.Ytemfnjlfcemehaa

def Srt (l : List (List UInt8 × Tv)) : Prop := (keysOf l).Pairwise (fun a b => a < b)
theorem srt_cons {c : List UInt8 × Tv} {r : List (List UInt8 × Tv)} : Srt (c :: r) ↔ (∀ d ∈ r, c.1 < d.1) ∧ Srt r := by
  unfold Srt keysOf
  rw [List.map_cons, List.pairwise_cons]
  constructor
  · intro h; exact ⟨fun d hd => h.1 d.1 (List.mem_map_of_mem hd), h.2⟩
  · intro h; exact ⟨fun x hx => by obtain ⟨d, hd, rfl⟩ := List.mem_map.1 hx; exact h.1 d hd, h.2⟩
/-- Rows that rise and have the same entries are the same. -/
theorem srt_ext : ∀ {l m : List (List UInt8 × Tv)}, Srt l → Srt m → (∀ c, c ∈ l ↔ c ∈ m) → l = m
  | [], [], _, _, _ => rfl
  | [], d :: m, _, _, h => absurd ((h d).2 (by simp)) (by simp)
  | c :: l, [], _, _, h => absurd ((h c).1 (by simp)) (by simp)
  | c :: l, d :: m, hl, hm, h => by
    obtain ⟨l1, l2⟩ := srt_cons.1 hl
    obtain ⟨m1, m2⟩ := srt_cons.1 hm
    have hcd : c = d := by
      rcases List.mem_cons.1 ((h c).1 (by simp)) with e | hc
      · exact e
      · rcases List.mem_cons.1 ((h d).2 (by simp)) with e | hd
        · exact e.symm
        · exact absurd (klt_trans (m1 c hc) (l1 d hd)) (klt_irrefl _)
    subst hcd
    rw [srt_ext l2 m2 (fun x => ⟨fun hx => ?_, fun hx => ?_⟩)]
    · rcases List.mem_cons.1 ((h x).1 (by simp [hx])) with e | hx'
      · subst e; exact absurd (l1 _ hx) (klt_irrefl _)
      · exact hx'
    · rcases List.mem_cons.1 ((h x).2 (by simp [hx])) with e | hx'
      · subst e; exact absurd (m1 _ hx) (klt_irrefl _)
      · exact hx'
theorem srt_put {key : List UInt8} {v : Tv} {l : List (List UInt8 × Tv)} (h : Srt l) : Srt (putL key v l) := putL_sorted h
theorem srt_del {key : List UInt8} {l : List (List UInt8 × Tv)} (h : Srt l) : Srt (delL key l) := by
  unfold Srt keysOf at *
  exact List.Pairwise.sublist (List.Sublist.map _ List.filter_sublist) h
theorem mem_put {key : List UInt8} {v : Tv} : ∀ {l : List (List UInt8 × Tv)}, Srt l → ∀ c, c ∈ putL key v l ↔ c = (key, v) ∨ c ∈ l ∧ c.1 ≠ key
  | [], _, c => by simp [putL]
  | d :: r, h, c => by
    obtain ⟨h1, h2⟩ := srt_cons.1 h
    have ih := mem_put (key := key) (v := v) h2 c
    show c ∈ (if d.1 < key then d :: putL key v r else if d.1 = key then (key, v) :: r else (key, v) :: d :: r) ↔ _
    split
    · rename_i hd
      rw [List.mem_cons, ih, List.mem_cons]
      constructor
      · rintro (rfl | rfl | ⟨a, b⟩)
        · exact .inr ⟨.inl rfl, fun e => klt_irrefl key (by rw [e] at hd; exact hd)⟩
        · exact .inl rfl
        · exact .inr ⟨.inr a, b⟩
      · rintro (rfl | ⟨rfl | a, b⟩)
        · exact .inr (.inl rfl)
        · exact .inl rfl
        · exact .inr (.inr ⟨a, b⟩)
    · rename_i hd
      split
      · rename_i he
        rw [List.mem_cons, List.mem_cons]
        constructor
        · rintro (rfl | a)
          · exact .inl rfl
          · refine .inr ⟨.inr a, fun e => ?_⟩
            have := h1 c a
            rw [he, e] at this
            exact klt_irrefl _ this
        · rintro (rfl | ⟨rfl | a, b⟩)
          · exact .inl rfl
          · exact absurd he b
          · exact .inr a
      · rename_i he
        rw [List.mem_cons, List.mem_cons]
        have hlt : key < d.1 := ((ktri d.1 key).resolve_left hd).resolve_left he
        constructor
        · rintro (rfl | rfl | a)
          · exact .inl rfl
          · exact .inr ⟨.inl rfl, he⟩
          · refine .inr ⟨.inr a, fun e => ?_⟩
            have := klt_trans hlt (h1 c a)
            rw [e] at this
            exact klt_irrefl _ this
        · rintro (rfl | ⟨rfl | a, b⟩)
          · exact .inl rfl
          · exact .inr (.inl rfl)
          · exact .inr (.inr a)
theorem mem_del {key : List UInt8} {l : List (List UInt8 × Tv)} (c : List UInt8 × Tv) : c ∈ delL key l ↔ c ∈ l ∧ c.1 ≠ key := by
  unfold delL
  rw [List.mem_filter]; simp
theorem srt_key {l : List (List UInt8 × Tv)} (h : Srt l) {c d : List UInt8 × Tv} (hc : c ∈ l) (hd : d ∈ l) (e : c.1 = d.1) : c = d := by
  induction l with
  | nil => cases hc
  | cons x r ih =>
    obtain ⟨h1, h2⟩ := srt_cons.1 h
    rcases List.mem_cons.1 hc with e1 | hc' <;> rcases List.mem_cons.1 hd with e2 | hd'
    · rw [e1, e2]
    · have := h1 d hd'; rw [← e1, e] at this; exact absurd this (klt_irrefl _)
    · have := h1 c hc'; rw [← e2, e] at this; exact absurd this (klt_irrefl _)
    · exact ih h2 hc' hd'
theorem put_length {key : List UInt8} {v : Tv} {l : List (List UInt8 × Tv)} (h : Srt l) : (putL key v l).length = l.length + (if (lookT l key).isSome then 0 else 1) := by
  rw [putL_pos, look_pos h]
  have hle := posK_le key (keysOf l)
  have hlen : (keysOf l).length = l.length := by simp [keysOf]
  by_cases hk : hasK key (keysOf l) = true
  · have hpos : posK key (keysOf l) < l.length := by
      unfold hasK at hk
      rw [← hlen]
      by_cases hp : posK key (keysOf l) < (keysOf l).length
      · exact hp
      · rw [List.getElem?_eq_none (by omega)] at hk; simp at hk
    rw [if_pos hk, if_pos hk]
    simp [hpos, List.length_take, List.length_drop]; omega
  · rw [if_neg hk, if_neg hk]
    simp [List.length_take, List.length_drop]; omega
theorem del_length {key : List UInt8} : ∀ {l : List (List UInt8 × Tv)}, Srt l → (delL key l).length + (if (lookT l key).isSome then 1 else 0) = l.length
  | [], _ => by simp [delL, lookT]
  | c :: r, h => by
    obtain ⟨h1, h2⟩ := srt_cons.1 h
    have ih := del_length (key := key) h2
    unfold delL lookT at *
    rw [List.filter_cons, List.find?_cons]
    by_cases he : c.1 = key
    · have e1 : (c.1 == key) = true := by simpa using he
      have e2 : (c.1 != key) = false := by simp [he]
      have hn : r.filter (fun c => c.1 != key) = r := by
        rw [List.filter_eq_self]
        intro d hd
        have := h1 d hd
        rw [he] at this
        simp
        intro e; rw [e] at this; exact klt_irrefl _ this
      rw [e1, e2, hn]; simp
    · have e1 : (c.1 == key) = false := by simpa using he
      have e2 : (c.1 != key) = true := by simp [he]
      rw [e1, e2]; simp at ih ⊢; omega
theorem look_mem {l : List (List UInt8 × Tv)} (h : Srt l) {c : List UInt8 × Tv} (hc : c ∈ l) : lookT l c.1 = some c.2.data := by
  unfold lookT
  cases hf : l.find? (fun d => d.1 == c.1) with
  | none =>
    rw [List.find?_eq_none] at hf
    exact absurd (hf c hc) (by simp)
  | some d =>
    have h1 := List.mem_of_find?_eq_some hf
    have h2 : (d.1 == c.1) = true := List.find?_some (p := fun (d : List UInt8 × Tv) => d.1 == c.1) hf
    have := srt_key h h1 hc (by simpa using h2)
    subst this; rfl
theorem look_not {l : List (List UInt8 × Tv)} {key : List UInt8} (h : lookT l key = none) (c : List UInt8 × Tv) (hc : c ∈ l) : c.1 ≠ key := by
  unfold lookT at h
  rw [Option.map_eq_none_iff, List.find?_eq_none] at h
  intro e
  exact h c hc (by simpa using e)
theorem look_del {l : List (List UInt8 × Tv)} (key : List UInt8) : lookT (delL key l) key = none := by
  unfold lookT
  rw [Option.map_eq_none_iff, List.find?_eq_none]
  intro c hc
  have := (mem_del c).1 hc
  simpa using this.2
theorem look_put {l : List (List UInt8 × Tv)} (h : Srt l) (key : List UInt8) (v : Tv) : lookT (putL key v l) key = some v.data :=
  look_mem (c := (key, v)) (srt_put h) ((mem_put h _).2 (.inl rfl))

/-! many put, many struck out -/
def putsL : List (List UInt8 × Tv) → List (List UInt8 × Tv) → List (List UInt8 × Tv)
  | [], l => l
  | p :: r, l => putsL r (putL p.1 p.2 l)
theorem puts_append (p q l : List (List UInt8 × Tv)) : putsL (p ++ q) l = putsL q (putsL p l) := by
  induction p generalizing l with
  | nil => rfl
  | cons c r ih => exact ih _
theorem srt_puts : ∀ {p l : List (List UInt8 × Tv)}, Srt l → Srt (putsL p l)
  | [], _, h => h
  | _c :: r, _, h => srt_puts (p := r) (srt_put h)
/-- Where each key has one value the entries are just those that were put. -/
theorem mem_puts {f : List UInt8 → Tv} : ∀ {p l : List (List UInt8 × Tv)}, Srt l → (∀ c ∈ p, c.2 = f c.1) → (∀ c ∈ l, c.2 = f c.1) → ∀ c, c ∈ putsL p l ↔ c ∈ p ∨ c ∈ l
  | [], l, _, _, _, c => by simp [putsL]
  | d :: r, l, h, hp, hl, c => by
    show c ∈ putsL r (putL d.1 d.2 l) ↔ _
    have hd := hp d (by simp)
    have hm := mem_put (key := d.1) (v := d.2) h
    rw [mem_puts (f := f) (srt_put h) (fun c hc => hp c (by simp [hc])) (fun c hc => by
      rcases (hm c).1 hc with e | ⟨e, _⟩
      · rw [e]; exact hd
      · exact hl c e) c, hm c, List.mem_cons]
    constructor
    · rintro (a | rfl | ⟨a, _⟩)
      · exact .inl (.inr a)
      · exact .inl (.inl rfl)
      · exact .inr a
    · rintro ((rfl | a) | a)
      · exact .inr (.inl rfl)
      · exact .inl a
      · by_cases e : c.1 = d.1
        · refine .inr (.inl ?_)
          have := hl c a
          have : c = (c.1, c.2) := rfl
          rw [this, hl c a, e, ← hd]
        · exact .inr (.inr ⟨a, e⟩)
def delsL : List (List UInt8) → List (List UInt8 × Tv) → List (List UInt8 × Tv)
  | [], l => l
  | k :: r, l => delsL r (delL k l)
theorem srt_dels : ∀ {p : List (List UInt8)} {l : List (List UInt8 × Tv)}, Srt l → Srt (delsL p l)
  | [], _, h => h
  | _c :: r, _, h => srt_dels (p := r) (srt_del h)
theorem mem_dels : ∀ {p : List (List UInt8)} {l : List (List UInt8 × Tv)} (c : List UInt8 × Tv), c ∈ delsL p l ↔ c ∈ l ∧ c.1 ∉ p
  | [], l, c => by simp [delsL]
  | k :: r, l, c => by
    show c ∈ delsL r (delL k l) ↔ _
    rw [mem_dels c, mem_del]
    simp only [List.mem_cons, not_or]
    constructor
    · rintro ⟨⟨a, b⟩, d⟩; exact ⟨a, b, d⟩
    · rintro ⟨a, b, d⟩; exact ⟨⟨a, b⟩, d⟩
theorem puts_length : ∀ {p l : List (List UInt8 × Tv)}, Srt l → (keysOf p).Nodup → (∀ c ∈ p, ∀ d ∈ l, c.1 ≠ d.1) → (putsL p l).length = p.length + l.length
  | [], l, _, _, _ => by simp [putsL]
  | c :: r, l, h, hn, hd => by
    show (putsL r (putL c.1 c.2 l)).length = _
    unfold keysOf at hn
    rw [List.map_cons, List.nodup_cons] at hn
    rw [puts_length (srt_put h) hn.2 (fun x hx y hy e => by
      rcases (mem_put h y).1 hy with rfl | ⟨hy, _⟩
      · exact hn.1 (List.mem_map.2 ⟨x, hx, e⟩)
      · exact hd x (by simp [hx]) y hy e)]
    rw [put_length h]
    have : lookT l c.1 = none := by
      unfold lookT
      rw [Option.map_eq_none_iff, List.find?_eq_none]
      intro d hdl
      have := hd c (by simp) d hdl
      simp
      exact fun e => this e.symm
    rw [this]
    simp; omega
end Go.Proofs.Ytemfnjlfcemehaa

/- Entries in a row; a node's words. -/
namespace Go.Proofs.Ytemfnjlfcemehaa
open Go.RowKit

/-- A node's words. -/
theorem NodeOn.words {F : Nat → Prop} {n : Nat} {w : World} {cs : List Value} {t : Tr} (h : NodeOn F n w cs t) :
    ∃ a1 c1 a2 n2 c2 a3 n3 c3, cs = [.int .i64 t.page, .bool t.isLeaf, .slice a1 (cntT t) c1, .slice a2 n2 c2, .slice a3 n3 c3] ∧ cntT t ≤ c1 ∧ c1 ≤ 9223372036854775807 := by
  obtain ⟨ka, kc, va, vn, vc, ca, cn, cc, V, C, e, h1, _⟩ := h.open_pos
  exact ⟨ka, kc, va, vn, vc, ca, cn, cc, e, h1.lens.2.1, h1.lens.2.2⟩
theorem Whole.low {n : Nat} {t : Tr} (h : Whole n t) : 0 < n := by
  cases n with
  | zero => exact h.1.1.elim
  | succ n => omega
/-- A row of entries. -/
def EntIn (w : World) (a : Option Addr) (m c : Nat) (E : List (List UInt8 × Tv)) : Prop := Raw 4 w a m c (E.map entC)
theorem EntIn.below {w w' : World} {a : Option Addr} {m c : Nat} {E : List (List UInt8 × Tv)} (h : EntIn w a m c E) (hb : Below w.heap.size w w') : EntIn w' a m c E := TabR.below (Nat.le_refl _) hb h
theorem EntIn.at {w : World} {a : Option Addr} {m c : Nat} {E : List (List UInt8 × Tv)} (h : EntIn w a m c E) {k : Nat} (hk : k < m) :
    ∃ b off y, a = some ⟨b, off, none⟩ ∧ b < w.heap.size ∧ E[k]? = some y ∧ w.cell? ⟨b, off + k * 4, none⟩ = some (.string (strOf y.1)) ∧ w.cell? ⟨b, off + k * 4 + 1, none⟩ = some (.string (strOf y.2.data)) := by
  obtain ⟨b, off, y, cs, e1, e2, e3, _, e5, e6⟩ := TabR.at h hk
  rw [List.getElem?_map] at e3
  obtain ⟨x, hx, rfl⟩ := Option.map_eq_some_iff.1 e3
  subst e5
  exact ⟨b, off, x, e1, e2, hx, e6 0 _ rfl, e6 1 _ rfl⟩
theorem EntIn.len {w : World} {a : Option Addr} {m c : Nat} {E : List (List UInt8 × Tv)} (h : EntIn w a m c E) : E.length = m ∧ m ≤ c ∧ c ≤ 9223372036854775807 := by
  have := TabR.lens h
  simpa using this
/-- What 'Entries' answers. -/
def EntsTo (W : World) (E : List (List UInt8 × Tv)) (e : Ending) (w' : World) : Prop :=
  ∃ a m c, e = .returned (.slice a m c) ∧ EntIn w' a m c E ∧ Below W.heap.size W w'
end Go.Proofs.Ytemfnjlfcemehaa

/- The laws' own functions of the chapters on trees: puts, steps; small, value (printed by gen_trePt.py). -/
namespace Go.Proofs.Ytemfnjlfcemehaa
open Go.RowKit

def fillT (f : UInt8) (n : Nat) : List UInt8 := List.replicate n f
def partF (f : UInt8) (n k : Nat) : List UInt8 := List.replicate k f ++ List.replicate (n - k) 0
theorem set_partF (f : UInt8) (n k : Nat) (h : k < n) : (partF f n k).set k f = partF f n (k + 1) := by
  unfold partF
  rw [List.set_append_right _ _ (by simp), List.length_replicate, Nat.sub_self]
  obtain ⟨m, hm⟩ : ∃ m, n - k = m + 1 := ⟨n - k - 1, by omega⟩
  rw [hm, List.replicate_succ, List.set_cons_zero, show n - (k + 1) = m by omega, List.replicate_succ', List.append_assoc]
  rfl
/-- A put. -/
structure Pt where
  key : List UInt8
  fill : UInt8
  size : Int
def ptC (y : Pt) : List Value := [.string (strOf y.key), .int .u8 (y.fill.toNat : Int), .int .i64 y.size]
def IsPt (cs : List Value) (y : Pt) : Prop := cs = ptC y
def Pts (w : World) (a : Option Addr) (n c : Nat) (l : List Pt) : Prop := TabR 3 IsPt w a n c l
def okP (y : Pt) : Bool := (y.key != []) && (decide (y.key.length ≤ 16) && (decide (0 ≤ y.size) && decide (y.size ≤ 400)))
def smallP (l : List Pt) : Bool := l.all okP && decide (l.length ≤ 80)
/-- A step. -/
structure St where
  key : List UInt8
  size : Int
def stC (y : St) : List Value := [.string (strOf y.key), .int .i64 y.size]
def IsSt (cs : List Value) (y : St) : Prop := cs = stC y
def Sts (w : World) (a : Option Addr) (n c : Nat) (l : List St) : Prop := TabR 2 IsSt w a n c l
def okS (y : St) : Bool := (y.key != []) && (decide (y.key.length ≤ 16) && decide (y.size ≤ 400))
def smallS (l : List St) : Bool := l.all okS && decide (l.length ≤ 120)
theorem Pts.at {w : World} {a : Option Addr} {n c : Nat} {l : List Pt} (h : Pts w a n c l) {k : Nat} (hk : k < n) :
    ∃ b off y, a = some ⟨b, off, none⟩ ∧ b < w.heap.size ∧ l[k]? = some y ∧ w.cell? ⟨b, off + k * 3, none⟩ = some (.string (strOf y.key)) ∧ w.cell? ⟨b, off + k * 3 + 1, none⟩ = some (.int .u8 (y.fill.toNat : Int)) ∧ w.cell? ⟨b, off + k * 3 + 2, none⟩ = some (.int .i64 y.size) := by
  obtain ⟨b, off, y, cs, e1, e2, e3, _, e5, e6⟩ := TabR.at h hk
  obtain rfl : cs = ptC y := e5
  exact ⟨b, off, y, e1, e2, e3, e6 0 _ rfl, e6 1 _ rfl, e6 2 _ rfl⟩
theorem Sts.at {w : World} {a : Option Addr} {n c : Nat} {l : List St} (h : Sts w a n c l) {k : Nat} (hk : k < n) :
    ∃ b off y, a = some ⟨b, off, none⟩ ∧ b < w.heap.size ∧ l[k]? = some y ∧ w.cell? ⟨b, off + k * 2, none⟩ = some (.string (strOf y.key)) ∧ w.cell? ⟨b, off + k * 2 + 1, none⟩ = some (.int .i64 y.size) := by
  obtain ⟨b, off, y, cs, e1, e2, e3, _, e5, e6⟩ := TabR.at h hk
  obtain rfl : cs = stC y := e5
  exact ⟨b, off, y, e1, e2, e3, e6 0 _ rfl, e6 1 _ rfl⟩
theorem all_bad {α : Type} {p : α → Bool} {l : List α} {i : Nat} {y : α} (hy : l[i]? = some y) (hp : p y = false) : l.all p = false := by
  rw [List.all_eq_false]
  exact ⟨y, List.mem_of_getElem? hy, by rw [hp]; decide⟩
theorem all_next {α : Type} {p : α → Bool} {l : List α} {i : Nat} {y : α} (hy : l[i]? = some y) (hp : p y = true) (h : (l.take i).all p = true) : (l.take (i + 1)).all p = true := by
  rw [List.take_add_one, hy, List.all_append, h]
  simp [hp]
theorem all_whole {α : Type} {p : α → Bool} {l : List α} {n : Nat} (hn : l.length ≤ n) (h : (l.take n).all p = true) : l.all p = true := by
  rwa [List.take_of_length_le hn] at h

set_option maxRecDepth 100000 in
set_option maxHeartbeats 1000000 in
theorem small15_any {w : World} {a : Option Addr} {n c : Nat} {l : List Pt} (h : Pts w a n c l) :
    Calls Try.prog 30 #[.slice a n c] w fun e w' => e = .returned (.bool (smallP l)) ∧ w' = w := by
  obtain ⟨e1, e2, e3⟩ := TabR.lens h
  have H := Lib.hid h
  have HL := Lib.hid e1
  clear h e1
  go_enter Try.func30, Try.ntmps30
  go_wp2
  go_loopw [3] (fun s wr => ∃ i : Nat, i ≤ n ∧ s = .int .i64 i ∧ wr = w ∧ (l.take i).all okP = true) (fun s _ => n - (intOf s).toNat)
  case atStart => exact ⟨0, Nat.zero_le _, rfl, rfl, rfl⟩
  case round =>
    obtain ⟨i, hi, rfl, rfl, hall⟩ := hrel
    by_cases hlt : i < n
    · obtain ⟨b, off, y, rfl, hbb, hy, c0, c1, c2⟩ := H.out.at hlt
      have HG : Hid (okP y = true → (l.take (i + 1)).all okP = true) := Lib.hid (fun hp => all_next hy hp hall)
      have HBAD : Hid (okP y = false → smallP l = false) := Lib.hid (fun hp => by unfold smallP; rw [all_bad hy hp]; rfl)
      obtain ⟨k, fi, sz⟩ := y
      clear hy hall
      have hsz := strOf_size k
      obtain ⟨m, hm⟩ : ∃ m, k.length = m := ⟨_, rfl⟩
      rw [hm] at hsz
      have HM := Lib.hid hm
      clear hm
      by_cases kb : k = []
      · have f1 := str_empty kb
        have hs := HBAD.out (by unfold okP; simp [kb])
        have HS := Lib.hid hs
        clear kb HG HBAD hs
        go_wp2
        go_ret
        exact ⟨ret_bool HS.out.symm, rfl⟩
      · have f1 := str_some kb
        by_cases k16 : m ≤ 16
        · have d1 : decide ((16 : Int) < m) = false := by simp; omega
          have d1' : decide (16 < m) = false := by simp; omega
          by_cases s0 : 0 ≤ sz
          · have d3 : decide (sz < (0 : Int)) = false := by simp; omega
            by_cases s4 : sz ≤ 400
            · have d4 : decide ((400 : Int) < sz) = false := by simp; omega
              have HR := Lib.hid (HG.out (by unfold okP; simp [kb, HM.out, k16, s4, s0]))
              clear kb HG HBAD k16
              go_wp2
              go_roundw
              case rel => exact ⟨i + 1, hlt, by go_num, by first | rfl | trivial, HR.out⟩
              case measure => simp [intOf]; omega
            · have d4 : decide ((400 : Int) < sz) = true := by simp; omega
              have hs := HBAD.out (by unfold okP; simp [s4])
              have HS := Lib.hid hs
              clear kb HG HBAD hs k16 s4
              go_wp2
              go_ret
              exact ⟨ret_bool HS.out.symm, rfl⟩
          · have d3 : decide (sz < (0 : Int)) = true := by simp; omega
            have hs := HBAD.out (by unfold okP; simp [s0])
            have HS := Lib.hid hs
            clear kb HG HBAD hs k16 s0
            go_wp2
            go_ret
            exact ⟨ret_bool HS.out.symm, rfl⟩
        · have d1 : decide ((16 : Int) < m) = true := by simp; omega
          have d1' : decide (16 < m) = true := by simp; omega
          have hs := HBAD.out (by unfold okP; simp [HM.out, k16])
          have HS := Lib.hid hs
          clear kb HG HBAD hs k16
          go_wp2
          go_ret
          exact ⟨ret_bool HS.out.symm, rfl⟩
    · obtain rfl : i = n := by omega
      have hs : smallP l = decide (i ≤ 80) := by
        unfold smallP
        rw [all_whole (by rw [HL.out]; exact Nat.le_refl _) hall, HL.out, Bool.true_and]
      have HS := Lib.hid hs
      clear hall hs
      by_cases hl : i ≤ 80
      · have d2 : decide ((i : Int) ≤ 80) = true := by simp; omega
        have d2' : decide (i ≤ 80) = true := by simp; omega
        go_wp2
        go_ret
        exact ⟨ret_bool (by rw [HS.out, d2']), rfl⟩
      · have d2 : decide ((i : Int) ≤ 80) = false := by simp; omega
        have d2' : decide (i ≤ 80) = false := by simp; omega
        go_wp2
        go_ret
        exact ⟨ret_bool (by rw [HS.out, d2']), rfl⟩

set_option maxRecDepth 100000 in
set_option maxHeartbeats 1000000 in
theorem small16_any {w : World} {a : Option Addr} {n c : Nat} {l : List St} (h : Sts w a n c l) :
    Calls Try.prog 49 #[.slice a n c] w fun e w' => e = .returned (.bool (smallS l)) ∧ w' = w := by
  obtain ⟨e1, e2, e3⟩ := TabR.lens h
  have H := Lib.hid h
  have HL := Lib.hid e1
  clear h e1
  go_enter Try.func49, Try.ntmps49
  go_wp2
  go_loopw [3] (fun s wr => ∃ i : Nat, i ≤ n ∧ s = .int .i64 i ∧ wr = w ∧ (l.take i).all okS = true) (fun s _ => n - (intOf s).toNat)
  case atStart => exact ⟨0, Nat.zero_le _, rfl, rfl, rfl⟩
  case round =>
    obtain ⟨i, hi, rfl, rfl, hall⟩ := hrel
    by_cases hlt : i < n
    · obtain ⟨b, off, y, rfl, hbb, hy, c0, c1⟩ := H.out.at hlt
      have HG : Hid (okS y = true → (l.take (i + 1)).all okS = true) := Lib.hid (fun hp => all_next hy hp hall)
      have HBAD : Hid (okS y = false → smallS l = false) := Lib.hid (fun hp => by unfold smallS; rw [all_bad hy hp]; rfl)
      obtain ⟨k, sz⟩ := y
      clear hy hall
      have hsz := strOf_size k
      obtain ⟨m, hm⟩ : ∃ m, k.length = m := ⟨_, rfl⟩
      rw [hm] at hsz
      have HM := Lib.hid hm
      clear hm
      by_cases kb : k = []
      · have f1 := str_empty kb
        have hs := HBAD.out (by unfold okS; simp [kb])
        have HS := Lib.hid hs
        clear kb HG HBAD hs
        go_wp2
        go_ret
        exact ⟨ret_bool HS.out.symm, rfl⟩
      · have f1 := str_some kb
        by_cases k16 : m ≤ 16
        · have d1 : decide ((16 : Int) < m) = false := by simp; omega
          have d1' : decide (16 < m) = false := by simp; omega
          by_cases s4 : sz ≤ 400
          · have d4 : decide ((400 : Int) < sz) = false := by simp; omega
            have HR := Lib.hid (HG.out (by unfold okS; simp [kb, HM.out, k16, s4]))
            clear kb HG HBAD k16
            go_wp2
            go_roundw
            case rel => exact ⟨i + 1, hlt, by go_num, by first | rfl | trivial, HR.out⟩
            case measure => simp [intOf]; omega
          · have d4 : decide ((400 : Int) < sz) = true := by simp; omega
            have hs := HBAD.out (by unfold okS; simp [s4])
            have HS := Lib.hid hs
            clear kb HG HBAD hs k16 s4
            go_wp2
            go_ret
            exact ⟨ret_bool HS.out.symm, rfl⟩
        · have d1 : decide ((16 : Int) < m) = true := by simp; omega
          have d1' : decide (16 < m) = true := by simp; omega
          have hs := HBAD.out (by unfold okS; simp [HM.out, k16])
          have HS := Lib.hid hs
          clear kb HG HBAD hs k16
          go_wp2
          go_ret
          exact ⟨ret_bool HS.out.symm, rfl⟩
    · obtain rfl : i = n := by omega
      have hs : smallS l = decide (i ≤ 120) := by
        unfold smallS
        rw [all_whole (by rw [HL.out]; exact Nat.le_refl _) hall, HL.out, Bool.true_and]
      have HS := Lib.hid hs
      clear hall hs
      by_cases hl : i ≤ 120
      · have d2 : decide ((i : Int) ≤ 120) = true := by simp; omega
        have d2' : decide (i ≤ 120) = true := by simp; omega
        go_wp2
        go_ret
        exact ⟨ret_bool (by rw [HS.out, d2']), rfl⟩
      · have d2 : decide ((i : Int) ≤ 120) = false := by simp; omega
        have d2' : decide (i ≤ 120) = false := by simp; omega
        go_wp2
        go_ret
        exact ⟨ret_bool (by rw [HS.out, d2']), rfl⟩

theorem info_b : (Try.prog.info? 5).map (fun i => (i.zero, i.size, i.bytes)) = some (some (.int .u8 0), 1, 1) := by kernel_rfl
set_option maxRecDepth 100000 in
set_option maxHeartbeats 1000000 in
theorem value16_any (n : Nat) (hn : n ≤ 400) (w : World) : Calls Try.prog 50 #[.int .i64 n] w fun e w' => e = .returned (.string (strOf (fillT 0 n))) ∧ Below w.heap.size w w' := by
  obtain ⟨i0, hi, hz0, hz1, hz2⟩ := info_parts info_b
  go_enter Try.func50, Try.ntmps50
  go_wp2_with (at_make; refine wpList_make_full _ rfl _ _ 72 rfl w.heap.size 5 i0 _ 1 Try.underlying72 hi hz0 hz1 .i64 .i64 _ _ n rfl rfl rfl rfl (by rw [hz2]; omega) (by unfold maxLen; omega) (by simp) ?_)
  intro w1 hown hg
  have hB : Below w.heap.size w w1 := (Below.refl _ _).grown hg (Nat.le_refl _) (fun k e => by cases e)
  have hown' : w1.ownsRow w.heap.size 5 1 (.slice (some ⟨w.heap.size, 0, none⟩) n n) n ((toI (fillT 0 n)).map (Value.int .u8)) := by
    simp only [made_list] at hown
    simpa [toI, fillT] using hown
  have hcv := conv_string Try.underlying72 Try.underlying5 Try.underlying9 (Bs.own hown')
  have HB := Lib.hid hB
  clear hown hg hown' hB
  go_wp2
  go_ret
  exact ⟨rfl, HB.out⟩
set_option maxRecDepth 100000 in
set_option maxHeartbeats 1000000 in
theorem value15_any (y : Pt) (n : Nat) (hy : y.size = n) (hn : n ≤ 400) (w : World) : Calls Try.prog 34 #[.agg (ptC y).toArray] w fun e w' => e = .returned (.string (strOf (fillT y.fill n))) ∧ Below w.heap.size w w' := by
  obtain ⟨i0, hi, hz0, hz1, hz2⟩ := info_parts info_b
  obtain ⟨key, f, sz⟩ := y
  have hy : sz = n := hy
  subst hy
  have hX0 := (Boxes.nil w).alloc #[.string (strOf key), .int .u8 (f.toNat : Int), .int .i64 n] 64 (b := w.heap.size) rfl
  have hB0 : Below w.heap.size w (w.alloc (.cells #[.string (strOf key), .int .u8 (f.toNat : Int), .int .i64 n] 64)) := Below.al (Below.refl _ _)
  have q2 := hX0.cell 0 2 rfl rfl
  show Calls _ _ #[.agg #[.string (strOf key), .int .u8 (f.toNat : Int), .int .i64 n]] _ _
  go_enter Try.func34, Try.ntmps34
  go_wp2_with (at_make; refine wpList_make_full _ rfl _ _ 72 rfl w.heap.size 5 i0 _ 1 Try.underlying72 hi hz0 hz1 .i64 .i64 _ _ n rfl rfl rfl rfl (by rw [hz2]; omega) (by unfold maxLen; omega) (by simp) ?_)
  intro w1 hown hg
  have hB := hB0.grown hg (by simp) (fun k e => by cases e)
  have hX1 := hX0.grown hg (by intro p _ e; cases e)
  have hown' : w1.ownsRow w.heap.size 5 1 (.slice (some ⟨w.heap.size + 1, 0, none⟩) n n) n ((toI (partF f n 0)).map (Value.int .u8)) := by
    simp only [made_list] at hown
    simpa [toI, partF] using hown
  clear hown hg hB0 hX0 q2
  go_wp2
  go_loopw [4] (fun i wr => ∃ k : Nat, k ≤ n ∧ i = .int .i64 k ∧ wr.ownsRow w.heap.size 5 1 (.slice (some ⟨w.heap.size + 1, 0, none⟩) n n) n ((toI (partF f n k)).map (Value.int .u8)) ∧ Below w.heap.size w wr ∧ Boxes wr [(w.heap.size, [.string (strOf key), .int .u8 (f.toNat : Int), .int .i64 n])]) (fun i _ => n - (intOf i).toNat)
  case atStart => exact ⟨0, Nat.zero_le _, rfl, hown', hB, hX1⟩
  case round =>
    clear hown' hB hX1
    obtain ⟨k, hk, rfl, hr, hb, hx⟩ := hrel
    have b1 := hx.cell 0 1 rfl rfl
    have b2 := hx.cell 0 2 rfl rfl
    by_cases hlt : k < n
    · have hc := hr.cellAt k (by omega)
      have hf := hr.frozenAt k
      have hst := hr.stored k (.int .u8 (f.toNat : Int))
      have hlist : ((toI (partF f n k)).map (Value.int .u8)).set k (.int .u8 (f.toNat : Int)) = (toI (partF f n (k + 1))).map (Value.int .u8) := by
        rw [← set_partF f n k hlt]
        simp only [toI, List.map_set]
      rw [hlist] at hst
      have hst := hst.1
      clear hlist
      rw [List.getElem?_map, toI, List.getElem?_map] at hc
      have hc' : ∃ v, wr.cell? ⟨w.heap.size + 1, k, none⟩ = some v := by
        rw [hc, partF, List.getElem?_append_right (by simp), List.length_replicate, Nat.sub_self, List.getElem?_replicate, if_pos (by omega)]
        exact ⟨_, rfl⟩
      obtain ⟨v0, hc'⟩ := hc'
      clear hc
      have HS := Lib.hid hst
      have HX := Lib.hid (hx.set ⟨w.heap.size + 1, k, none⟩ (.int .u8 (f.toNat : Int)) (by intro p hp; simp at hp; subst hp; simp))
      have HB := Lib.hid (hb.setCell (p := ⟨w.heap.size + 1, k, none⟩) (by simp) (.int .u8 (f.toNat : Int)))
      clear hst hx hr hb
      go_wp2
      go_roundw
      case rel => exact ⟨k + 1, by omega, by go_num, HS.out, HB.out, HX.out⟩
      case measure => simp [intOf]; omega
    · obtain rfl : k = n := by omega
      have hfe : partF f k k = fillT f k := by unfold partF fillT; rw [Nat.sub_self, List.replicate_zero, List.append_nil]
      have hr' : wr.ownsRow w.heap.size 5 1 (.slice (some ⟨w.heap.size + 1, 0, none⟩) k k) k ((toI (fillT f k)).map (Value.int .u8)) := by
        rw [← hfe]; exact hr
      have hcv := conv_string Try.underlying72 Try.underlying5 Try.underlying9 (Bs.own hr')
      have HB := Lib.hid hb
      clear hfe hr hr' hx hb
      go_wp2
      go_ret
      exact ⟨rfl, HB.out⟩
end Go.Proofs.Ytemfnjlfcemehaa
