/- Texts that other texts of this claim lean on, one behind the other. -/
import Derived.Test.YtemfnjlfcemehaaM6
import Derived.Test.YtemfnjlfcemehaaM3
import Derived.Test.YtemfnjlfcemehaaM5
import Derived.Deep.DeepCutAuto
import Derived.Test.YtemfnjlfcemehaaM2
import Derived.Test.YtemfnjlfcemehaaM1
import Derived.OwnWalk
/- What the walks ask of trees that may be. -/
namespace Go.Proofs.Ytemfnjlfcemehaa
open Go.RowKit

theorem shape_cnt {n : Nat} {lo hi : List UInt8} {t : Tr} (h : Shape n lo hi t) (hs : sumT t ≤ 200) : cntT t ≤ 50 := by
  have h1 := len_sum (fun x hx => (shape_cells h x hx).1)
  have e : (sizesT t).length = cntT t := sizes_len t
  have : sumI (sizesT t) = sumT t := rfl
  omega
theorem kid_keys {P : List UInt8 → List UInt8 → Tr → Prop} {lo hi : List UInt8} {l : List (List UInt8 × Tr)} (h : KidsP P lo hi l) (h0 : keyAt l 0 = []) : ∀ c ∈ l, c.1.length ≤ 16 := by
  cases l with
  | nil => intro c hc; cases hc
  | cons c r =>
    intro d hd
    rcases List.mem_cons.1 hd with rfl | hd
    · have : d.1 = [] := by simpa [keyAt] using h0
      rw [this]; simp
    · exact (kids_keys h d hd).2
theorem shape_bnd : ∀ {n : Nat} {lo hi : List UInt8} {t : Tr}, Shape n lo hi t → sumT t ≤ 200 → Bnd n t
  | 0, _, _, _, h, _ => h.elim
  | n + 1, lo, hi, .leaf p l, h, hs => by
    have hc := shape_cnt h hs
    obtain ⟨rfl, hl⟩ := h
    have : l.length ≤ 50 := hc
    refine ⟨by omega, fun c hm => ?_⟩
    obtain ⟨h1, _, _, h2⟩ := hl.2 c hm
    have := h1.2
    have := h2.1
    omega
  | n + 1, lo, hi, .node p l, h, hs => by
    have hc := shape_cnt h hs
    obtain ⟨h1, h0⟩ := shape_kids h
    have : l.length ≤ 50 := hc
    refine ⟨by omega, fun c hm => ⟨by have := kid_keys h1 h0 c hm; omega, ?_⟩⟩
    obtain ⟨lo', hi', g⟩ := kids_each h1 c hm
    exact shape_bnd g.1 (by have := g.2.2; omega)
theorem bnd_join {n : Nat} {key : List UInt8} {x y : Tr} (hx : Bnd (n + 1) x) (hy : Bnd (n + 1) y) (h1 : cntT x ≤ 400) (h2 : cntT y ≤ 400) (hk : key.length ≤ 200) : Bnd (n + 1) (joinT key x y) := by
  cases x with
  | leaf p l =>
    cases y with
    | leaf q m =>
      have h1 : l.length ≤ 400 := h1
      have h2 : m.length ≤ 400 := h2
      refine ⟨by simp; omega, fun c hc => ?_⟩
      rcases List.mem_append.1 hc with hc | hc
      · exact hx.2 c hc
      · exact hy.2 c hc
    | node q m => exact hx
  | node p l =>
    cases y with
    | leaf q m => exact hx
    | node q m =>
      have h1 : l.length ≤ 400 := h1
      have h2 : m.length ≤ 400 := h2
      have e : (firstK key m).length = m.length := by cases m <;> rfl
      refine ⟨by rw [List.length_append]; omega, fun c hc => ?_⟩
      rcases List.mem_append.1 hc with hc | hc
      · exact hx.2 c hc
      · cases m with
        | nil => cases hc
        | cons d r =>
          rcases List.mem_cons.1 hc with rfl | hc
          · exact ⟨hk, (hy.2 d (by simp)).2⟩
          · exact hy.2 c (List.mem_cons_of_mem _ hc)
theorem mendOk_of {m : Nat} {l : List (List UInt8 × Tr)} (hlen : l.length ≤ 1000) (h : ∀ c ∈ l, c.1.length ≤ 200 ∧ ∃ lo hi, Shape (m + 1) lo hi c.2 ∧ sumT c.2 ≤ 200) : MendOk m l where
  len := hlen
  bnd := fun c hc => by obtain ⟨_, lo, hi, h1, h2⟩ := h c hc; exact shape_bnd h1 h2
  kind := fun c hc d hd => by
    obtain ⟨_, lo, hi, h1, _⟩ := h c hc
    obtain ⟨_, lo', hi', h2, _⟩ := h d hd
    rw [shape_kind h1, shape_kind h2]
  some_ := fun c hc hl => by
    obtain ⟨_, lo, hi, h1, _⟩ := h c hc
    cases hcc : c.2 with
    | leaf p l => rw [hcc] at hl; cases hl
    | node p l => rw [hcc] at h1; exact List.length_pos_iff.2 (kids_ne (shape_kids h1).1)
  both := fun j hj => by
    obtain ⟨c, hc, ec⟩ := kid_mem (l := l) (k := j) (by omega)
    obtain ⟨d, hd, ed⟩ := kid_mem (l := l) (k := j + 1) hj
    obtain ⟨_, lo, hi, h1, s1⟩ := h c hc
    obtain ⟨_, lo', hi', h2, s2⟩ := h d hd
    have hk : (keyAt l (j + 1)).length ≤ 200 := by
      have := (h l[j + 1] (List.getElem_mem hj)).1
      simpa [keyAt, hj] using this
    rw [← ec, ← ed]
    exact bnd_join (shape_bnd h1 s1) (shape_bnd h2 s2) (by have := shape_cnt h1 s1; omega) (by have := shape_cnt h2 s2; omega) hk
theorem node_kids {n : Nat} {lo hi : List UInt8} {p : Int} {l : List (List UInt8 × Tr)} (h : Shape (n + 1) lo hi (.node p l)) : ∀ c ∈ l, c.1.length ≤ 200 ∧ ∃ lo hi, Shape n lo hi c.2 ∧ sumT c.2 ≤ 200 := by
  obtain ⟨h1, h0⟩ := shape_kids h
  intro c hc
  obtain ⟨lo', hi', g⟩ := kids_each h1 c hc
  exact ⟨by have := kid_keys h1 h0 c hc; omega, lo', hi', g.1, by have := g.2.2; omega⟩
theorem set_kids {n : Nat} {l : List (List UInt8 × Tr)} (h : ∀ c ∈ l, c.1.length ≤ 200 ∧ ∃ lo hi, Shape n lo hi c.2 ∧ sumT c.2 ≤ 200) {k : Nat} {key : List UInt8} {T : Tr} (hk : key.length ≤ 200) {lo hi : List UInt8} (hT : Shape n lo hi T) (hs : sumT T ≤ 200) :
    ∀ c ∈ l.set k (key, T), c.1.length ≤ 200 ∧ ∃ lo hi, Shape n lo hi c.2 ∧ sumT c.2 ≤ 200 := by
  intro c hc
  rcases List.mem_or_eq_of_mem_set hc with hc | rfl
  · exact h c hc
  · exact ⟨hk, lo, hi, hT, hs⟩
theorem key_len {n : Nat} {l : List (List UInt8 × Tr)} (h : ∀ c ∈ l, c.1.length ≤ 200 ∧ ∃ lo hi, Shape n lo hi c.2 ∧ sumT c.2 ≤ 200) (k : Nat) : (keyAt l k).length ≤ 200 := by
  unfold keyAt
  cases e : l[k]? with
  | none => simp
  | some c => exact (h c (List.mem_of_getElem? e)).1
theorem putOk_of : ∀ {n : Nat} {lo hi key : List UInt8} {v : Tv} {t : Tr}, Shape n lo hi t → sumT t ≤ 122 → (∀ p l, t = .node p l → 2 ≤ l.length) → keyOk key → ¬ key < lo → ltH hi key → valOk v → PutOk n t key v
  | 0, _, _, _, _, _, h, _, _, _, _, _, _ => h.elim
  | n + 1, lo, hi, key, v, .leaf p l, h, hs, _, hk, hlo, hhi, hv => by
    have hc : l.length ≤ 50 := shape_cnt h (by omega)
    obtain ⟨rfl, hl⟩ := h
    exact ⟨by omega, hl.1⟩
  | n + 1, lo, hi, key, v, .node p l, h, hs, h2, hk, hlo, hhi, hv => by
    have hc : l.length ≤ 50 := shape_cnt h (by omega)
    have hall := node_kids h
    obtain ⟨h1, h0⟩ := shape_kids h
    have hl2 := h2 p l rfl
    obtain ⟨a, c, b, lo', hi', e, hal, hcx, hp, g1, g2⟩ := way_focus h1 hlo hhi
    have hkid : kidAt l (wayF (keysOf l) key) = c.2 := by
      rw [← hal]
      conv => lhs; rw [e]
      exact kidAt_at a b c
    have i0 := putOk_of hp.1 hp.2.2 (fun q m e => good_len (p := q) (by rw [← e]; exact hp)) hk g1 g2 hv
    obtain ⟨i1, i2, _⟩ := put_ok hp.1 hp.2.2 (fun q m e => good_len (p := q) (by rw [← e]; exact hp)) hk g1 g2 hv
    cases n with
    | zero => exact hp.1.elim
    | succ m =>
      refine ⟨by omega, by omega, by rw [hkid]; exact i0, m, rfl, ?_⟩
      rw [hkid]
      exact mendOk_of (by simp; omega) (set_kids hall (key_len hall _) i1 (by omega))
theorem topOk_of : ∀ {n : Nat} {t : Tr}, Shape n [] [] t → sumT t ≤ 200 → TopOk n t
  | 0, _, h, _ => h.elim
  | n + 1, t, h, hs => by
    refine ⟨shape_bnd h hs, fun hl => ?_, fun p l e h1 => ?_⟩
    · cases t with
      | leaf p l => cases hl
      | node p l => exact List.length_pos_iff.2 (kids_ne (shape_kids h).1)
    · subst e
      obtain ⟨hk, h0⟩ := shape_kids h
      obtain ⟨c, rfl⟩ := List.length_eq_one_iff.1 h1
      have hg : Good n [] [] c.2 := hk
      have := topOk_of hg.1 (by have := hg.2.2; omega)
      simpa [kidAt] using this
theorem findOk_of : ∀ {n : Nat} {lo hi key : List UInt8} {t : Tr}, Shape n lo hi t → sumT t ≤ 200 → FindOk n t key
  | 0, _, _, _, _, h, _ => h.elim
  | n + 1, lo, hi, key, .leaf p l, h, hs => by
    have hc : l.length ≤ 50 := shape_cnt h hs
    obtain ⟨rfl, hl⟩ := h
    exact ⟨by omega, hl.1⟩
  | n + 1, lo, hi, key, .node p l, h, hs => by
    have hc : l.length ≤ 50 := shape_cnt h hs
    have hall := node_kids h
    have hpos := List.length_pos_iff.2 (kids_ne (shape_kids h).1)
    obtain ⟨c, hm, e⟩ := kid_mem (l := l) (k := wayF (keysOf l) key) (by have := wayF_lt (ks := keysOf l) key (by simpa [keysOf] using hpos); simpa [keysOf] using this)
    obtain ⟨_, lo', hi', g1, g2⟩ := hall c hm
    exact ⟨hpos, by omega, by rw [← e]; exact findOk_of g1 g2⟩
/-! whole trees -/
theorem Whole.bnd {n : Nat} {t : Tr} (h : Whole n t) : Bnd n t := shape_bnd h.1.1 (by have := h.1.2.1; omega)
theorem Whole.find {n : Nat} {t : Tr} (h : Whole n t) (key : List UInt8) : FindOk n t key := findOk_of h.1.1 (by have := h.1.2.1; omega)
theorem Whole.put {n : Nat} {t : Tr} {key : List UInt8} {v : Tv} (h : Whole n t) (hk : keyOk key) (hv : valOk v) : PutOk n t key v ∧ TopOk n (putT n t key v) := by
  obtain ⟨i1, i2, _⟩ := put_ok h.1.1 h.1.2.1 h.1.2.2 hk (knil key) (ltH_nil _) hv
  exact ⟨putOk_of h.1.1 h.1.2.1 h.1.2.2 hk (knil key) (ltH_nil _) hv, topOk_of i1 (by omega)⟩
/-- A tree as deep as it is. -/
theorem NodeOn.less {F : Nat → Prop} : ∀ {m n : Nat} {lo hi : List UInt8} {w : World} {cs : List Value} {t : Tr}, NodeOn F n w cs t → Shape m lo hi t → NodeOn F m w cs t
  | 0, _, _, _, _, _, _, _, h => h.elim
  | _, 0, _, _, _, _, _, h, _ => h.elim
  | m + 1, n + 1, lo, hi, w, cs, .leaf p l, h, _ => h
  | m + 1, n + 1, lo, hi, w, cs, .node p l, h, hs => by
    obtain ⟨ka, kn, kc, va, vc, ca, cn, cc, e, h1, f1, h2, h3, f3⟩ := h
    refine ⟨ka, kn, kc, va, vc, ca, cn, cc, e, h1, f1, h2, ?_, f3⟩
    have hall := node_kids hs
    exact TabR.agree h3 (Fa.mono f3 (fun _ h => h)) (AgreeF.refl w) (fun cs y hy h => by
      obtain ⟨c, hc, rfl⟩ := List.mem_map.1 hy
      obtain ⟨_, lo', hi', g, _⟩ := hall c hc
      exact NodeOn.less h g)
/-- A tree that a put leaves. -/
def PutTo (F : Nat → Prop) (n : Nat) (w : World) (t : Tr) (key : List UInt8) (v : Tv) (e : Ending) (w' : World) : Prop :=
  ∃ m cs, m ≤ n + 1 ∧ e = .returned (.agg cs.toArray) ∧ NodeOn (Fr F w) m w' cs (putW n t key v) ∧ Whole m (putW n t key v) ∧ entsT m (putW n t key v) = putL key v (entsT n t) ∧ Below w.heap.size w w'
theorem tPut_whole {n : Nat} {F : Nat → Prop} {w : World} {cs : List Value} {t : Tr} (h : NodeOn F n w cs t) (hw : Whole n t) (key d : List UInt8) (hk : keyOk key) (hd : d.length ≤ 400) :
    Calls Try.prog 33 #[.agg cs.toArray, .string (strOf key), .string (strOf d)] w (PutTo F n w t key ⟨d, []⟩) := by
  have hv : valOk ⟨d, []⟩ := ⟨hd, fun h => absurd rfl h⟩
  obtain ⟨h1, h2⟩ := hw.put hk hv
  refine (tPut_any key d h h1 h2).mono ?_
  rintro e w' ⟨cs', rfl, h3, h4⟩
  obtain ⟨m, e1, e2, e3⟩ := whole_put hw hk hv
  exact ⟨m, cs', e1, rfl, h3.less e2.1.1, e2, e3, h4⟩
end Go.Proofs.Ytemfnjlfcemehaa

/- The walks of trees: whether a node's rows fit. -/
namespace Go.Proofs.Ytemfnjlfcemehaa
open Go.RowKit

set_option maxRecDepth 100000 in
set_option maxHeartbeats 1000000 in
theorem fitsv_any (v : Tv) {w : World} {a : Option Addr} {n c : Nat} (h : Row .i64 w a n c v.pages) (hd : v.data.length ≤ 1000) :
    Calls Try.prog 100 #[.agg #[.string (strOf v.data), .slice a n c]] w fun e w' => e = .returned (.bool (!valB v)) ∧ Below w.heap.size w w' := by
  have hn := h.1
  have hsz := strOf_size v.data
  have N := fun W => cneed_any (v.data.length : Int) W
  have hv : valB v = (decide (v.data.length ≤ 400) && (n == 0 || decide (needC (v.data.length : Int) ≠ 0))) := by unfold valB; rw [hn]
  have hc := h.2.1
  have hm := h.2.2.1
  unfold maxLen at hm
  have HV := Lib.hid hv
  clear hv hn h
  obtain ⟨dl, hdl⟩ : ∃ x, v.data.length = x := ⟨_, rfl⟩
  rw [hdl] at hsz N HV hd
  clear hdl
  by_cases h4 : 400 < dl
  · have HE : Hid (valB v = false) := Lib.hid (by rw [HV.out]; simp; omega)
    have d4 : decide ((400 : Int) < dl) = true := by simp; omega
    have d4' : decide (400 < dl) = true := by simp; omega
    go_enter Try.func100, Try.ntmps100
    go_wp2_with fail
    go_ret
    exact ⟨by rw [HE.out]; rfl, Below.al (Below.refl _ _)⟩
  · have d4 : decide ((400 : Int) < dl) = false := by simp; omega
    have d4' : decide (400 < dl) = false := by simp; omega
    by_cases h0 : n = 0
    · have HE : Hid (valB v = true) := Lib.hid (by rw [HV.out]; simp; omega)
      have d0 : decide ((0 : Int) < n) = false := by simp; omega
      have d0' : decide (0 < n) = false := by simp; omega
      go_enter Try.func100, Try.ntmps100
      go_wp2_with fail
      go_ret
      exact ⟨by rw [HE.out]; rfl, Below.al (Below.refl _ _)⟩
    · have d0 : decide ((0 : Int) < n) = true := by simp; omega
      have d0' : decide (0 < n) = true := by simp; omega
      obtain ⟨q, hq⟩ : ∃ q, needC (dl : Int) = q := ⟨_, rfl⟩
      rw [hq] at N
      have HE : Hid (valB v = decide (q ≠ 0)) := Lib.hid (by
        rw [HV.out, hq]
        have : (n == 0) = false := by simpa using h0
        rw [this]; simp; omega)
      clear hq h4 h0
      by_cases hq0 : q = 0
      · have HZ : Hid (valB v = false) := Lib.hid (by rw [HE.out, hq0]; rfl)
        have hqq : ((q : Int) == 0) = true := by rw [hq0]; rfl
        have HQ := Lib.hid hq0
        clear hq0
        go_enter Try.func100, Try.ntmps100
        go_wp2_with fail
        refine (N _).mono ?_
        rintro e w2 ⟨rfl, rfl⟩
        go_wp2_with fail
        go_ret
        exact ⟨by rw [HZ.out]; rfl, Below.al (Below.refl _ _)⟩
      · have HZ : Hid (valB v = true) := Lib.hid (by rw [HE.out]; simpa using hq0)
        have hqq : ((q : Int) == 0) = false := by simpa using hq0
        have HQ := Lib.hid hq0
        clear hq0
        go_enter Try.func100, Try.ntmps100
        go_wp2_with fail
        refine (N _).mono ?_
        rintro e w2 ⟨rfl, rfl⟩
        go_wp2_with fail
        go_ret
        exact ⟨by rw [HZ.out]; rfl, Below.al (Below.refl _ _)⟩
theorem call_fits1 (args : Array Value) (W : World) : (callFunc 100 args).run Try.prog W = .ok (.enter 100 args) W := by kernel_rfl
theorem val_at {w : World} {a : Option Addr} {n c : Nat} {l : List Tv} (h : TabR 2 (IsTv w) w a n c l) {k : Nat} (hk : k < n) :
    ∃ b off v pa pn pc, a = some ⟨b, off, none⟩ ∧ b < w.heap.size ∧ l[k]? = some v ∧ w.cell? ⟨b, off + k * 2, none⟩ = some (.string (strOf v.data)) ∧ w.cell? ⟨b, off + k * 2 + 1, none⟩ = some (.slice pa pn pc) ∧ Row .i64 w pa pn pc v.pages := by
  obtain ⟨b, off, y, cs, e1, e2, e3, _, ⟨pa, pn, pc, rfl, hr⟩, e6⟩ := TabR.at h hk
  exact ⟨b, off, y, pa, pn, pc, e1, e2, e3, e6 0 _ rfl, e6 1 _ rfl, hr⟩
set_option maxRecDepth 100000 in
set_option maxHeartbeats 1000000 in
theorem fitsi_any {w : World} {a : Option Addr} {n c : Nat} {l : List Tv} (h : TabR 2 (IsTv w) w a n c l) (hd : ∀ v ∈ l, v.data.length ≤ 1000) :
    Calls Try.prog 105 #[.slice a n c, .func (.func 100) #[] #[]] w fun e w' => ∃ i : Int, e = .returned (.int .i64 i) ∧ (0 ≤ i ↔ l.all valB = false) ∧ Below w.heap.size w w' := by
  obtain ⟨e1, e2, e3⟩ := TabR.lens h
  have H := Lib.hid h
  have HD := Lib.hid hd
  have HL := Lib.hid e1
  have HF := call_fits1
  clear h hd e1
  go_enter Try.func105, Try.ntmps105
  go_wp2_with fail
  go_loopw [5, 8] (fun s5 s wr => ∃ i : Nat, i ≤ n ∧ s = .int .i64 i ∧ (l.take i).all valB = true ∧ Below w.heap.size w wr) (fun _ s _ => n - (intOf s).toNat)
  case atStart => exact ⟨0, Nat.zero_le _, rfl, by simp, Below.refl _ _⟩
  case round =>
    obtain ⟨i, hi, rfl, hall, hb⟩ := hrel
    by_cases hlt : i < n
    · obtain ⟨b, off, v, pa, pn, pc, rfl, hbb, hy, c0, c1, hr⟩ := val_at H.out hlt
      have k0 := (hb.cell (p := ⟨b, off + i * 2, none⟩) hbb).trans c0
      have k1 := (hb.cell (p := ⟨b, off + i * 2 + 1, none⟩) hbb).trans c1
      have C1 := fitsv_any v (hr.below (Nat.le_refl _) hb) (HD.out v (List.mem_of_getElem? hy))
      have HS : Hid ((l.take (i + 1)).all valB = valB v) := Lib.hid (by
        rw [List.take_succ_eq_append_getElem (by rw [HL.out]; exact hlt), List.all_append, hall]
        have : l[i]'(by rw [HL.out]; exact hlt) = v := (List.getElem?_eq_some_iff.1 hy).2
        simp [this])
      have HB := Lib.hid hb
      clear c0 c1 hr hall hy hb
      cases hvb : valB v with
      | true =>
        rw [hvb] at C1
        have HVB := Lib.hid hvb
        clear hvb
        go_wp2_with fail
        refine C1.mono ?_
        rintro e w2 ⟨rfl, hb2⟩
        have HB2 := Lib.hid (HB.out.trans (hb2.mono HB.out.size))
        clear C1 hb2
        go_wp2_with fail
        go_roundw
        case rel => exact ⟨i + 1, hlt, by go_num, by rw [HS.out, HVB.out], HB2.out⟩
        case measure => simp [intOf]; omega
      | false =>
        rw [hvb] at C1
        have HVB := Lib.hid hvb
        clear hvb
        go_wp2_with fail
        refine C1.mono ?_
        rintro e w2 ⟨rfl, hb2⟩
        have HB2 := Lib.hid (HB.out.trans (hb2.mono HB.out.size))
        clear C1 hb2
        go_wp2_with fail
        go_ret
        refine ⟨_, rfl, ⟨fun _ => ?_, fun _ => by omega⟩, HB2.out⟩
        have h1 : l.all valB = ((l.take (i + 1)).all valB && (l.drop (i + 1)).all valB) := by rw [← List.all_append, List.take_append_drop]
        rw [h1, HS.out, HVB.out]; rfl
    · obtain rfl : i = n := by omega
      have HA := Lib.hid hall
      have HB := Lib.hid hb
      clear hall hb
      go_wp2_with fail
      go_ret
      refine ⟨_, rfl, ⟨fun h => absurd h (by decide), fun h => ?_⟩, HB.out⟩
      have := HA.out
      rw [List.take_of_length_le (by rw [HL.out]; exact Nat.le_refl _), h] at this
      cases this
theorem fitsc_any {w : World} {a : Option Addr} {n c : Nat} {l : List Tv} (h : TabR 2 (IsTv w) w a n c l) (hd : ∀ v ∈ l, v.data.length ≤ 1000) :
    Calls Try.prog 99 #[.slice a n c, .func (.func 100) #[] #[]] w fun e w' => e = .returned (.bool (!l.all valB)) ∧ Below w.heap.size w w' := by
  have X := fitsi_any h hd
  clear h hd
  obtain ⟨z, hz⟩ : ∃ z, l.all valB = z := ⟨_, rfl⟩
  rw [hz] at X ⊢
  clear hz
  go_enter Try.func99, Try.ntmps99
  go_wp2_with fail
  refine X.mono ?_
  rintro e w' ⟨i, rfl, hi, hb⟩
  have HI := Lib.hid hi
  have HB := Lib.hid hb
  clear X hi hb
  go_wp2_with fail
  go_ret
  refine ⟨?_, HB.out⟩
  cases z with
  | true =>
    have : ¬ 0 ≤ i := fun h => by have := HI.out.1 h; cases this
    simp [this]
  | false =>
    have : 0 ≤ i := HI.out.2 rfl
    simp [this]
theorem fitTo_bad {lo hi : List UInt8} {leaf : Bool} {ks : List (List UInt8)} {n i : Nat} (hi' : i < n) (h : fitAt lo hi leaf ks i = false) : fitTo lo hi leaf ks n = false := by
  unfold fitTo
  rw [List.all_eq_false]
  exact ⟨i, List.mem_range.2 hi', by rw [h]; decide⟩
theorem str_nil (k : List UInt8) : ((strOf k).toList = []) = (k = []) := by rw [strOf_toList]
/-- What the walks ask of a key that may be empty. -/
theorem str_empty {k : List UInt8} (h : k = []) : (strOf k).toList = [] ∧ (strOf k).toList.isEmpty = true := by rw [strOf_toList, h]; exact ⟨rfl, rfl⟩
theorem str_some {k : List UInt8} (h : k ≠ []) : ¬ (strOf k).toList = [] ∧ (strOf k).toList.isEmpty = false := by
  rw [strOf_toList]
  exact ⟨h, by cases k with
    | nil => exact absurd rfl h
    | cons a r => rfl⟩
theorem cmp_lt2 {a b : List UInt8} (h : a < b) : ¬ (strOf a).toList = (strOf b).toList ∧ ¬ (strOf b).toList = (strOf a).toList := by
  rw [strOf_toList, strOf_toList]
  exact ⟨fun e => by subst e; exact klt_irrefl _ h, fun e => by subst e; exact klt_irrefl _ h⟩
set_option maxRecDepth 100000 in
set_option maxHeartbeats 3000000 in
theorem fits_any {n : Nat} {w : World} {cs : List Value} {t : Tr} (h : NodeIn (n + 1) w cs t) (hb : Bnd (n + 1) t) (lo hi : List UInt8) (_hlo : lo.length ≤ 1000) (_hhi : hi.length ≤ 1000) :
    Calls Try.prog 88 #[.agg cs.toArray, .agg #[.string (strOf lo), .string (strOf hi)]] w fun e w' => e = .returned (.bool (fitT lo hi t)) ∧ Below w.heap.size w w' := by
  obtain ⟨ka, kc, va, vn, vc, ca, cn, cc, V, C, rfl, h1, h2, h3, h4⟩ := h.openK
  obtain ⟨_, r1, r2⟩ := h4.lens
  obtain ⟨lf, hlf⟩ : ∃ x, t.isLeaf = x := ⟨_, rfl⟩
  obtain ⟨m, hm⟩ : ∃ x, cntT t = x := ⟨_, rfl⟩
  obtain ⟨pg, hpg⟩ : ∃ x, t.page = x := ⟨_, rfl⟩
  have hm9 : m ≤ 1000 := by rw [← hm]; exact hb.cnt
  rw [hlf, hm] at r1 r2
  have hvn : vn = if lf then m else 0 := by rw [← h2.1, r1]
  have hcn : cn = if lf then 0 else m := by rw [← h3.1, r2]
  have hvals : ∃ vl : List Tv, TabR 2 (IsTv w) w va vn vc vl ∧ (∀ v ∈ vl, v.data.length ≤ 1000) ∧ fitT lo hi t = (fitTo lo hi lf t.keys m && vl.all valB) := by
    cases t with
    | leaf p l =>
      have : lf = true := hlf.symm
      subst this
      refine ⟨l.map (·.2), Raw.tab h2 h4.2.1, (fun v hv => ?_), ?_⟩
      · obtain ⟨c, hc, rfl⟩ := List.mem_map.1 hv
        exact (hb.2 c hc).2
      · have hm : l.length = m := hm
        show (fitTo lo hi true (keysOf l) l.length && l.all fun c => valB c.2) = (fitTo lo hi true (keysOf l) m && _)
        rw [hm, List.all_map]; rfl
    | node p l =>
      have : lf = false := hlf.symm
      subst this
      have hv0 : V = [] := h4.2.1
      have hvn0 : vn = 0 := hvn
      subst hvn0
      have hm : l.length = m := hm
      refine ⟨[], ⟨rfl, h2.2.1, h2.2.2.1, h2.2.2.2.1, .inl rfl⟩, (fun v hv => by cases hv), ?_⟩
      show fitTo lo hi false (keysOf l) l.length = (fitTo lo hi false (keysOf l) m && true)
      rw [hm, Bool.and_true]
  obtain ⟨vl, hv1, hv2, hfit⟩ := hvals
  have hB0 : Below w.heap.size w ((w.alloc (.cells #[.int .i64 pg, .bool lf, .slice ka m kc, .slice va vn vc, .slice ca cn cc] 33)).alloc (.cells #[.string (strOf lo), .string (strOf hi)] 113)) := Below.al (Below.al (Below.refl _ _))
  have hX0 : Boxes _ [(w.heap.size + 1, [.string (strOf lo), .string (strOf hi)]), (w.heap.size, [.int .i64 pg, .bool lf, .slice ka m kc, .slice va vn vc, .slice ca cn cc])] := ((Boxes.nil w).alloc #[.int .i64 pg, .bool lf, .slice ka m kc, .slice va vn vc, .slice ca cn cc] 33 rfl).alloc #[.string (strOf lo), .string (strOf hi)] 113 (b := w.heap.size + 1) (by simp)
  obtain ⟨wA, hwA⟩ : ∃ wA, (w.alloc (.cells #[.int .i64 pg, .bool lf, .slice ka m kc, .slice va vn vc, .slice ca cn cc] 33)).alloc (.cells #[.string (strOf lo), .string (strOf hi)] 113) = wA := ⟨_, rfl⟩
  rw [hwA] at hB0 hX0
  rw [hm] at h1
  rw [hlf, hm, hpg]
  have CC := fitsc_any (TabR.move hv1 hB0 (fun _ _ _ h => h.below hB0)) hv2
  have hK : ∀ i, i < m → (t.keys[i]?.getD []).length ≤ 200 := fun i hi => by
    cases t with
    | leaf p l =>
      have hm : l.length = m := hm
      have := (hb.2 l[i] (List.getElem_mem (by omega))).1
      simpa [Tr.keys, keysOf, show i < l.length by omega] using this
    | node p l =>
      have hm : l.length = m := hm
      have := (hb.2 l[i] (List.getElem_mem (by omega))).1
      simpa [Tr.keys, keysOf, show i < l.length by omega] using this
  have H1 := Lib.hid h1
  have HB := Lib.hid hB0
  have HFIT := Lib.hid hfit
  have HK := Lib.hid hK
  have n0 := hX0.cell 1 0 rfl rfl
  have n1 := hX0.cell 1 1 rfl rfl
  have n2 := hX0.cell 1 2 rfl rfl
  have n3 := hX0.cell 1 3 rfl rfl
  have n4 := hX0.cell 1 4 rfl rfl
  have s0 := hX0.cell 0 0 rfl rfl
  have s1 := hX0.cell 0 1 rfl rfl
  clear h h1 h2 h3 h4 hB0 hX0 hlf hm hpg r1 r2 hb hv1 hv2 hfit hK
  generalize t.keys = K at *
  obtain ⟨FT, hFT⟩ : ∃ x, fitT lo hi t = x := ⟨_, rfl⟩
  rw [hFT] at HFIT ⊢
  clear hFT
  obtain ⟨VA, hVA⟩ : ∃ x, vl.all valB = x := ⟨_, rfl⟩
  rw [hVA] at HFIT CC
  clear hVA
  cases lf with
  | true =>
    simp only [if_true] at hvn hcn
    subst hvn hcn
    go_enter Try.func88, Try.ntmps88
    go_wp2_with fail
    try rw [hwA]
    clear hwA
    go_loop [5, 6, 7, 48] (fun _ _ _ s => ∃ i : Nat, i ≤ vn ∧ s = .int .i64 i ∧ fitTo lo hi true K i = true) (fun _ _ _ s => vn - (intOf s).toNat)
    case atStart => exact ⟨0, Nat.zero_le _, rfl, rfl⟩
    case round =>
      obtain ⟨i, hi', rfl, hall⟩ := hrel
      by_cases hlt : i < vn
      · obtain ⟨b, off, rfl, hbb, hcell⟩ := H1.out.key_at hlt
        have k0 := (HB.out.cell (p := ⟨b, off + i, none⟩) hbb).trans hcell
        have hkl := HK.out i hlt
        obtain ⟨k, hk⟩ : ∃ k, K[i]?.getD [] = k := ⟨_, rfl⟩
        rw [hk] at hkl k0
        have hsz := strOf_size k
        have HKK := Lib.hid hk
        have HA := Lib.hid hall
        clear hk hcell hall
        cases i with
        | zero =>
          rw [Nat.add_zero] at k0
          have d0 : decide ((0 : Int) < (vn : Int)) = true := by simp; omega
          have d0' : decide (0 < vn) = true := by simp; omega
          by_cases hk0 : k = []
          · obtain ⟨e1, e2⟩ := str_empty hk0
            have HK0 := Lib.hid hk0
            clear hk0
            have HE : Hid (FT = false) := Lib.hid (by rw [HFIT.out, fitTo_bad (i := 0) (by omega) (by unfold fitAt; rw [HKK.out]; simp [HK0.out])]; rfl)
            go_wp2_with fail
            go_ret
            exact ⟨by rw [HE.out]; rfl, HB.out⟩
          obtain ⟨e1, e2⟩ := str_some hk0
          have HK0 := Lib.hid hk0
          clear hk0
          obtain ⟨kl, hkl0⟩ : ∃ x, k.length = x := ⟨_, rfl⟩
          rw [hkl0] at hsz hkl
          have HKL := Lib.hid hkl0
          clear hkl0
          by_cases hl : 16 < kl
          · have q1 : decide ((16 : Int) < kl) = true := by simp; omega
            have q1' : decide (16 < kl) = true := by simp; omega
            have HE : Hid (FT = false) := Lib.hid (by rw [HFIT.out, fitTo_bad (i := 0) (by omega) (by have h9 := HKL.out; unfold fitAt; rw [HKK.out]; simp; omega)]; rfl)
            go_wp2_with fail
            go_ret
            exact ⟨by rw [HE.out]; rfl, HB.out⟩
          have q1 : decide ((16 : Int) < kl) = false := by simp; omega
          have q1' : decide (16 < kl) = false := by simp; omega
          have HL16 : Hid (k.length ≤ 16) := Lib.hid (by have := HKL.out; omega)
          by_cases hlo2 : k < lo
          · obtain ⟨l1, l2, _, _⟩ := cmp_lt hlo2
            have HLO := Lib.hid hlo2
            clear hlo2 l2
            have HE : Hid (FT = false) := Lib.hid (by rw [HFIT.out, fitTo_bad (i := 0) (by omega) (by unfold fitAt; rw [HKK.out]; simp [HLO.out])]; rfl)
            go_wp2_with fail
            go_ret
            exact ⟨by rw [HE.out]; rfl, HB.out⟩
          have l1 : Op.bytesLess (strOf k).toList (strOf lo).toList = false := by rw [strOf_toList, strOf_toList, bytes_lessT]; simpa using hlo2
          have HLO := Lib.hid hlo2
          clear hlo2
          by_cases hh : hi = []
          · obtain ⟨e3, e4⟩ := str_empty hh
            have HH := Lib.hid hh
            clear hh
            have HT2 : Hid (fitTo lo hi true K (0 + 1) = true) := Lib.hid (by rw [fitTo_succ, HA.out, Bool.true_and]; unfold fitAt; rw [HKK.out]; simp [HK0.out, HL16.out, HLO.out, HH.out])
            go_wp2_with fail
            go_round
            case rel => exact ⟨0 + 1, by omega, by go_num, HT2.out⟩
            case measure => simp [intOf]; omega
          obtain ⟨e3, e4⟩ := str_some hh
          have HH := Lib.hid hh
          clear hh
          by_cases hh2 : k < hi
          · have g1 : Op.bytesLess (strOf k).toList (strOf hi).toList = true := by rw [strOf_toList, strOf_toList, bytes_lessT]; simpa using hh2
            have HH2 := Lib.hid hh2
            clear hh2
            have HT2 : Hid (fitTo lo hi true K (0 + 1) = true) := Lib.hid (by rw [fitTo_succ, HA.out, Bool.true_and]; unfold fitAt; rw [HKK.out]; simp [HK0.out, HL16.out, HLO.out, HH2.out])
            go_wp2_with fail
            go_round
            case rel => exact ⟨0 + 1, by omega, by go_num, HT2.out⟩
            case measure => simp [intOf]; omega
          · have g1 : Op.bytesLess (strOf k).toList (strOf hi).toList = false := by rw [strOf_toList, strOf_toList, bytes_lessT]; simpa using hh2
            have HH2 := Lib.hid hh2
            clear hh2
            have HE : Hid (FT = false) := Lib.hid (by rw [HFIT.out, fitTo_bad (i := 0) (by omega) (by unfold fitAt; rw [HKK.out]; simp [HH.out, HH2.out])]; rfl)
            go_wp2_with fail
            go_ret
            exact ⟨by rw [HE.out]; rfl, HB.out⟩
        | succ i =>
          obtain ⟨b2, off2, e2, hb2, hc2⟩ := H1.out.key_at (show i < vn by omega)
          cases e2
          have k1 := (HB.out.cell (p := ⟨b, off + i, none⟩) hbb).trans hc2
          have hkl2 := HK.out i (by omega)
          obtain ⟨kp, hkp⟩ : ∃ k, K[i]?.getD [] = k := ⟨_, rfl⟩
          rw [hkp] at hkl2 k1
          have d0 : decide (((i + 1 : Nat) : Int) < (vn : Int)) = true := by simp; omega
          have d0' : decide (i + 1 < vn) = true := by simp; omega
          have HKP : Hid (K[i + 1 - 1]?.getD [] = kp) := Lib.hid hkp
          clear hkp hc2
          by_cases hk0 : k = []
          · obtain ⟨e1, e2⟩ := str_empty hk0
            have HK0 := Lib.hid hk0
            clear hk0
            have HE : Hid (FT = false) := Lib.hid (by rw [HFIT.out, fitTo_bad (i := (i + 1)) (by omega) (by unfold fitAt; rw [HKK.out, HKP.out]; simp [HK0.out])]; rfl)
            go_wp2_with fail
            go_ret
            exact ⟨by rw [HE.out]; rfl, HB.out⟩
          obtain ⟨e1, e2⟩ := str_some hk0
          have HK0 := Lib.hid hk0
          clear hk0
          obtain ⟨kl, hkl0⟩ : ∃ x, k.length = x := ⟨_, rfl⟩
          rw [hkl0] at hsz hkl
          have HKL := Lib.hid hkl0
          clear hkl0
          by_cases hl : 16 < kl
          · have q1 : decide ((16 : Int) < kl) = true := by simp; omega
            have q1' : decide (16 < kl) = true := by simp; omega
            have HE : Hid (FT = false) := Lib.hid (by rw [HFIT.out, fitTo_bad (i := (i + 1)) (by omega) (by have h9 := HKL.out; unfold fitAt; rw [HKK.out]; simp; omega)]; rfl)
            go_wp2_with fail
            go_ret
            exact ⟨by rw [HE.out]; rfl, HB.out⟩
          have q1 : decide ((16 : Int) < kl) = false := by simp; omega
          have q1' : decide (16 < kl) = false := by simp; omega
          have HL16 : Hid (k.length ≤ 16) := Lib.hid (by have := HKL.out; omega)
          rcases ktri kp k with hp | hp | hp
          rotate_left
          · subst hp
            obtain ⟨p1, p2⟩ := cmp_eq kp
            have HE : Hid (FT = false) := Lib.hid (by rw [HFIT.out, fitTo_bad (i := (i + 1)) (by omega) (by unfold fitAt; rw [HKK.out, HKP.out]; simp [klt_irrefl])]; rfl)
            go_wp2_with fail
            go_ret
            exact ⟨by rw [HE.out]; rfl, HB.out⟩
          · obtain ⟨p1, p2, _, _⟩ := cmp_lt hp
            have HP := Lib.hid (klt_asymm hp)
            clear hp
            have HE : Hid (FT = false) := Lib.hid (by rw [HFIT.out, fitTo_bad (i := (i + 1)) (by omega) (by unfold fitAt; rw [HKK.out, HKP.out]; simp [HP.out])]; rfl)
            go_wp2_with fail
            go_ret
            exact ⟨by rw [HE.out]; rfl, HB.out⟩
          obtain ⟨p3, p4, p1, p2⟩ := cmp_lt hp
          obtain ⟨p6, p5⟩ := cmp_lt2 hp
          have HP := Lib.hid hp
          clear hp p3 p4 p6
          by_cases hlo2 : k < lo
          · obtain ⟨l1, l2, _, _⟩ := cmp_lt hlo2
            have HLO := Lib.hid hlo2
            clear hlo2 l2
            have HE : Hid (FT = false) := Lib.hid (by rw [HFIT.out, fitTo_bad (i := (i + 1)) (by omega) (by unfold fitAt; rw [HKK.out, HKP.out]; simp [HLO.out])]; rfl)
            go_wp2_with fail
            go_ret
            exact ⟨by rw [HE.out]; rfl, HB.out⟩
          have l1 : Op.bytesLess (strOf k).toList (strOf lo).toList = false := by rw [strOf_toList, strOf_toList, bytes_lessT]; simpa using hlo2
          have HLO := Lib.hid hlo2
          clear hlo2
          by_cases hh : hi = []
          · obtain ⟨e3, e4⟩ := str_empty hh
            have HH := Lib.hid hh
            clear hh
            have HT2 : Hid (fitTo lo hi true K ((i + 1) + 1) = true) := Lib.hid (by rw [fitTo_succ, HA.out, Bool.true_and]; unfold fitAt; rw [HKK.out, HKP.out]; simp [HK0.out, HL16.out, HP.out, HLO.out, HH.out])
            go_wp2_with fail
            go_round
            case rel => exact ⟨(i + 1) + 1, by omega, by go_num, HT2.out⟩
            case measure => simp [intOf]; omega
          obtain ⟨e3, e4⟩ := str_some hh
          have HH := Lib.hid hh
          clear hh
          by_cases hh2 : k < hi
          · have g1 : Op.bytesLess (strOf k).toList (strOf hi).toList = true := by rw [strOf_toList, strOf_toList, bytes_lessT]; simpa using hh2
            have HH2 := Lib.hid hh2
            clear hh2
            have HT2 : Hid (fitTo lo hi true K ((i + 1) + 1) = true) := Lib.hid (by rw [fitTo_succ, HA.out, Bool.true_and]; unfold fitAt; rw [HKK.out, HKP.out]; simp [HK0.out, HL16.out, HP.out, HLO.out, HH2.out])
            go_wp2_with fail
            go_round
            case rel => exact ⟨(i + 1) + 1, by omega, by go_num, HT2.out⟩
            case measure => simp [intOf]; omega
          · have g1 : Op.bytesLess (strOf k).toList (strOf hi).toList = false := by rw [strOf_toList, strOf_toList, bytes_lessT]; simpa using hh2
            have HH2 := Lib.hid hh2
            clear hh2
            have HE : Hid (FT = false) := Lib.hid (by rw [HFIT.out, fitTo_bad (i := (i + 1)) (by omega) (by unfold fitAt; rw [HKK.out, HKP.out]; simp [HH.out, HH2.out])]; rfl)
            go_wp2_with fail
            go_ret
            exact ⟨by rw [HE.out]; rfl, HB.out⟩
      · obtain rfl : i = vn := by omega
        have HT : Hid (FT = VA) := Lib.hid (by rw [HFIT.out, hall, Bool.true_and])
        clear hall
        go_wp2_with fail
        refine CC.mono ?_
        rintro e w2 ⟨rfl, hb2⟩
        have HB2 := Lib.hid (HB.out.trans (hb2.mono HB.out.size))
        clear hb2
        go_wp2_with fail
        go_ret
        exact ⟨by rw [HT.out]; simp, HB2.out⟩
  | false =>
    simp only [Bool.false_eq_true, if_false] at hvn hcn
    subst hvn hcn
    go_enter Try.func88, Try.ntmps88
    go_wp2_with fail
    try rw [hwA]
    clear hwA
    go_loop [5, 6, 7, 48] (fun _ _ _ s => ∃ i : Nat, i ≤ cn ∧ s = .int .i64 i ∧ fitTo lo hi false K i = true) (fun _ _ _ s => cn - (intOf s).toNat)
    case atStart => exact ⟨0, Nat.zero_le _, rfl, rfl⟩
    case round =>
      obtain ⟨i, hi', rfl, hall⟩ := hrel
      by_cases hlt : i < cn
      · obtain ⟨b, off, rfl, hbb, hcell⟩ := H1.out.key_at hlt
        have k0 := (HB.out.cell (p := ⟨b, off + i, none⟩) hbb).trans hcell
        have hkl := HK.out i hlt
        obtain ⟨k, hk⟩ : ∃ k, K[i]?.getD [] = k := ⟨_, rfl⟩
        rw [hk] at hkl k0
        have hsz := strOf_size k
        have HKK := Lib.hid hk
        have HA := Lib.hid hall
        clear hk hcell hall
        cases i with
        | zero =>
          rw [Nat.add_zero] at k0
          have d0 : decide ((0 : Int) < (cn : Int)) = true := by simp; omega
          have d0' : decide (0 < cn) = true := by simp; omega
          by_cases hk0 : k = []
          · obtain ⟨e1, e2⟩ := str_empty hk0
            have hl0 : k.length = 0 := by rw [hk0]; rfl
            have HK0 := Lib.hid hk0
            rw [hl0] at hsz
            clear hk0 hl0 hkl
            by_cases hh : hi = []
            · obtain ⟨e3, e4⟩ := str_empty hh
              have HH := Lib.hid hh
              clear hh
              have HT2 : Hid (fitTo lo hi false K (0 + 1) = true) := Lib.hid (by rw [fitTo_succ, HA.out, Bool.true_and]; unfold fitAt; rw [HKK.out]; simp [HK0.out, HH.out])
              go_wp2_with fail
              go_round
              case rel => exact ⟨0 + 1, by omega, by go_num, HT2.out⟩
              case measure => simp [intOf]; omega
            · obtain ⟨e3, e4⟩ := str_some hh
              have hlt2 : k < hi := by rw [HK0.out]; exact knil_lt hh
              have g1 : Op.bytesLess [] (strOf hi).toList = true := by rw [strOf_toList, bytes_lessT]; simpa using knil_lt hh
              have HH := Lib.hid hlt2
              clear hh hlt2
              have HT2 : Hid (fitTo lo hi false K (0 + 1) = true) := Lib.hid (by rw [fitTo_succ, HA.out, Bool.true_and]; have h9 := HH.out; rw [HK0.out] at h9; unfold fitAt; rw [HKK.out, HK0.out]; simp [h9])
              go_wp2_with fail
              go_round
              case rel => exact ⟨0 + 1, by omega, by go_num, HT2.out⟩
              case measure => simp [intOf]; omega
          · obtain ⟨e1, e2⟩ := str_some hk0
            have HK0 := Lib.hid hk0
            clear hk0
            have HE : Hid (FT = false) := Lib.hid (by rw [HFIT.out, fitTo_bad (i := 0) (by omega) (by unfold fitAt; rw [HKK.out]; simp [HK0.out])]; rfl)
            go_wp2_with fail
            go_ret
            exact ⟨by rw [HE.out]; rfl, HB.out⟩
        | succ i =>
          obtain ⟨b2, off2, e2, hb2, hc2⟩ := H1.out.key_at (show i < cn by omega)
          cases e2
          have k1 := (HB.out.cell (p := ⟨b, off + i, none⟩) hbb).trans hc2
          have hkl2 := HK.out i (by omega)
          obtain ⟨kp, hkp⟩ : ∃ k, K[i]?.getD [] = k := ⟨_, rfl⟩
          rw [hkp] at hkl2 k1
          have d0 : decide (((i + 1 : Nat) : Int) < (cn : Int)) = true := by simp; omega
          have d0' : decide (i + 1 < cn) = true := by simp; omega
          have HKP : Hid (K[i + 1 - 1]?.getD [] = kp) := Lib.hid hkp
          clear hkp hc2
          by_cases hk0 : k = []
          · obtain ⟨e1, e2⟩ := str_empty hk0
            have HK0 := Lib.hid hk0
            clear hk0
            have HE : Hid (FT = false) := Lib.hid (by rw [HFIT.out, fitTo_bad (i := (i + 1)) (by omega) (by unfold fitAt; rw [HKK.out, HKP.out]; simp [HK0.out])]; rfl)
            go_wp2_with fail
            go_ret
            exact ⟨by rw [HE.out]; rfl, HB.out⟩
          obtain ⟨e1, e2⟩ := str_some hk0
          have HK0 := Lib.hid hk0
          clear hk0
          obtain ⟨kl, hkl0⟩ : ∃ x, k.length = x := ⟨_, rfl⟩
          rw [hkl0] at hsz hkl
          have HKL := Lib.hid hkl0
          clear hkl0
          by_cases hl : 16 < kl
          · have q1 : decide ((16 : Int) < kl) = true := by simp; omega
            have q1' : decide (16 < kl) = true := by simp; omega
            have HE : Hid (FT = false) := Lib.hid (by rw [HFIT.out, fitTo_bad (i := (i + 1)) (by omega) (by have h9 := HKL.out; unfold fitAt; rw [HKK.out]; simp; omega)]; rfl)
            go_wp2_with fail
            go_ret
            exact ⟨by rw [HE.out]; rfl, HB.out⟩
          have q1 : decide ((16 : Int) < kl) = false := by simp; omega
          have q1' : decide (16 < kl) = false := by simp; omega
          have HL16 : Hid (k.length ≤ 16) := Lib.hid (by have := HKL.out; omega)
          rcases ktri kp k with hp | hp | hp
          rotate_left
          · subst hp
            obtain ⟨p1, p2⟩ := cmp_eq kp
            have HE : Hid (FT = false) := Lib.hid (by rw [HFIT.out, fitTo_bad (i := (i + 1)) (by omega) (by unfold fitAt; rw [HKK.out, HKP.out]; simp [klt_irrefl])]; rfl)
            go_wp2_with fail
            go_ret
            exact ⟨by rw [HE.out]; rfl, HB.out⟩
          · obtain ⟨p1, p2, _, _⟩ := cmp_lt hp
            have HP := Lib.hid (klt_asymm hp)
            clear hp
            have HE : Hid (FT = false) := Lib.hid (by rw [HFIT.out, fitTo_bad (i := (i + 1)) (by omega) (by unfold fitAt; rw [HKK.out, HKP.out]; simp [HP.out])]; rfl)
            go_wp2_with fail
            go_ret
            exact ⟨by rw [HE.out]; rfl, HB.out⟩
          obtain ⟨p3, p4, p1, p2⟩ := cmp_lt hp
          obtain ⟨p6, p5⟩ := cmp_lt2 hp
          have HP := Lib.hid hp
          clear hp p3 p4 p6
          by_cases hlo2 : k < lo
          · obtain ⟨l1, l2, _, _⟩ := cmp_lt hlo2
            have HLO := Lib.hid hlo2
            clear hlo2 l2
            have HE : Hid (FT = false) := Lib.hid (by rw [HFIT.out, fitTo_bad (i := (i + 1)) (by omega) (by unfold fitAt; rw [HKK.out, HKP.out]; simp [HLO.out])]; rfl)
            go_wp2_with fail
            go_ret
            exact ⟨by rw [HE.out]; rfl, HB.out⟩
          have l1 : Op.bytesLess (strOf k).toList (strOf lo).toList = false := by rw [strOf_toList, strOf_toList, bytes_lessT]; simpa using hlo2
          have HLO := Lib.hid hlo2
          clear hlo2
          by_cases hh : hi = []
          · obtain ⟨e3, e4⟩ := str_empty hh
            have HH := Lib.hid hh
            clear hh
            have HT2 : Hid (fitTo lo hi false K ((i + 1) + 1) = true) := Lib.hid (by rw [fitTo_succ, HA.out, Bool.true_and]; unfold fitAt; rw [HKK.out, HKP.out]; simp [HK0.out, HL16.out, HP.out, HLO.out, HH.out])
            go_wp2_with fail
            go_round
            case rel => exact ⟨(i + 1) + 1, by omega, by go_num, HT2.out⟩
            case measure => simp [intOf]; omega
          obtain ⟨e3, e4⟩ := str_some hh
          have HH := Lib.hid hh
          clear hh
          by_cases hh2 : k < hi
          · have g1 : Op.bytesLess (strOf k).toList (strOf hi).toList = true := by rw [strOf_toList, strOf_toList, bytes_lessT]; simpa using hh2
            have HH2 := Lib.hid hh2
            clear hh2
            have HT2 : Hid (fitTo lo hi false K ((i + 1) + 1) = true) := Lib.hid (by rw [fitTo_succ, HA.out, Bool.true_and]; unfold fitAt; rw [HKK.out, HKP.out]; simp [HK0.out, HL16.out, HP.out, HLO.out, HH2.out])
            go_wp2_with fail
            go_round
            case rel => exact ⟨(i + 1) + 1, by omega, by go_num, HT2.out⟩
            case measure => simp [intOf]; omega
          · have g1 : Op.bytesLess (strOf k).toList (strOf hi).toList = false := by rw [strOf_toList, strOf_toList, bytes_lessT]; simpa using hh2
            have HH2 := Lib.hid hh2
            clear hh2
            have HE : Hid (FT = false) := Lib.hid (by rw [HFIT.out, fitTo_bad (i := (i + 1)) (by omega) (by unfold fitAt; rw [HKK.out, HKP.out]; simp [HH.out, HH2.out])]; rfl)
            go_wp2_with fail
            go_ret
            exact ⟨by rw [HE.out]; rfl, HB.out⟩
      · obtain rfl : i = cn := by omega
        have HT : Hid (FT = VA) := Lib.hid (by rw [HFIT.out, hall, Bool.true_and])
        clear hall
        go_wp2_with fail
        refine CC.mono ?_
        rintro e w2 ⟨rfl, hb2⟩
        have HB2 := Lib.hid (HB.out.trans (hb2.mono HB.out.size))
        clear hb2
        go_wp2_with fail
        go_ret
        exact ⟨by rw [HT.out]; simp, HB2.out⟩
end Go.Proofs.Ytemfnjlfcemehaa

/- The laws' own functions of the chapters on trees: puts, steps; small, value (printed by gen_trePt.py). -/
namespace Go.Proofs.Ytemfnjlfcemehaa
open Go.RowKit

def fillT (f : UInt8) (n : Nat) : List UInt8 := List.replicate n f
def partF (f : UInt8) (n k : Nat) : List UInt8 := List.replicate k f ++ List.replicate (n - k) 0
theorem set_partF (f : UInt8) (n k : Nat) (h : k < n) : (partF f n k).set k f = partF f n (k + 1) := by
  unfold partF
  rw [List.set_append_right _ _ (by simp), List.length_replicate, Nat.sub_self]
  obtain ⟨m, hm⟩ : ∃ m, n - k = m + 1 := ⟨n - k - 1, by omega⟩
  rw [hm, List.replicate_succ, List.set_cons_zero, show n - (k + 1) = m by omega, List.replicate_succ', List.append_assoc]
  rfl
/-- A put. -/
structure Pt where
  key : List UInt8
  fill : UInt8
  size : Int
def ptC (y : Pt) : List Value := [.string (strOf y.key), .int .u8 (y.fill.toNat : Int), .int .i64 y.size]
def IsPt (cs : List Value) (y : Pt) : Prop := cs = ptC y
def Pts (w : World) (a : Option Addr) (n c : Nat) (l : List Pt) : Prop := TabR 3 IsPt w a n c l
def okP (y : Pt) : Bool := (y.key != []) && (decide (y.key.length ≤ 16) && (decide (0 ≤ y.size) && decide (y.size ≤ 400)))
def smallP (l : List Pt) : Bool := l.all okP && decide (l.length ≤ 80)
/-- A step. -/
structure St where
  key : List UInt8
  size : Int
def stC (y : St) : List Value := [.string (strOf y.key), .int .i64 y.size]
def IsSt (cs : List Value) (y : St) : Prop := cs = stC y
def Sts (w : World) (a : Option Addr) (n c : Nat) (l : List St) : Prop := TabR 2 IsSt w a n c l
def okS (y : St) : Bool := (y.key != []) && (decide (y.key.length ≤ 16) && decide (y.size ≤ 400))
def smallS (l : List St) : Bool := l.all okS && decide (l.length ≤ 120)
theorem Pts.at {w : World} {a : Option Addr} {n c : Nat} {l : List Pt} (h : Pts w a n c l) {k : Nat} (hk : k < n) :
    ∃ b off y, a = some ⟨b, off, none⟩ ∧ b < w.heap.size ∧ l[k]? = some y ∧ w.cell? ⟨b, off + k * 3, none⟩ = some (.string (strOf y.key)) ∧ w.cell? ⟨b, off + k * 3 + 1, none⟩ = some (.int .u8 (y.fill.toNat : Int)) ∧ w.cell? ⟨b, off + k * 3 + 2, none⟩ = some (.int .i64 y.size) := by
  obtain ⟨b, off, y, cs, e1, e2, e3, _, e5, e6⟩ := TabR.at h hk
  obtain rfl : cs = ptC y := e5
  exact ⟨b, off, y, e1, e2, e3, e6 0 _ rfl, e6 1 _ rfl, e6 2 _ rfl⟩
theorem Sts.at {w : World} {a : Option Addr} {n c : Nat} {l : List St} (h : Sts w a n c l) {k : Nat} (hk : k < n) :
    ∃ b off y, a = some ⟨b, off, none⟩ ∧ b < w.heap.size ∧ l[k]? = some y ∧ w.cell? ⟨b, off + k * 2, none⟩ = some (.string (strOf y.key)) ∧ w.cell? ⟨b, off + k * 2 + 1, none⟩ = some (.int .i64 y.size) := by
  obtain ⟨b, off, y, cs, e1, e2, e3, _, e5, e6⟩ := TabR.at h hk
  obtain rfl : cs = stC y := e5
  exact ⟨b, off, y, e1, e2, e3, e6 0 _ rfl, e6 1 _ rfl⟩
theorem all_bad {α : Type} {p : α → Bool} {l : List α} {i : Nat} {y : α} (hy : l[i]? = some y) (hp : p y = false) : l.all p = false := by
  rw [List.all_eq_false]
  exact ⟨y, List.mem_of_getElem? hy, by rw [hp]; decide⟩
theorem all_next {α : Type} {p : α → Bool} {l : List α} {i : Nat} {y : α} (hy : l[i]? = some y) (hp : p y = true) (h : (l.take i).all p = true) : (l.take (i + 1)).all p = true := by
  rw [List.take_add_one, hy, List.all_append, h]
  simp [hp]
theorem all_whole {α : Type} {p : α → Bool} {l : List α} {n : Nat} (hn : l.length ≤ n) (h : (l.take n).all p = true) : l.all p = true := by
  rwa [List.take_of_length_le hn] at h

set_option maxRecDepth 100000 in
set_option maxHeartbeats 1000000 in
theorem small15_any {w : World} {a : Option Addr} {n c : Nat} {l : List Pt} (h : Pts w a n c l) :
    Calls Try.prog 30 #[.slice a n c] w fun e w' => e = .returned (.bool (smallP l)) ∧ w' = w := by
  obtain ⟨e1, e2, e3⟩ := TabR.lens h
  have H := Lib.hid h
  have HL := Lib.hid e1
  clear h e1
  go_enter Try.func30, Try.ntmps30
  go_wp2
  go_loopw [3] (fun s wr => ∃ i : Nat, i ≤ n ∧ s = .int .i64 i ∧ wr = w ∧ (l.take i).all okP = true) (fun s _ => n - (intOf s).toNat)
  case atStart => exact ⟨0, Nat.zero_le _, rfl, rfl, rfl⟩
  case round =>
    obtain ⟨i, hi, rfl, rfl, hall⟩ := hrel
    by_cases hlt : i < n
    · obtain ⟨b, off, y, rfl, hbb, hy, c0, c1, c2⟩ := H.out.at hlt
      have HG : Hid (okP y = true → (l.take (i + 1)).all okP = true) := Lib.hid (fun hp => all_next hy hp hall)
      have HBAD : Hid (okP y = false → smallP l = false) := Lib.hid (fun hp => by unfold smallP; rw [all_bad hy hp]; rfl)
      obtain ⟨k, fi, sz⟩ := y
      clear hy hall
      have hsz := strOf_size k
      obtain ⟨m, hm⟩ : ∃ m, k.length = m := ⟨_, rfl⟩
      rw [hm] at hsz
      have HM := Lib.hid hm
      clear hm
      by_cases kb : k = []
      · have f1 := str_empty kb
        have hs := HBAD.out (by unfold okP; simp [kb])
        have HS := Lib.hid hs
        clear kb HG HBAD hs
        go_wp2
        go_ret
        exact ⟨ret_bool HS.out.symm, rfl⟩
      · have f1 := str_some kb
        by_cases k16 : m ≤ 16
        · have d1 : decide ((16 : Int) < m) = false := by simp; omega
          have d1' : decide (16 < m) = false := by simp; omega
          by_cases s0 : 0 ≤ sz
          · have d3 : decide (sz < (0 : Int)) = false := by simp; omega
            by_cases s4 : sz ≤ 400
            · have d4 : decide ((400 : Int) < sz) = false := by simp; omega
              have HR := Lib.hid (HG.out (by unfold okP; simp [kb, HM.out, k16, s4, s0]))
              clear kb HG HBAD k16
              go_wp2
              go_roundw
              case rel => exact ⟨i + 1, hlt, by go_num, by first | rfl | trivial, HR.out⟩
              case measure => simp [intOf]; omega
            · have d4 : decide ((400 : Int) < sz) = true := by simp; omega
              have hs := HBAD.out (by unfold okP; simp [s4])
              have HS := Lib.hid hs
              clear kb HG HBAD hs k16 s4
              go_wp2
              go_ret
              exact ⟨ret_bool HS.out.symm, rfl⟩
          · have d3 : decide (sz < (0 : Int)) = true := by simp; omega
            have hs := HBAD.out (by unfold okP; simp [s0])
            have HS := Lib.hid hs
            clear kb HG HBAD hs k16 s0
            go_wp2
            go_ret
            exact ⟨ret_bool HS.out.symm, rfl⟩
        · have d1 : decide ((16 : Int) < m) = true := by simp; omega
          have d1' : decide (16 < m) = true := by simp; omega
          have hs := HBAD.out (by unfold okP; simp [HM.out, k16])
          have HS := Lib.hid hs
          clear kb HG HBAD hs k16
          go_wp2
          go_ret
          exact ⟨ret_bool HS.out.symm, rfl⟩
    · obtain rfl : i = n := by omega
      have hs : smallP l = decide (i ≤ 80) := by
        unfold smallP
        rw [all_whole (by rw [HL.out]; exact Nat.le_refl _) hall, HL.out, Bool.true_and]
      have HS := Lib.hid hs
      clear hall hs
      by_cases hl : i ≤ 80
      · have d2 : decide ((i : Int) ≤ 80) = true := by simp; omega
        have d2' : decide (i ≤ 80) = true := by simp; omega
        go_wp2
        go_ret
        exact ⟨ret_bool (by rw [HS.out, d2']), rfl⟩
      · have d2 : decide ((i : Int) ≤ 80) = false := by simp; omega
        have d2' : decide (i ≤ 80) = false := by simp; omega
        go_wp2
        go_ret
        exact ⟨ret_bool (by rw [HS.out, d2']), rfl⟩

set_option maxRecDepth 100000 in
set_option maxHeartbeats 1000000 in
theorem small16_any {w : World} {a : Option Addr} {n c : Nat} {l : List St} (h : Sts w a n c l) :
    Calls Try.prog 49 #[.slice a n c] w fun e w' => e = .returned (.bool (smallS l)) ∧ w' = w := by
  obtain ⟨e1, e2, e3⟩ := TabR.lens h
  have H := Lib.hid h
  have HL := Lib.hid e1
  clear h e1
  go_enter Try.func49, Try.ntmps49
  go_wp2
  go_loopw [3] (fun s wr => ∃ i : Nat, i ≤ n ∧ s = .int .i64 i ∧ wr = w ∧ (l.take i).all okS = true) (fun s _ => n - (intOf s).toNat)
  case atStart => exact ⟨0, Nat.zero_le _, rfl, rfl, rfl⟩
  case round =>
    obtain ⟨i, hi, rfl, rfl, hall⟩ := hrel
    by_cases hlt : i < n
    · obtain ⟨b, off, y, rfl, hbb, hy, c0, c1⟩ := H.out.at hlt
      have HG : Hid (okS y = true → (l.take (i + 1)).all okS = true) := Lib.hid (fun hp => all_next hy hp hall)
      have HBAD : Hid (okS y = false → smallS l = false) := Lib.hid (fun hp => by unfold smallS; rw [all_bad hy hp]; rfl)
      obtain ⟨k, sz⟩ := y
      clear hy hall
      have hsz := strOf_size k
      obtain ⟨m, hm⟩ : ∃ m, k.length = m := ⟨_, rfl⟩
      rw [hm] at hsz
      have HM := Lib.hid hm
      clear hm
      by_cases kb : k = []
      · have f1 := str_empty kb
        have hs := HBAD.out (by unfold okS; simp [kb])
        have HS := Lib.hid hs
        clear kb HG HBAD hs
        go_wp2
        go_ret
        exact ⟨ret_bool HS.out.symm, rfl⟩
      · have f1 := str_some kb
        by_cases k16 : m ≤ 16
        · have d1 : decide ((16 : Int) < m) = false := by simp; omega
          have d1' : decide (16 < m) = false := by simp; omega
          by_cases s4 : sz ≤ 400
          · have d4 : decide ((400 : Int) < sz) = false := by simp; omega
            have HR := Lib.hid (HG.out (by unfold okS; simp [kb, HM.out, k16, s4]))
            clear kb HG HBAD k16
            go_wp2
            go_roundw
            case rel => exact ⟨i + 1, hlt, by go_num, by first | rfl | trivial, HR.out⟩
            case measure => simp [intOf]; omega
          · have d4 : decide ((400 : Int) < sz) = true := by simp; omega
            have hs := HBAD.out (by unfold okS; simp [s4])
            have HS := Lib.hid hs
            clear kb HG HBAD hs k16 s4
            go_wp2
            go_ret
            exact ⟨ret_bool HS.out.symm, rfl⟩
        · have d1 : decide ((16 : Int) < m) = true := by simp; omega
          have d1' : decide (16 < m) = true := by simp; omega
          have hs := HBAD.out (by unfold okS; simp [HM.out, k16])
          have HS := Lib.hid hs
          clear kb HG HBAD hs k16
          go_wp2
          go_ret
          exact ⟨ret_bool HS.out.symm, rfl⟩
    · obtain rfl : i = n := by omega
      have hs : smallS l = decide (i ≤ 120) := by
        unfold smallS
        rw [all_whole (by rw [HL.out]; exact Nat.le_refl _) hall, HL.out, Bool.true_and]
      have HS := Lib.hid hs
      clear hall hs
      by_cases hl : i ≤ 120
      · have d2 : decide ((i : Int) ≤ 120) = true := by simp; omega
        have d2' : decide (i ≤ 120) = true := by simp; omega
        go_wp2
        go_ret
        exact ⟨ret_bool (by rw [HS.out, d2']), rfl⟩
      · have d2 : decide ((i : Int) ≤ 120) = false := by simp; omega
        have d2' : decide (i ≤ 120) = false := by simp; omega
        go_wp2
        go_ret
        exact ⟨ret_bool (by rw [HS.out, d2']), rfl⟩

theorem info_b : (Try.prog.info? 5).map (fun i => (i.zero, i.size, i.bytes)) = some (some (.int .u8 0), 1, 1) := by kernel_rfl
set_option maxRecDepth 100000 in
set_option maxHeartbeats 1000000 in
theorem value16_any (n : Nat) (hn : n ≤ 400) (w : World) : Calls Try.prog 50 #[.int .i64 n] w fun e w' => e = .returned (.string (strOf (fillT 0 n))) ∧ Below w.heap.size w w' := by
  obtain ⟨i0, hi, hz0, hz1, hz2⟩ := info_parts info_b
  go_enter Try.func50, Try.ntmps50
  go_wp2_with (at_make; refine wpList_make_full _ rfl _ _ 72 rfl w.heap.size 5 i0 _ 1 Try.underlying72 hi hz0 hz1 .i64 .i64 _ _ n rfl rfl rfl rfl (by rw [hz2]; omega) (by unfold maxLen; omega) (by simp) ?_)
  intro w1 hown hg
  have hB : Below w.heap.size w w1 := (Below.refl _ _).grown hg (Nat.le_refl _) (fun k e => by cases e)
  have hown' : w1.ownsRow w.heap.size 5 1 (.slice (some ⟨w.heap.size, 0, none⟩) n n) n ((toI (fillT 0 n)).map (Value.int .u8)) := by
    simp only [made_list] at hown
    simpa [toI, fillT] using hown
  have hcv := conv_string Try.underlying72 Try.underlying5 Try.underlying9 (Bs.own hown')
  have HB := Lib.hid hB
  clear hown hg hown' hB
  go_wp2
  go_ret
  exact ⟨rfl, HB.out⟩
set_option maxRecDepth 100000 in
set_option maxHeartbeats 1000000 in
theorem value15_any (y : Pt) (n : Nat) (hy : y.size = n) (hn : n ≤ 400) (w : World) : Calls Try.prog 34 #[.agg (ptC y).toArray] w fun e w' => e = .returned (.string (strOf (fillT y.fill n))) ∧ Below w.heap.size w w' := by
  obtain ⟨i0, hi, hz0, hz1, hz2⟩ := info_parts info_b
  obtain ⟨key, f, sz⟩ := y
  have hy : sz = n := hy
  subst hy
  have hX0 := (Boxes.nil w).alloc #[.string (strOf key), .int .u8 (f.toNat : Int), .int .i64 n] 64 (b := w.heap.size) rfl
  have hB0 : Below w.heap.size w (w.alloc (.cells #[.string (strOf key), .int .u8 (f.toNat : Int), .int .i64 n] 64)) := Below.al (Below.refl _ _)
  have q2 := hX0.cell 0 2 rfl rfl
  show Calls _ _ #[.agg #[.string (strOf key), .int .u8 (f.toNat : Int), .int .i64 n]] _ _
  go_enter Try.func34, Try.ntmps34
  go_wp2_with (at_make; refine wpList_make_full _ rfl _ _ 72 rfl w.heap.size 5 i0 _ 1 Try.underlying72 hi hz0 hz1 .i64 .i64 _ _ n rfl rfl rfl rfl (by rw [hz2]; omega) (by unfold maxLen; omega) (by simp) ?_)
  intro w1 hown hg
  have hB := hB0.grown hg (by simp) (fun k e => by cases e)
  have hX1 := hX0.grown hg (by intro p _ e; cases e)
  have hown' : w1.ownsRow w.heap.size 5 1 (.slice (some ⟨w.heap.size + 1, 0, none⟩) n n) n ((toI (partF f n 0)).map (Value.int .u8)) := by
    simp only [made_list] at hown
    simpa [toI, partF] using hown
  clear hown hg hB0 hX0 q2
  go_wp2
  go_loopw [4] (fun i wr => ∃ k : Nat, k ≤ n ∧ i = .int .i64 k ∧ wr.ownsRow w.heap.size 5 1 (.slice (some ⟨w.heap.size + 1, 0, none⟩) n n) n ((toI (partF f n k)).map (Value.int .u8)) ∧ Below w.heap.size w wr ∧ Boxes wr [(w.heap.size, [.string (strOf key), .int .u8 (f.toNat : Int), .int .i64 n])]) (fun i _ => n - (intOf i).toNat)
  case atStart => exact ⟨0, Nat.zero_le _, rfl, hown', hB, hX1⟩
  case round =>
    clear hown' hB hX1
    obtain ⟨k, hk, rfl, hr, hb, hx⟩ := hrel
    have b1 := hx.cell 0 1 rfl rfl
    have b2 := hx.cell 0 2 rfl rfl
    by_cases hlt : k < n
    · have hc := hr.cellAt k (by omega)
      have hf := hr.frozenAt k
      have hst := hr.stored k (.int .u8 (f.toNat : Int))
      have hlist : ((toI (partF f n k)).map (Value.int .u8)).set k (.int .u8 (f.toNat : Int)) = (toI (partF f n (k + 1))).map (Value.int .u8) := by
        rw [← set_partF f n k hlt]
        simp only [toI, List.map_set]
      rw [hlist] at hst
      have hst := hst.1
      clear hlist
      rw [List.getElem?_map, toI, List.getElem?_map] at hc
      have hc' : ∃ v, wr.cell? ⟨w.heap.size + 1, k, none⟩ = some v := by
        rw [hc, partF, List.getElem?_append_right (by simp), List.length_replicate, Nat.sub_self, List.getElem?_replicate, if_pos (by omega)]
        exact ⟨_, rfl⟩
      obtain ⟨v0, hc'⟩ := hc'
      clear hc
      have HS := Lib.hid hst
      have HX := Lib.hid (hx.set ⟨w.heap.size + 1, k, none⟩ (.int .u8 (f.toNat : Int)) (by intro p hp; simp at hp; subst hp; simp))
      have HB := Lib.hid (hb.setCell (p := ⟨w.heap.size + 1, k, none⟩) (by simp) (.int .u8 (f.toNat : Int)))
      clear hst hx hr hb
      go_wp2
      go_roundw
      case rel => exact ⟨k + 1, by omega, by go_num, HS.out, HB.out, HX.out⟩
      case measure => simp [intOf]; omega
    · obtain rfl : k = n := by omega
      have hfe : partF f k k = fillT f k := by unfold partF fillT; rw [Nat.sub_self, List.replicate_zero, List.append_nil]
      have hr' : wr.ownsRow w.heap.size 5 1 (.slice (some ⟨w.heap.size + 1, 0, none⟩) k k) k ((toI (fillT f k)).map (Value.int .u8)) := by
        rw [← hfe]; exact hr
      have hcv := conv_string Try.underlying72 Try.underlying5 Try.underlying9 (Bs.own hr')
      have HB := Lib.hid hb
      clear hfe hr hr' hx hb
      go_wp2
      go_ret
      exact ⟨rfl, HB.out⟩
end Go.Proofs.Ytemfnjlfcemehaa
