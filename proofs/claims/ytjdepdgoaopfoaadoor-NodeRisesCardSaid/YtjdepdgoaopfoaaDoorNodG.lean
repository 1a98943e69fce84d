/- The walks of the chapter on nodes: a page's node. -/
import Derived.Test.YtjdepdgoaopfoaaDoorNodV
import Derived.Test.YtjdepdgoaopfoaaDoorNodK
import Derived.Test.YtjdepdgoaopfoaaDoorCelX
import Derived.Test.YtjdepdgoaopfoaaDoorOwn
namespace Go.Proofs.YtjdepdgoaopfoaaDoor
open Go.RowKit

theorem page_of_unp (b : List UInt8) (h : unpE b = 0) : b.length = 128 ∧ fits (unpK b) (unpL b) = true := by
  have h0 := h
  unfold unpE at h
  split at h
  · simp at h
  · rename_i h1
    split at h
    · simp at h
    · split at h
      · rename_i h3
        simp only [unpB, Bool.and_eq_true, beq_iff_eq] at h3
        have hk : unpK b = kindS b := by rw [unpK, if_pos h0]
        have hl : unpL b = cutS b (min (numS b) 122) := by rw [unpL, if_pos h0]
        rw [hk, hl]
        exact ⟨by omega, h3.2.1⟩
      · simp at h
theorem unp_cell (b : List UInt8) (h : unpE b = 0) (c : List UInt8) (hc : c ∈ unpL b) : c.length ≤ 128 := by
  have hl := (page_of_unp b h).1
  rw [unpL, if_pos h, cutS, List.mem_map] at hc
  obtain ⟨i, _, rfl⟩ := hc
  rw [cellS, List.length_take, List.length_drop]
  omega
theorem unp_many (b : List UInt8) : (unpL b).length ≤ 122 := by
  unfold unpL; split
  · rw [cutS_length]; exact Nat.min_le_right _ _
  · simp
theorem takeF_fst_len (s : TSt) (n : Nat) : (takeF s n).1.length ≤ s.l.length := by
  unfold takeF; split
  · simp
  · split
    · simp
    · simp; omega
theorem tText_fst_len (s : TSt) : (tText s).1.length ≤ s.l.length := by
  have h1 := takeF_fst_len (tNum s 1).2 (tNum s 1).1
  have h2 := tNum_len s 1
  simp only [tText]; omega
theorem tText_len (s : TSt) : (tText s).2.l.length ≤ s.l.length := by
  have h1 := takeF_len (tNum s 1).2 (tNum s 1).1
  have h2 := tNum_len s 1
  simp only [tText]; omega
theorem decE_small {leaf : Bool} {c : List UInt8} {e : En} (h : decE leaf c = some e) : e.key.length ≤ c.length ∧ e.v.data.length ≤ c.length := by
  rw [decE, Option.map_eq_some_iff] at h
  obtain ⟨v, hv, rfl⟩ := h
  have h1 := tText_fst_len ⟨c, 0⟩
  have h2 := tText_len ⟨c, 0⟩
  refine ⟨h1, ?_⟩
  have h3 := tNum_len (tText ⟨c, 0⟩).2 1
  have h4 : (tRest (tNum (tText ⟨c, 0⟩).2 1).2).1.length ≤ (tNum (tText ⟨c, 0⟩).2 1).2.l.length := takeF_fst_len _ _
  unfold decV at hv
  repeat' (split at hv)
  all_goals first | (cases hv; done) | (have e := Option.some.inj hv; subst e; simp only [List.length_nil] at *; omega)
theorem decL_small {leaf : Bool} {M : Nat} : ∀ {a : List (List UInt8)} {l : List En}, decL leaf a = some l → (∀ c ∈ a, c.length ≤ M) → ∀ e ∈ l, e.key.length ≤ M ∧ e.v.data.length ≤ M
  | [], l, h, _ => by cases h; intro e he; simp at he
  | c :: r, l, h, hM => by
    simp only [decL] at h
    cases hc : decE leaf c with
    | none => rw [hc] at h; cases h
    | some x =>
      cases hr : decL leaf r with
      | none => rw [hc, hr] at h; cases h
      | some m =>
        rw [hc, hr] at h; cases h
        intro e he
        rcases List.mem_cons.1 he with rfl | he
        · have := decE_small hc; have := hM c (by simp); omega
        · exact decL_small hr (fun c hc => hM c (by simp [hc])) e he

/-- A row of entries of the call's own. -/
def OwnEn (w : World) (base : Nat) (v : Value) (l : List En) : Prop := w.ownsRow base 76 5 v l.length (l.flatMap ecells)
theorem OwnEn.nil (w : World) (base : Nat) : OwnEn w base (.slice none 0 0) [] := World.ownsRow_nil _ _ _ _
theorem OwnEn.below {w w' : World} {base : Nat} {v : Value} {l : List En} {B : Nat} (h : OwnEn w base v l) (hB : w.heap.size ≤ B) (hb : Below B w w') : OwnEn w' base v l := own_below h hB hb
theorem OwnEn.ents {w : World} {base : Nat} {v : Value} {l : List En} (h : OwnEn w base v l) : ∃ a cap, v = .slice a l.length cap ∧ Ents w a l.length cap l :=
  TabR.of_own ecells (fun _ => rfl) (fun _ => rfl) h
theorem info_entry : (Tryd.prog.info? 76).map (fun i => (i.zero, i.size, i.bytes)) = some (some (.agg #[.string ⟨#[]⟩, .string ⟨#[]⟩, .bool false, .int .i64 0, .int .i64 0]), 5, 56) := by kernel_rfl
/-- One entry more. -/
theorem append_en {w : World} {base : Nat} {v : Value} {l : List En} (h : OwnEn w base v l) (e : En) (hl : l.length ≤ 65536) (hbase : base ≤ w.heap.size) :
    ∃ v' w', (Builtin.append_ #[50, 50] 50 #[v, .slice (some ⟨w.heap.size, 0, none⟩) 1 1]).run Tryd.prog (w.alloc (.cells #[.string (strOf e.key), .string (strOf e.v.data), .bool e.v.far, .int .i64 e.v.size, .int .i64 e.v.page] 76)) = .ok v' w' ∧ OwnEn w' base v' (l ++ [e]) ∧ w.grownBy w' v.ownBlock := by
  obtain ⟨i0, hi, hz0, hz1, hz2⟩ := info_parts info_entry
  obtain ⟨v', w', hr, ho, hg, _⟩ := run_append_new (P := Tryd.prog) base 50 76 i0 _ 5 56 Tryd.underlying50 hi hz0 hz1 hz2 rfl (by decide) h #[.string (strOf e.key), .string (strOf e.v.data), .bool e.v.far, .int .i64 e.v.size, .int .i64 e.v.page] rfl (fun u hu => by simp at hu; rcases hu with rfl | rfl | rfl | rfl | rfl <;> rfl) (by unfold maxLen; omega) (by omega) hbase
  refine ⟨v', w', hr, ?_, hg⟩
  unfold OwnEn
  rw [List.flatMap_append, List.length_append]
  simpa [ecells, vcells] using ho

/-- The first so many cells tell entries. -/
def DecTo (leaf : Bool) (cl : List (List UInt8)) (k : Nat) (es : List En) : Prop := decL leaf (cl.take k) = some es
theorem DecTo.step {leaf : Bool} {cl : List (List UInt8)} {k : Nat} {es : List En} {c : List UInt8} {e : En} (h : DecTo leaf cl k es) (hc : cl[k]? = some c) (he : decE leaf c = some e) : DecTo leaf cl (k + 1) (es ++ [e]) := by
  unfold DecTo at h ⊢
  rw [List.take_add_one, hc]
  show decL leaf (cl.take k ++ [c]) = _
  rw [decL_snoc, h, he]
theorem DecTo.len {leaf : Bool} {cl : List (List UInt8)} {k : Nat} {es : List En} (h : DecTo leaf cl k es) : es.length ≤ k := by
  have := decL_length h; rw [this]; simp; omega
/-- A node, an error. -/
def GetNPost (w : World) (leaf : Bool) (l : List En) (er : Int) (e : Ending) (w' : World) : Prop :=
  ∃ v, e = .returned (.tuple #[.agg #[.bool leaf, v], .int .i64 er]) ∧ OwnEn w' w.heap.size v l ∧ Below w.heap.size w w'
theorem getpost_none {w w' : World} {e : Ending} {er : Int} (he : e = .returned (.tuple #[.agg #[.bool false, .slice none 0 0], .int .i64 er])) (hb : Below w.heap.size w w') : GetNPost w false [] er e w' := ⟨_, he, OwnEn.nil _ _, hb⟩

theorem ta_val (v : Vv) (W : World) : (Instr.typeAssert (.iface 74 (vv v)) 20 74 true).run Tryd.prog W = .ok (.tuple #[vv v, .bool true]) W := by kernel_rfl
theorem ta_none (x : Int) (W : World) : (Instr.typeAssert (.iface 27 (.int .i64 x)) 20 74 true).run Tryd.prog W = .ok (.tuple #[.agg #[.string ⟨#[]⟩, .bool false, .int .i64 0, .int .i64 0], .bool false]) W := by kernel_rfl

set_option maxRecDepth 100000 in
set_option maxHeartbeats 4000000 in
theorem nget_err (a : Option Addr) (n cap : Nat) (b : List UInt8) (w : World) (h : Bs w a n cap b) (hh : Half w) (hE : unpE b ≠ 0) :
    Calls Tryd.prog 37 #[.slice a n cap] w (GetNPost w false [] (unpE b)) := by
  have hB := below_one w (.cells #[.bool false, .slice none 0 0] 52)
  have BX := (Boxes.nil w).alloc #[.bool false, .slice none 0 0] 52 rfl
  have hun := unpack_any a n cap b _ (h.below (Nat.le_refl _) hB) (hh.below (Nat.le_refl _) hB)
  have hne : ((unpE b : Int) != 0) = true := by simpa using hE
  have hne2 : ((unpE b : Int) == 0) = false := by simpa using hE
  generalize unpE b = er at *
  generalize unpK b = k at *
  generalize unpL b = l at *
  clear hE
  go_enter Tryd.func37, Tryd.ntmps37
  go_wp2_with fail
  refine hun.mono ?_
  rintro e w1 ⟨v1, rfl, _, hb1⟩
  have BX := BX.step hb1
  have g0 := BX.cell 0 0 rfl rfl
  have g1 := BX.cell 0 1 rfl rfl
  have f0 := BX.frozen 0 0 rfl
  have f1 := BX.frozen 0 1 rfl
  go_wp2_with fail
  refine bodyPost_ret (v := .tuple #[.agg #[.bool false, .slice none 0 0], .int .i64 er]) (by simp [results, Tryd.results37, go_sem, g0, g1]) rfl (getpost_none rfl ?_)
  exact (((below_then hB hb1).setCell (Nat.le_refl _) _).setCell (Nat.le_refl _) _)

set_option maxRecDepth 100000 in
set_option maxHeartbeats 4000000 in
theorem nget_kind (a : Option Addr) (n cap : Nat) (b : List UInt8) (w : World) (h : Bs w a n cap b) (hh : Half w) (hE : unpE b = 0) (hk : 2 < (unpK b).toNat) :
    Calls Tryd.prog 37 #[.slice a n cap] w (GetNPost w false [] 11) := by
  have hB := below_one w (.cells #[.bool false, .slice none 0 0] 52)
  have BX := (Boxes.nil w).alloc #[.bool false, .slice none 0 0] 52 rfl
  have hun := unpack_any a n cap b _ (h.below (Nat.le_refl _) hB) (hh.below (Nat.le_refl _) hB)
  rw [hE] at hun
  have SH := fun W => shapes_any W
  have hkl := (unpK b).toNat_lt
  generalize (unpL b) = l at *
  generalize hkd : (unpK b).toNat = kd at *
  have hge : (decide ((kd : Int) ≥ 3)) = true := by simp; omega
  have hge2 : (decide ((3 : Int) ≤ (kd : Int))) = true := by simp; omega
  have hge3 : (decide (3 ≤ kd)) = true := by simp; omega
  unfold UnpPost at hun
  rw [hkd] at hun
  clear hE hkd hk
  go_enter Tryd.func37, Tryd.ntmps37
  go_wp2_with fail
  refine hun.mono ?_
  rintro e w1 ⟨v1, rfl, _, hb1⟩
  have BX := BX.step hb1
  have hb := below_then hB hb1
  go_wp2_with fail
  refine (SH _).mono ?_
  rintro e w2 ⟨bs, rfl, hs2, hb2⟩
  have BX := BX.step hb2
  have hb := below_then hb hb2
  have g0 := BX.cell 0 0 rfl rfl
  have g1 := BX.cell 0 1 rfl rfl
  have f0 := BX.frozen 0 0 rfl
  have f1 := BX.frozen 0 1 rfl
  go_wp2_with fail
  refine bodyPost_ret (v := .tuple #[.agg #[.bool false, .slice none 0 0], .int .i64 11]) (by simp [results, Tryd.results37, go_sem, g0, g1]) rfl (getpost_none rfl ?_)
  exact ((hb.setCell (Nat.le_refl _) _).setCell (Nat.le_refl _) _)

set_option maxRecDepth 100000 in
set_option maxHeartbeats 16000000 in
theorem nget_leaf (a : Option Addr) (n cap : Nat) (b : List UInt8) (w : World) (h : Bs w a n cap b) (hh : Half w) (hE : unpE b = 0) (hk : unpK b = kindN true) :
    Calls Tryd.prog 37 #[.slice a n cap] w (GetNPost w (getNF b) (getNL b) (getNE b)) := by
  have hB := below_one w (.cells #[.bool false, .slice none 0 0] 52)
  have BX := (Boxes.nil w).alloc #[.bool false, .slice none 0 0] 52 rfl
  have hun := unpack_any a n cap b _ (h.below (Nat.le_refl _) hB) (hh.below (Nat.le_refl _) hB)
  have hmany := unp_many b
  have hcl := unp_cell b hE
  have hlk : leafK b = true := by rw [leafK, hk]; rfl
  have hdec : (decide ((unpK b).toNat ≤ 2)) = true := by rw [hk]; rfl
  have hgE : getNE b = if (match decL true (unpL b) with | some l => nodeB true l | none => false) then 0 else 11 := by
    rw [getNE, if_neg (by rw [hE]; simp), getNB, hdec, entN, hlk]; rfl
  have hgL : getNL b = if getNE b = 0 then (decL true (unpL b)).getD [] else [] := by rw [getNL, entN, hlk]
  have hgF : getNF b = if getNE b = 0 then true else false := by rw [getNF, hlk]
  rw [hE, hk] at hun
  have SH := fun W => shapes_any W
  generalize unpL b = cl at *
  generalize getNE b = gE at *
  generalize getNL b = gL at *
  generalize getNF b = gF at *
  have HE := Lib.hid hgE
  have HL := Lib.hid hgL
  have HF := Lib.hid hgF
  have HC := Lib.hid hcl
  have hun : Calls Tryd.prog 47 #[.slice a n cap] (w.alloc (.cells #[.bool false, .slice none 0 0] 52)) fun e w' => ∃ v, e = .returned (.tuple #[.int .u8 1, v, .int .i64 0]) ∧ OwnBss w' (w.alloc (.cells #[.bool false, .slice none 0 0] 52)).heap.size v cl ∧ Below (w.alloc (.cells #[.bool false, .slice none 0 0] 52)).heap.size (w.alloc (.cells #[.bool false, .slice none 0 0] 52)) w' := hun
  clear hE hk hlk hdec hgE hgL hgF hcl
  go_enter Tryd.func37, Tryd.ntmps37
  go_wp2_with fail
  refine hun.mono ?_
  rintro e w1 ⟨v1, rfl, hob, hb1⟩
  obtain ⟨ac, cc, rfl, hbs⟩ := hob.bss
  have BX := BX.step hb1
  have hb := below_then hB hb1
  clear hob hun hb1
  go_wp2_with fail
  refine (SH _).mono ?_
  rintro e w2 ⟨bs, rfl, hs2, hb2⟩
  have BX := BX.step hb2
  have hb := below_then hb hb2
  have hbs := hbs.below (Nat.le_refl _) hb2
  clear hb2 hs2
  go_wp2_with fail
  refine (SH _).mono ?_
  rintro e w3 ⟨bs3, rfl, hs3, hb3⟩
  have BX := BX.step hb3
  have hb := below_then hb hb3
  have hbs := hbs.below (Nat.le_refl _) hb3
  have g3 := hs3.cell 0 1 rfl rfl
  have hq : (binOp .eql 111 (.iface 125 (.agg #[])) (.iface 125 (.agg #[]))).run Tryd.prog w3 = .ok (.bool true) w3 := by kernel_rfl
  have BY := BX.alloc #[.bool true, .slice none 0 0] 52 rfl
  have hb4 := below_one w3 (.cells #[.bool true, .slice none 0 0] 52)
  have HBS := Lib.hid hbs
  have HB := Lib.hid hb
  have hlt3 := BX.lt 0 rfl
  clear hb3 hs3 BX hbs hb
  go_wp2_with fail
  go_loopw [42] (fun i wr => ∃ (k : Nat) (v : Value) (es : List En), k ≤ cl.length ∧ i = .int .i64 k ∧ DecTo true cl k es ∧ Boxes wr [(w3.heap.size, [.bool true, v]), (w.heap.size, [.bool false, .slice none 0 0])] ∧ OwnEn wr (w3.heap.size + 1) v es ∧ Below w3.heap.size w3 wr) (fun i _ => cl.length - (intOf i).toNat)
  case atStart => exact ⟨0, _, [], Nat.zero_le _, rfl, rfl, BY, OwnEn.nil _ _, hb4⟩
  case round =>
    obtain ⟨k, v, es, hk, rfl, hdt, BY, hown, hbw⟩ := hrel
    have hsz := hbw.size
    have HDT := Lib.hid hdt
    have hes := hdt.len
    clear hdt
    by_cases hlt : k < cl.length
    · obtain ⟨b5, off5, a5, n5, c5, rfl, hbb5, hcell5, hbs5⟩ := (HBS.out.below (Nat.le_refl _) hbw).at hlt
      obtain ⟨c, hc⟩ : ∃ c, cl[k]? = some c := ⟨_, List.getElem?_eq_getElem hlt⟩
      rw [hc, Option.getD_some] at hbs5
      have h5 : c.length ≤ 128 := HC.out c (List.mem_of_getElem? hc)
      have h5' : n5 ≤ 128 := by have := hbs5.len; omega
      have HCK := Lib.hid hc
      have hT := take_any a5 n5 c5 c wr hbs5 (by omega)
      have hde : decE true c = (decV true (tText ⟨c, 0⟩).2).map fun v => ⟨(tText ⟨c, 0⟩).1, v⟩ := rfl
      have hl6 := tText_len ⟨c, 0⟩
      have hl6 : (tText ⟨c, 0⟩).2.l.length ≤ 128 := Nat.le_trans hl6 h5
      have TT := fun t W (h : Tk W t ⟨c, 0⟩) => tText_any t ⟨c, 0⟩ W h (Nat.le_trans h5 (by decide))
      generalize (tText ⟨c, 0⟩).1 = key at *
      generalize (tText ⟨c, 0⟩).2 = s6 at *
      have HDE := Lib.hid hde
      have TK := fun t W (h : Tk W t s6) => takeL_any t s6 W h (Nat.le_trans hl6 (by decide))
      generalize decV true s6 = o at *
      have hmp := m_takeL
      clear hc hbs5 hde
      go_wp2_with fail
      refine hT.mono ?_
      rintro e w5 ⟨rfl, htk5, htl, hb5⟩
      generalize w5.heap.size - 1 = t at *
      have BY0 := Lib.hid BY
      have HO0 := Lib.hid hown
      clear hT BY hown
      go_wp2_with fail
      refine (TT _ _ htk5).mono ?_
      rintro e w6 ⟨_, rfl, rfl, hg6, htk6⟩
      have hb6 := below_take hb5 htl hg6
      go_wp2_with fail
      refine (TK _ _ htk6).mono ?_
      rintro e w7 ⟨u, s7, rfl, hu, hg7, htk7⟩
      have hb7 := below_take hb6 htl hg7
      have BY7 := BY0.out.step hb7
      have hown7 := HO0.out.below (Nat.le_refl _) hb7
      have hbw7 := below_then hbw hb7
      have hb8 := below_one w7
      cases o with
      | none =>
        obtain ⟨x, rfl⟩ := hu
        have hN : decL true cl = none := decL_none HCK.out HDE.out
        have hE : gE = 11 := by rw [HE.out, hN]; rfl
        have hL : gL = [] := by rw [HL.out, if_neg (by rw [hE]; decide)]
        have hF : gF = false := by rw [HF.out, if_neg (by rw [hE]; decide)]
        subst hE hL hF
        have BZ := BY7.step (hb8 (.cells #[.string ⟨#[]⟩, .bool false, .int .i64 0, .int .i64 0] 74))
        have f0 := BZ.frozen 1 0 rfl
        have f1 := BZ.frozen 1 1 rfl
        have g0 := BZ.cell 1 0 rfl rfl
        have g1 := BZ.cell 1 1 rfl rfl
        have hta := ta_none x w7
        go_wp2_with fail
        refine bodyPost_ret (v := .tuple #[.agg #[.bool false, .slice none 0 0], .int .i64 11]) (by simp [results, Tryd.results37, go_sem, g0, g1]) rfl (getpost_none rfl ?_)
        have hz7 := hb7.size
        exact ((((below_then HB.out (below_then hbw7 (hb8 _))).setCell (Nat.le_refl _) _).setCell (Nat.le_refl _) _))
      | some x =>
        subst hu
        have hD : decE true c = some ⟨key, x⟩ := HDE.out
        have HDT2 := Lib.hid (HDT.out.step HCK.out hD)
        have hta := ta_val x w7
        unfold vv at hta ⊢
        have hsz7 := hbw7.size
        have hb8 := below_one w7 (.cells #[.string (strOf x.data), .bool x.far, .int .i64 x.size, .int .i64 x.page] 74)
        have BV := BY7.alloc #[.string (strOf x.data), .bool x.far, .int .i64 x.size, .int .i64 x.page] 74 rfl
        obtain ⟨v9, w9, hr9, ho9, hg9⟩ := append_en (hown7.below (Nat.le_refl _) hb8) ⟨key, x⟩ (by omega) (by simp; omega)
        obtain ⟨a9, k9, rfl, hk91, hk92, hk93⟩ := own_slice ho9
        rw [show (es ++ [⟨key, x⟩] : List En).length = es.length + 1 from by simp] at ho9 hr9
        have e1 := BV.cell 1 1 rfl rfl
        have hne1 : v.ownBlock ≠ some w3.heap.size := fun e => by have := own_ge hown7 _ e; omega
        have BW := (BV.sub (m := [(w3.heap.size, [.bool true, v]), (w.heap.size, [.bool false, .slice none 0 0])]) (fun p hp => List.mem_cons_of_mem _ hp)).grown hg9 (fun p hp => by
          simp at hp
          rcases hp with rfl | rfl
          · exact hne1
          · intro e; have := own_ge hown7 _ e; have := HB.out.size; omega)
        have f1 := BW.frozen 0 1 rfl
        have e2 := BW.cell 0 1 rfl rfl
        have hbw9 : Below w3.heap.size w3 w9 := (below_then hbw7 hb8).grown hg9 (by simp; omega) (fun k e => by have := own_ge hown7 _ e; omega)
        have HB9 := Lib.hid hbw9
        have HO9 := Lib.hid ho9
        have HR9 := hr9
        rw [show (w7.alloc (.cells #[.string (strOf x.data), .bool x.far, .int .i64 x.size, .int .i64 x.page] 74)).heap.size = w7.heap.size + 1 from by simp] at HR9
        clear hr9 hbw9 ho9 hk91 hk92 hk93
        go_wp2_with (at_builtin; refine wpList_append_run rfl _ _ _ _ rfl rfl rfl HR9 ?_)
        go_roundw
        case rel =>
          have hne9 : Value.ownBlock (.slice a9 (es.length + 1) k9) ≠ some w3.heap.size := fun e => by have := own_ge HO9.out _ e; omega
          exact ⟨k + 1, _, _, by omega, by go_num, HDT2.out, BW.put 1 _ (fun p hp => by simp at hp; subst hp; simp; omega), own_set HO9.out ⟨w3.heap.size, 1, none⟩ (.slice a9 (es.length + 1) k9) hne9, HB9.out.setCell (Nat.le_refl _) _⟩
        case measure => simp [intOf]; omega
    · obtain rfl : k = cl.length := by omega
      have hdl : decL true cl = some es := by have := HDT.out; unfold DecTo at this; rwa [List.take_length] at this
      have hes16 : SmE es := fun e he => by have := decL_small hdl HC.out e he; omega
      obtain ⟨av, kv, rfl, hen⟩ := hown.ents
      have CK := check_any true av es.length kv es wr hen (by omega) hes16
      have hE : gE = if nodeB true es then 0 else 11 := by rw [HE.out, hdl]
      have e0 := BY.cell 0 0 rfl rfl
      have e1 := BY.cell 0 1 rfl rfl
      have HO := Lib.hid hown
      clear hown hen
      have hbb := below_then HB.out hbw
      cases hn : nodeB true es with
      | true =>
        rw [hn] at CK hE
        have hE0 : gE = 0 := hE
        have hL : gL = es := by rw [HL.out, if_pos hE0, hdl]; rfl
        have hF : gF = true := by rw [HF.out, if_pos hE0]
        clear hn hE hdl HE HL HF
        subst hE0 hL hF
        go_wp2_with fail
        refine CK.mono ?_
        rintro e w5 ⟨rfl, hb5⟩
        have BY5 := BY.step hb5
        have HO5 := HO.out.below (Nat.le_refl _) hb5
        have hbb5 := below_then hbb hb5
        have hbw5 := below_then hbw hb5
        have g0 := BY5.cell 0 0 rfl rfl
        have g1 := BY5.cell 0 1 rfl rfl
        have g2 := BY5.cell 1 0 rfl rfl
        have g3 := BY5.cell 1 1 rfl rfl
        have f2 := BY5.frozen 1 0 rfl
        have f3 := BY5.frozen 1 1 rfl
        go_wp2_with fail
        refine bodyPost_ret (v := .tuple #[.agg #[.bool true, .slice av gL.length kv], .int .i64 0]) (by simp [results, Tryd.results37, go_sem, g0, g1, g2, g3]) rfl ⟨_, rfl, ?_, ?_⟩
        · have hrb : ∀ i u W, OwnEn W (w3.heap.size + 1) (.slice av gL.length kv) gL → OwnEn (W.setCell ⟨w.heap.size, i, none⟩ u) (w3.heap.size + 1) (.slice av gL.length kv) gL := fun i u W hW => own_set hW _ _ (fun e => by have h2 := own_ge hW _ e; have h3 : w3.heap.size + 1 ≤ w.heap.size := h2; omega)
          exact own_base (hrb _ _ _ (hrb _ _ _ HO5)) (by omega)
        · exact ((hbb5.setCell (Nat.le_refl _) _).setCell (Nat.le_refl _) _)
      | false =>
        rw [hn] at CK hE
        have hE0 : gE = 11 := hE
        have hL : gL = [] := by rw [HL.out, if_neg (by rw [hE0]; decide)]
        have hF : gF = false := by rw [HF.out, if_neg (by rw [hE0]; decide)]
        clear hn hE hdl HE HL HF
        subst hE0 hL hF
        go_wp2_with fail
        refine CK.mono ?_
        rintro e w5 ⟨rfl, hb5⟩
        have BY5 := BY.step hb5
        have hbb5 := below_then hbb hb5
        have g2 := BY5.cell 1 0 rfl rfl
        have g3 := BY5.cell 1 1 rfl rfl
        have f2 := BY5.frozen 1 0 rfl
        have f3 := BY5.frozen 1 1 rfl
        go_wp2_with fail
        refine bodyPost_ret (v := .tuple #[.agg #[.bool false, .slice none 0 0], .int .i64 11]) (by simp [results, Tryd.results37, go_sem, g2, g3]) rfl (getpost_none rfl ?_)
        exact ((hbb5.setCell (Nat.le_refl _) _).setCell (Nat.le_refl _) _)

set_option maxRecDepth 100000 in
set_option maxHeartbeats 16000000 in
theorem nget_branch (a : Option Addr) (n cap : Nat) (b : List UInt8) (w : World) (h : Bs w a n cap b) (hh : Half w) (hE : unpE b = 0) (hk : unpK b = kindN false) :
    Calls Tryd.prog 37 #[.slice a n cap] w (GetNPost w (getNF b) (getNL b) (getNE b)) := by
  have hB := below_one w (.cells #[.bool false, .slice none 0 0] 52)
  have BX := (Boxes.nil w).alloc #[.bool false, .slice none 0 0] 52 rfl
  have hun := unpack_any a n cap b _ (h.below (Nat.le_refl _) hB) (hh.below (Nat.le_refl _) hB)
  have hmany := unp_many b
  have hcl := unp_cell b hE
  have hlk : leafK b = false := by rw [leafK, hk]; rfl
  have hdec : (decide ((unpK b).toNat ≤ 2)) = true := by rw [hk]; rfl
  have hgE : getNE b = if (match decL false (unpL b) with | some l => nodeB false l | none => false) then 0 else 11 := by
    rw [getNE, if_neg (by rw [hE]; simp), getNB, hdec, entN, hlk]; rfl
  have hgL : getNL b = if getNE b = 0 then (decL false (unpL b)).getD [] else [] := by rw [getNL, entN, hlk]
  have hgF : getNF b = if getNE b = 0 then false else false := by rw [getNF, hlk]
  rw [hE, hk] at hun
  have SH := fun W => shapes_any W
  generalize unpL b = cl at *
  generalize getNE b = gE at *
  generalize getNL b = gL at *
  generalize getNF b = gF at *
  have HE := Lib.hid hgE
  have HL := Lib.hid hgL
  have HF := Lib.hid hgF
  have HC := Lib.hid hcl
  have hun : Calls Tryd.prog 47 #[.slice a n cap] (w.alloc (.cells #[.bool false, .slice none 0 0] 52)) fun e w' => ∃ v, e = .returned (.tuple #[.int .u8 2, v, .int .i64 0]) ∧ OwnBss w' (w.alloc (.cells #[.bool false, .slice none 0 0] 52)).heap.size v cl ∧ Below (w.alloc (.cells #[.bool false, .slice none 0 0] 52)).heap.size (w.alloc (.cells #[.bool false, .slice none 0 0] 52)) w' := hun
  clear hE hk hlk hdec hgE hgL hgF hcl
  go_enter Tryd.func37, Tryd.ntmps37
  go_wp2_with fail
  refine hun.mono ?_
  rintro e w1 ⟨v1, rfl, hob, hb1⟩
  obtain ⟨ac, cc, rfl, hbs⟩ := hob.bss
  have BX := BX.step hb1
  have hb := below_then hB hb1
  clear hob hun hb1
  go_wp2_with fail
  refine (SH _).mono ?_
  rintro e w2 ⟨bs, rfl, hs2, hb2⟩
  have BX := BX.step hb2
  have hb := below_then hb hb2
  have hbs := hbs.below (Nat.le_refl _) hb2
  clear hb2 hs2
  go_wp2_with fail
  refine (SH _).mono ?_
  rintro e w3 ⟨bs3, rfl, hs3, hb3⟩
  have BX := BX.step hb3
  have hb := below_then hb hb3
  have hbs := hbs.below (Nat.le_refl _) hb3
  have g3 := hs3.cell 0 2 rfl rfl
  have hq : (binOp .eql 111 (.iface 142 (.agg #[])) (.iface 125 (.agg #[]))).run Tryd.prog w3 = .ok (.bool false) w3 := by kernel_rfl
  have BY := BX.alloc #[.bool false, .slice none 0 0] 52 rfl
  have hb4 := below_one w3 (.cells #[.bool false, .slice none 0 0] 52)
  have HBS := Lib.hid hbs
  have HB := Lib.hid hb
  have hlt3 := BX.lt 0 rfl
  clear hb3 hs3 BX hbs hb
  go_wp2_with fail
  go_loopw [42] (fun i wr => ∃ (k : Nat) (v : Value) (es : List En), k ≤ cl.length ∧ i = .int .i64 k ∧ DecTo false cl k es ∧ Boxes wr [(w3.heap.size, [.bool false, v]), (w.heap.size, [.bool false, .slice none 0 0])] ∧ OwnEn wr (w3.heap.size + 1) v es ∧ Below w3.heap.size w3 wr) (fun i _ => cl.length - (intOf i).toNat)
  case atStart => exact ⟨0, _, [], Nat.zero_le _, rfl, rfl, BY, OwnEn.nil _ _, hb4⟩
  case round =>
    obtain ⟨k, v, es, hk, rfl, hdt, BY, hown, hbw⟩ := hrel
    have hsz := hbw.size
    have HDT := Lib.hid hdt
    have hes := hdt.len
    clear hdt
    by_cases hlt : k < cl.length
    · obtain ⟨b5, off5, a5, n5, c5, rfl, hbb5, hcell5, hbs5⟩ := (HBS.out.below (Nat.le_refl _) hbw).at hlt
      obtain ⟨c, hc⟩ : ∃ c, cl[k]? = some c := ⟨_, List.getElem?_eq_getElem hlt⟩
      rw [hc, Option.getD_some] at hbs5
      have h5 : c.length ≤ 128 := HC.out c (List.mem_of_getElem? hc)
      have h5' : n5 ≤ 128 := by have := hbs5.len; omega
      have HCK := Lib.hid hc
      have hT := take_any a5 n5 c5 c wr hbs5 (by omega)
      have hde : decE false c = (decV false (tText ⟨c, 0⟩).2).map fun v => ⟨(tText ⟨c, 0⟩).1, v⟩ := rfl
      have hl6 := tText_len ⟨c, 0⟩
      have hl6 : (tText ⟨c, 0⟩).2.l.length ≤ 128 := Nat.le_trans hl6 h5
      have TT := fun t W (h : Tk W t ⟨c, 0⟩) => tText_any t ⟨c, 0⟩ W h (Nat.le_trans h5 (by decide))
      generalize (tText ⟨c, 0⟩).1 = key at *
      generalize (tText ⟨c, 0⟩).2 = s6 at *
      have HDE := Lib.hid hde
      have TK := fun t W (h : Tk W t s6) => takeB_any t s6 W h (Nat.le_trans hl6 (by decide))
      generalize decV false s6 = o at *
      have hmp := m_takeB
      clear hc hbs5 hde
      go_wp2_with fail
      refine hT.mono ?_
      rintro e w5 ⟨rfl, htk5, htl, hb5⟩
      generalize w5.heap.size - 1 = t at *
      have BY0 := Lib.hid BY
      have HO0 := Lib.hid hown
      clear hT BY hown
      go_wp2_with fail
      refine (TT _ _ htk5).mono ?_
      rintro e w6 ⟨_, rfl, rfl, hg6, htk6⟩
      have hb6 := below_take hb5 htl hg6
      go_wp2_with fail
      refine (TK _ _ htk6).mono ?_
      rintro e w7 ⟨u, s7, rfl, hu, hg7, htk7⟩
      have hb7 := below_take hb6 htl hg7
      have BY7 := BY0.out.step hb7
      have hown7 := HO0.out.below (Nat.le_refl _) hb7
      have hbw7 := below_then hbw hb7
      have hb8 := below_one w7
      cases o with
      | none =>
        obtain ⟨x, rfl⟩ := hu
        have hN : decL false cl = none := decL_none HCK.out HDE.out
        have hE : gE = 11 := by rw [HE.out, hN]; rfl
        have hL : gL = [] := by rw [HL.out, if_neg (by rw [hE]; decide)]
        have hF : gF = false := by rw [HF.out, if_neg (by rw [hE]; decide)]
        subst hE hL hF
        have BZ := BY7.step (hb8 (.cells #[.string ⟨#[]⟩, .bool false, .int .i64 0, .int .i64 0] 74))
        have f0 := BZ.frozen 1 0 rfl
        have f1 := BZ.frozen 1 1 rfl
        have g0 := BZ.cell 1 0 rfl rfl
        have g1 := BZ.cell 1 1 rfl rfl
        have hta := ta_none x w7
        go_wp2_with fail
        refine bodyPost_ret (v := .tuple #[.agg #[.bool false, .slice none 0 0], .int .i64 11]) (by simp [results, Tryd.results37, go_sem, g0, g1]) rfl (getpost_none rfl ?_)
        have hz7 := hb7.size
        exact ((((below_then HB.out (below_then hbw7 (hb8 _))).setCell (Nat.le_refl _) _).setCell (Nat.le_refl _) _))
      | some x =>
        subst hu
        have hD : decE false c = some ⟨key, x⟩ := HDE.out
        have HDT2 := Lib.hid (HDT.out.step HCK.out hD)
        have hta := ta_val x w7
        unfold vv at hta ⊢
        have hsz7 := hbw7.size
        have hb8 := below_one w7 (.cells #[.string (strOf x.data), .bool x.far, .int .i64 x.size, .int .i64 x.page] 74)
        have BV := BY7.alloc #[.string (strOf x.data), .bool x.far, .int .i64 x.size, .int .i64 x.page] 74 rfl
        obtain ⟨v9, w9, hr9, ho9, hg9⟩ := append_en (hown7.below (Nat.le_refl _) hb8) ⟨key, x⟩ (by omega) (by simp; omega)
        obtain ⟨a9, k9, rfl, hk91, hk92, hk93⟩ := own_slice ho9
        rw [show (es ++ [⟨key, x⟩] : List En).length = es.length + 1 from by simp] at ho9 hr9
        have e1 := BV.cell 1 1 rfl rfl
        have hne1 : v.ownBlock ≠ some w3.heap.size := fun e => by have := own_ge hown7 _ e; omega
        have BW := (BV.sub (m := [(w3.heap.size, [.bool false, v]), (w.heap.size, [.bool false, .slice none 0 0])]) (fun p hp => List.mem_cons_of_mem _ hp)).grown hg9 (fun p hp => by
          simp at hp
          rcases hp with rfl | rfl
          · exact hne1
          · intro e; have := own_ge hown7 _ e; have := HB.out.size; omega)
        have f1 := BW.frozen 0 1 rfl
        have e2 := BW.cell 0 1 rfl rfl
        have hbw9 : Below w3.heap.size w3 w9 := (below_then hbw7 hb8).grown hg9 (by simp; omega) (fun k e => by have := own_ge hown7 _ e; omega)
        have HB9 := Lib.hid hbw9
        have HO9 := Lib.hid ho9
        have HR9 := hr9
        rw [show (w7.alloc (.cells #[.string (strOf x.data), .bool x.far, .int .i64 x.size, .int .i64 x.page] 74)).heap.size = w7.heap.size + 1 from by simp] at HR9
        clear hr9 hbw9 ho9 hk91 hk92 hk93
        go_wp2_with (at_builtin; refine wpList_append_run rfl _ _ _ _ rfl rfl rfl HR9 ?_)
        go_roundw
        case rel =>
          have hne9 : Value.ownBlock (.slice a9 (es.length + 1) k9) ≠ some w3.heap.size := fun e => by have := own_ge HO9.out _ e; omega
          exact ⟨k + 1, _, _, by omega, by go_num, HDT2.out, BW.put 1 _ (fun p hp => by simp at hp; subst hp; simp; omega), own_set HO9.out ⟨w3.heap.size, 1, none⟩ (.slice a9 (es.length + 1) k9) hne9, HB9.out.setCell (Nat.le_refl _) _⟩
        case measure => simp [intOf]; omega
    · obtain rfl : k = cl.length := by omega
      have hdl : decL false cl = some es := by have := HDT.out; unfold DecTo at this; rwa [List.take_length] at this
      have hes16 : SmE es := fun e he => by have := decL_small hdl HC.out e he; omega
      obtain ⟨av, kv, rfl, hen⟩ := hown.ents
      have CK := check_any false av es.length kv es wr hen (by omega) hes16
      have hE : gE = if nodeB false es then 0 else 11 := by rw [HE.out, hdl]
      have e0 := BY.cell 0 0 rfl rfl
      have e1 := BY.cell 0 1 rfl rfl
      have HO := Lib.hid hown
      clear hown hen
      have hbb := below_then HB.out hbw
      cases hn : nodeB false es with
      | true =>
        rw [hn] at CK hE
        have hE0 : gE = 0 := hE
        have hL : gL = es := by rw [HL.out, if_pos hE0, hdl]; rfl
        have hF : gF = false := by rw [HF.out, if_pos hE0]
        clear hn hE hdl HE HL HF
        subst hE0 hL hF
        go_wp2_with fail
        refine CK.mono ?_
        rintro e w5 ⟨rfl, hb5⟩
        have BY5 := BY.step hb5
        have HO5 := HO.out.below (Nat.le_refl _) hb5
        have hbb5 := below_then hbb hb5
        have hbw5 := below_then hbw hb5
        have g0 := BY5.cell 0 0 rfl rfl
        have g1 := BY5.cell 0 1 rfl rfl
        have g2 := BY5.cell 1 0 rfl rfl
        have g3 := BY5.cell 1 1 rfl rfl
        have f2 := BY5.frozen 1 0 rfl
        have f3 := BY5.frozen 1 1 rfl
        go_wp2_with fail
        refine bodyPost_ret (v := .tuple #[.agg #[.bool false, .slice av gL.length kv], .int .i64 0]) (by simp [results, Tryd.results37, go_sem, g0, g1, g2, g3]) rfl ⟨_, rfl, ?_, ?_⟩
        · have hrb : ∀ i u W, OwnEn W (w3.heap.size + 1) (.slice av gL.length kv) gL → OwnEn (W.setCell ⟨w.heap.size, i, none⟩ u) (w3.heap.size + 1) (.slice av gL.length kv) gL := fun i u W hW => own_set hW _ _ (fun e => by have h2 := own_ge hW _ e; have h3 : w3.heap.size + 1 ≤ w.heap.size := h2; omega)
          exact own_base (hrb _ _ _ (hrb _ _ _ HO5)) (by omega)
        · exact ((hbb5.setCell (Nat.le_refl _) _).setCell (Nat.le_refl _) _)
      | false =>
        rw [hn] at CK hE
        have hE0 : gE = 11 := hE
        have hL : gL = [] := by rw [HL.out, if_neg (by rw [hE0]; decide)]
        have hF : gF = false := by rw [HF.out, if_neg (by rw [hE0]; decide)]
        clear hn hE hdl HE HL HF
        subst hE0 hL hF
        go_wp2_with fail
        refine CK.mono ?_
        rintro e w5 ⟨rfl, hb5⟩
        have BY5 := BY.step hb5
        have hbb5 := below_then hbb hb5
        have g2 := BY5.cell 1 0 rfl rfl
        have g3 := BY5.cell 1 1 rfl rfl
        have f2 := BY5.frozen 1 0 rfl
        have f3 := BY5.frozen 1 1 rfl
        go_wp2_with fail
        refine bodyPost_ret (v := .tuple #[.agg #[.bool false, .slice none 0 0], .int .i64 11]) (by simp [results, Tryd.results37, go_sem, g2, g3]) rfl (getpost_none rfl ?_)
        exact ((hbb5.setCell (Nat.le_refl _) _).setCell (Nat.le_refl _) _)

theorem nget_any (a : Option Addr) (n cap : Nat) (b : List UInt8) (w : World) (h : Bs w a n cap b) (hh : Half w) :
    Calls Tryd.prog 37 #[.slice a n cap] w (GetNPost w (getNF b) (getNL b) (getNE b)) := by
  by_cases hE : unpE b = 0
  · by_cases hk : (unpK b).toNat ≤ 2
    · have hf := (page_of_unp b hE).2
      have h0 : unpK b ≠ 0 := fun e => by rw [fits, e] at hf; simp at hf
      have h0' : (unpK b).toNat ≠ 0 := fun e => h0 (UInt8.toNat_inj.1 e)
      by_cases h1 : (unpK b).toNat = 1
      · exact nget_leaf a n cap b w h hh hE (UInt8.toNat_inj.1 h1)
      · exact nget_branch a n cap b w h hh hE (UInt8.toNat_inj.1 (show (unpK b).toNat = 2 by omega))
    · have hB : getNB b = false := by rw [getNB, decide_eq_false hk]; rfl
      have hE2 : getNE b = 11 := by rw [getNE, if_neg (by rw [hE]; simp), hB]; rfl
      have hL2 : getNL b = [] := by rw [getNL, if_neg (by rw [hE2]; decide)]
      have hF2 : getNF b = false := by rw [getNF, if_neg (by rw [hE2]; decide)]
      rw [hE2, hL2, hF2]
      exact nget_kind a n cap b w h hh hE (by omega)
  · have hE2 : getNE b = unpE b := by rw [getNE, if_pos hE]
    have hL2 : getNL b = [] := by rw [getNL, hE2, if_neg hE]
    have hF2 : getNF b = false := by rw [getNF, hE2, if_neg hE]
    rw [hE2, hL2, hF2]
    exact nget_err a n cap b w h hh hE
end Go.Proofs.YtjdepdgoaopfoaaDoor
