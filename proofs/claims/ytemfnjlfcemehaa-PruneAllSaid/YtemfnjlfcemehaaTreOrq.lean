/- Puts in whichever order: plain. -/
import Derived.Test.YtemfnjlfcemehaaM9
import Derived.Test.YtemfnjlfcemehaaM7
namespace Go.Proofs.Ytemfnjlfcemehaa

def ptE (y : Pt) : List UInt8 × Tv := (y.key, ⟨fillT y.fill y.size.toNat, []⟩)
theorem nodup_fun : ∀ {q : List Pt}, (q.map (·.key)).Nodup → ∃ f : List UInt8 → Tv, ∀ y ∈ q, (ptE y).2 = f y.key
  | [], _ => ⟨fun _ => ⟨[], []⟩, fun y hy => by cases hy⟩
  | z :: r, h => by
    rw [List.map_cons, List.nodup_cons] at h
    obtain ⟨f, hf⟩ := nodup_fun h.2
    refine ⟨fun k => if k = z.key then (ptE z).2 else f k, fun y hy => ?_⟩
    rcases List.mem_cons.1 hy with rfl | hy
    · exact (if_pos rfl).symm
    · have : y.key ≠ z.key := fun e => h.1 (e ▸ List.mem_map_of_mem hy)
      exact (hf y hy).trans (if_neg this).symm
theorem srt_nil : Srt [] := List.Pairwise.nil
theorem puts_next {p : List (List UInt8 × Tv)} {i : Nat} {c : List UInt8 × Tv} (h : p[i]? = some c) : putsL (p.take (i + 1)) [] = putL c.1 c.2 (putsL (p.take i) []) := by
  rw [List.take_add_one, h, puts_append]; rfl
theorem orders_same {q q' : List Pt} (hn : (q.map (·.key)).Nodup) (hp : List.Perm q' q) : putsL ((q' ++ q').map ptE) [] = putsL (q.map ptE) [] ∧ (putsL (q.map ptE) []).length = q.length := by
  obtain ⟨f, hf⟩ := nodup_fun hn
  have h1 : ∀ c ∈ q.map ptE, c.2 = f c.1 := fun c hc => by
    obtain ⟨y, hy, rfl⟩ := List.mem_map.1 hc
    exact hf y hy
  have h2 : ∀ c ∈ (q' ++ q').map ptE, c.2 = f c.1 := fun c hc => by
    obtain ⟨y, hy, rfl⟩ := List.mem_map.1 hc
    exact hf y (hp.mem_iff.1 (by simpa using hy))
  refine ⟨srt_ext (srt_puts srt_nil) (srt_puts srt_nil) (fun c => ?_), ?_⟩
  · rw [mem_puts srt_nil h2 (fun c hc => by cases hc), mem_puts srt_nil h1 (fun c hc => by cases hc)]
    constructor
    · rintro (h | h)
      · obtain ⟨y, hy, rfl⟩ := List.mem_map.1 h
        exact .inl (List.mem_map_of_mem (hp.mem_iff.1 (by simpa using hy)))
      · cases h
    · rintro (h | h)
      · obtain ⟨y, hy, rfl⟩ := List.mem_map.1 h
        exact .inl (List.mem_map_of_mem (by simpa using hp.mem_iff.2 hy))
      · cases h
  · have hk : keysOf (q.map ptE) = q.map (·.key) := by unfold keysOf; rw [List.map_map]; rfl
    rw [puts_length srt_nil (by rw [hk]; exact hn) (fun c _ d hd => by cases hd)]
    simp
theorem perm_swap {q : List Pt} {x y : Nat} {a b : Pt} (hx : q[x]? = some a) (hy : q[y]? = some b) : List.Perm ((q.set x b).set y a) q := by
  obtain ⟨h1, rfl⟩ := List.getElem?_eq_some_iff.1 hx
  obtain ⟨h2, rfl⟩ := List.getElem?_eq_some_iff.1 hy
  exact List.set_set_perm h1 h2
/-- Keys apart, one more. -/
theorem nodup_snoc {q : List Pt} {y : Pt} (h : (q.map (·.key)).Nodup) (hy : q.all (fun z => z.key != y.key) = true) : ((q ++ [y]).map (·.key)).Nodup := by
  rw [List.map_append, List.nodup_append]
  refine ⟨h, by simp, fun a ha b hb => ?_⟩
  obtain ⟨z, hz, rfl⟩ := List.mem_map.1 ha
  simp at hb
  subst hb
  have := List.all_eq_true.1 hy z hz
  simpa using this
theorem all_snoc {q : List Pt} {k : Nat} {z : Pt} (f : Pt → Bool) (h : q[k]? = some z) : (q.take (k + 1)).all f = ((q.take k).all f && f z) := by
  rw [List.take_add_one, h, List.all_append]; simp
end Go.Proofs.Ytemfnjlfcemehaa
