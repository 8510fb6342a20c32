/- The law GpeMatchesModel: what it begins with. -/
import Derived.Test.YtolbecinjajejaaDoorG15
import Derived.Test.YtolbecinjajejaaDoorG9a
namespace Go.Proofs.YtolbecinjajejaaDoor
open Go.RowKit Go.My
set_option linter.unusedVariables false
set_option linter.unusedSimpArgs false

theorem bools_of_trod {H : Type} {enc : TypeId × Value → H} {w : World} {base : Nat} {v : Value} (hw : Value.okWide Tryd.prog w .any base 27 v) {d : DataW H} {p : List MemPlace}
    (h : DataW.Trod enc Tryd.prog w 0 (fun _ => true) true 27 v d p) : ∃ xs : List Bool, Row1 Value.bool (fun _ => True) w v xs := by
  have h1 : ∃ xs : List Bool, RowR (fun x cs => cs = [Value.bool x]) 1 (fun _ => True) w v xs := by
    refine rowR_of_trod _ Tryd.underlying27 (by kernel_rfl) (by omega) ?_ hw h
    intro n cs y hl hy
    obtain ⟨c, q2, _⟩ := DataW.trod_bool Tryd.underlying4 hy
    exact ⟨c, q2⟩
  obtain ⟨xs, A, cap, hv, hl, hm, h⟩ := h1
  refine ⟨xs, A, cap, hv, hl, ?_⟩
  rcases h with h | ⟨b, off, hA, hO, hb, hc⟩
  · exact .inl h
  · refine .inr ⟨b, off, hA, hO, hb, fun i hi => ?_⟩
    obtain ⟨cs, q1, q2, q3⟩ := hc i hi
    have := q3 0 (by omega)
    rw [q2] at this
    simpa using this

theorem evs_get : ∀ (xs : List Bool) (i f : Nat), i < xs.length → f < 6 → (evs xs)[i * 6 + f]? = some (.bool (if f = 0 then at1 false xs i else false))
  | [], i, f, h, _ => by simp at h
  | x :: xs, 0, f, h, hf => by
    have e : evs (x :: xs) = evC x ++ evs xs := rfl
    rw [e, List.getElem?_append_left (by simp [evC]; omega)]
    rcases (by omega : f = 0 ∨ f = 1 ∨ f = 2 ∨ f = 3 ∨ f = 4 ∨ f = 5) with rfl | rfl | rfl | rfl | rfl | rfl <;> simp [evC, at1]
  | x :: xs, i + 1, f, h, hf => by
    have e : evs (x :: xs) = evC x ++ evs xs := rfl
    have el : (evC x).length = 6 := rfl
    rw [e, List.getElem?_append_right (by rw [el]; omega), el, show (i + 1) * 6 + f - 6 = i * 6 + f by omega, evs_get xs i f (by simpa using h) hf]
    simp [at1]

theorem isR_new {w : World} {r q cap : Nat} {xs : List Bool} {lv : BitVec 64} {cur : Array Value} (h1 : Blk w r #[.slice (some ⟨q, 0, none⟩) xs.length cap] 79) (h2 : xs.length ≤ cap) (h3 : Blk w q cur 81)
    (h4 : cur.toList.take (xs.length * 6) = evs xs) (hl : Lv xs xs.length lv) (hm : xs.length ≤ 64) : IsR w r q cap ⟨xs.length, lv, 0, 0, 0, 0, 0⟩ := by
  refine ⟨h1, h2, cur, h3, fun i hi f hf => ?_⟩
  have hi' : i < xs.length := hi
  have hlt : i * 6 + f < xs.length * 6 := by omega
  rw [← Array.getElem?_toList]
  have e : (cur.toList.take (xs.length * 6))[i * 6 + f]? = cur.toList[i * 6 + f]? := by rw [List.getElem?_take, if_pos hlt]
  rw [← e, h4, evs_get xs i f hi' hf]
  congr 2
  rcases (by omega : f = 0 ∨ f = 1 ∨ f = 2 ∨ f = 3 ∨ f = 4 ∨ f = 5) with rfl | rfl | rfl | rfl | rfl | rfl
  · show _ = bg lv i
    rw [hl i (by omega), if_pos hi']; rfl
  all_goals exact (bg_zero i).symm
theorem Bo.keepN {w w1 : World} {g r q cap : Nat} {b : G} (h : Bo w g r q cap b) (k : Keep Non w w1) : Bo w1 g r q cap b := ⟨Blk.keep h.hg k (fun h => h), h.hr.keep k (fun h => h) (fun h => h), h.n64, h.hi, h.g0, h.q0⟩
theorem apply_n (n g r q cap : Nat) (b : G) (kind ev : Int) (on : Bool) (w : World) (h : Bo w g r q cap b) (ht : Tab w) (hn : b.n = n) :
    Calls Tryd.prog 19 #[.pointer (some ⟨g, 0, none⟩), .pointer (some ⟨r, 0, none⟩), .agg #[.int .i64 kind, .int .i64 ev, .bool on], .int .i64 n] w fun e w' => e = .returned (.bool true) ∧ Keep (Two g q) w w' ∧ ∃ b', b'.n = n ∧ Bo w' g r q cap b' := by
  subst hn; exact apply_any g r q cap b kind ev on w h ht
theorem hi_new (n : Nat) (lv : BitVec 64) : Hi ⟨n, lv, 0, 0, 0, 0, 0⟩ := fun i _ _ => bg_zero i
end Go.Proofs.YtolbecinjajejaaDoor
