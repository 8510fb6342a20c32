/- Windows: the ranges that a device decodes. Printed by genD13.py. -/
import Derived.Test.YtolbecinjajejaaD12
import Derived.Test.YtolbecinjajejaaL5
import Derived.Deep.DeepCutAuto
import Derived.Deep.CutBlock
set_option linter.unusedVariables false
set_option linter.unusedSimpArgs false
namespace Go.Proofs.Ytolbecinjajejaa
open Go.RowKit Go.My

theorem info68 : (Try.prog.info? 68).map (fun i => (i.zero, i.size, i.bytes)) = some (some (.agg #[.int .i64 0, .int .i64 0, .int .u64 0, .int .u64 0, .bool false]), 5, 40) := by kernel_rfl

/-- The window of register j. -/
def winB (d : Dv) (j : Nat) (k : Int) (s : Nat) : Wn := ⟨j, clsB k, un (adrB d j k s), IntKind.u64.wrap (2 ^ s), onB d (clsB k)⟩
def winA (d : Dv) (bs : List Br) (j : Nat) : Wn := winB d j (at1 ⟨0, 0⟩ bs j).k (at1 ⟨0, 0⟩ bs j).s.toNat
/-- The windows of the first k registers are there, and no others with a number from 0 on. -/
def Good (d : Dv) (bs : List Br) (k : Nat) (ws : List Wn) : Prop :=
  (∀ x ∈ ws, 0 ≤ x.idx → ∃ j, j < k ∧ (at1 ⟨0, 0⟩ bs j).k ≠ 0 ∧ x = winA d bs j) ∧ (∀ j, j < k → (at1 ⟨0, 0⟩ bs j).k ≠ 0 → winA d bs j ∈ ws)
theorem Good.skip {d : Dv} {bs : List Br} {k : Nat} {ws : List Wn} (h : Good d bs k ws) (hk : (at1 ⟨0, 0⟩ bs k).k = 0) : Good d bs (k + 1) ws := by
  refine ⟨fun x hx h0 => ?_, fun j hj hn => ?_⟩
  · obtain ⟨j, h1, h2⟩ := h.1 x hx h0
    exact ⟨j, by omega, h2⟩
  · by_cases e : j = k
    · subst e; exact absurd hk hn
    · exact h.2 j (by omega) hn
theorem Good.add {d : Dv} {bs : List Br} {k : Nat} {ws : List Wn} (h : Good d bs k ws) (hk : (at1 ⟨0, 0⟩ bs k).k ≠ 0) : Good d bs (k + 1) (ws ++ [winA d bs k]) := by
  refine ⟨fun x hx h0 => ?_, fun j hj hn => ?_⟩
  · rcases List.mem_append.1 hx with hx | hx
    · obtain ⟨j, h1, h2⟩ := h.1 x hx h0
      exact ⟨j, by omega, h2⟩
    · simp only [List.mem_cons, List.not_mem_nil, or_false] at hx
      exact ⟨k, by omega, hk, hx⟩
  · by_cases e : j = k
    · subst e; simp
    · exact List.mem_append_left _ (h.2 j (by omega) hn)
theorem Good.neg {d : Dv} {bs : List Br} {k : Nat} {ws : List Wn} (h : Good d bs k ws) {x : Wn} (hx : x.idx < 0) : Good d bs k (ws ++ [x]) := by
  refine ⟨fun y hy h0 => ?_, fun j hj hn => List.mem_append_left _ (h.2 j hj hn)⟩
  rcases List.mem_append.1 hy with hy | hy
  · exact h.1 y hy h0
  · simp only [List.mem_cons, List.not_mem_nil, or_false] at hy
    subst hy
    omega

theorem reads_newW (w : World) (a b c d : Int) (e : Bool) : Reads (w.alloc (.cells #[.int .i64 a, .int .i64 b, .int .u64 c, .int .u64 d, .bool e] 68)) (w.heap.size + 1) 5 (some ⟨w.heap.size, 0, none⟩) 1 (encW ⟨a, b, c, d, e⟩) := by
  refine ⟨rfl, fun _ => ⟨_, rfl, Nat.lt_succ_self _, fun j u hu => ?_⟩⟩
  have hj : j < 5 := (List.getElem?_eq_some_iff.1 hu).1
  rw [add_plain, Nat.zero_add, (Blk.new w #[.int .i64 a, .int .i64 b, .int .u64 c, .int .u64 d, .bool e] 68).cell, ← hu]
  rcases (by omega : j = 0 ∨ j = 1 ∨ j = 2 ∨ j = 3 ∨ j = 4) with rfl | rfl | rfl | rfl | rfl <;> rfl

theorem own_keepW {w w1 : World} {base e sz : Nat} {v : Value} {n : Nat} {xs : List Value} (h : w.ownsRow base e sz v n xs) (k : Keep Non w w1) : w1.ownsRow base e sz v n xs := by
  refine ⟨h.1, h.2.imp id ?_⟩
  rintro ⟨g, cap, cur, h1, h2, h3, h4⟩
  exact ⟨g, cap, cur, h1, h2, k.blk h3 (fun h => h), h4⟩
theorem vBar_range' {k s : Int} (hv : vBar k s = true) : 0 ≤ s ∧ s ≤ 40 ∧ (k = 0 ∨ k = 1 ∨ k = 2 ∨ k = 3 ∨ k = 4) := by
  unfold vBar at hv
  split at hv
  · simp at hv; omega
  split at hv
  · simp at hv; omega
  split at hv
  · simp at hv; omega
  split at hv
  · simp at hv; omega
  · cases hv
/-- The state of Windows. -/
structure WSt (w : World) (g : Nat) (d : Dv) (bs : List Br) (B : Nat) (v : Value) (ws : List Wn) (wr : World) : Prop where
  k : Keep Non w wr
  hd : IsD 76 wr g d
  r : RowE encB 2 (fun q => q < B) wr d.sv bs
  own : wr.ownsRow B 68 5 v ws.length (ws.flatMap encW)
  gb : g < B
  bw : B = w.heap.size
section
variable {w : World} {g : Nat} {d : Dv} {bs : List Br} {B : Nat} {v : Value} {ws : List Wn} {wr w1 : World}
theorem WSt.keep (h : WSt w g d bs B v ws wr) (k : Keep Non wr w1) : WSt w g d bs B v ws w1 :=
  ⟨h.k.tr k, h.hd.keep k (fun h => h), h.r.keepN k, own_keepW h.own k, h.gb, h.bw⟩
theorem WSt.drew (h : WSt w g d bs B v ws wr) : WSt w g d bs B v ws wr.drew := h.keep (Keep.drew (Keep.refl _ _))
theorem WSt.alloc (h : WSt w g d bs B v ws wr) (o : Obj) : WSt w g d bs B v ws (wr.alloc o) := h.keep ((Keep.refl _ _).alloc o)
theorem WSt.bsz (h : WSt w g d bs B v ws wr) : B ≤ wr.heap.size := by rw [h.bw]; exact h.k.size
theorem WSt.app (h : WSt w g d bs B v ws wr) {v' : Value} {x : Wn} (hown : w1.ownsRow B 68 5 v' (ws.length + 1) (ws.flatMap encW ++ encW x)) (hg : wr.grownBy w1 v.ownBlock) :
    ∃ A' c', v' = .slice A' (ws.length + 1) c' ∧ WSt w g d bs B v' (ws ++ [x]) w1 := by
  have K1 : Keep (fun k => B ≤ k) wr w1 := Keep.grown (Keep.refl _ _) hg (fun k hk _ => (h.own.lt k hk).1)
  have hv : ∃ A' c', v' = .slice A' (ws.length + 1) c' := by
    rcases hown.2 with ⟨h1, h2⟩ | ⟨g1, cp, _, h1, _⟩
    · omega
    · exact ⟨_, _, h1⟩
  obtain ⟨A', c', rfl⟩ := hv
  refine ⟨A', c', rfl, ?_, h.hd.keep K1 (by have := h.gb; omega), RowE.keep h.r K1 (fun q hq _ hb => by omega), ?_, h.gb, h.bw⟩
  · exact Keep.trans h.k K1 (fun q hq hb => by have := h.bw; omega)
  · have h1 : (ws ++ [x]).length = ws.length + 1 := by simp
    have h2 : (ws ++ [x]).flatMap encW = ws.flatMap encW ++ encW x := by simp [List.flatMap_append]
    rw [h1, h2]
    exact hown
theorem WSt.appB (h : WSt w g d bs B v ws wr) {p : Nat} {cs : Array Value} (hb : Blk wr p cs 61) (hg : wr.grownBy w1 v.ownBlock) : Blk w1 p cs 61 := by
  refine (hg.block p hb.lt (fun e => ?_)).trans hb
  rcases h.own.2 with ⟨rfl, _⟩ | ⟨g1, cp, cur, rfl, _, hh, _⟩
  · cases e
  · have : p = g1 := by simpa [Value.ownBlock] using e
    subst this
    have hb' : wr.heap[p]? = some (.cells cs 61 (0, 0)) := hb
    rw [hb'] at hh
    injection hh with hh
    injection hh with _ ht
    cases ht
end

set_option maxHeartbeats 16000000 in
set_option maxRecDepth 100000 in
theorem windows_any (g : Nat) (d : Dv) (bs : List Br) (w : World) (h : IsD 76 w g d) (hr : RowE encB 2 (fun _ => True) w d.sv bs) (h6 : bs.length ≤ 6) (hvb : ∀ k, k < bs.length → vBar (at1 ⟨0, 0⟩ bs k).k (at1 ⟨0, 0⟩ bs k).s = true) :
    Calls Try.prog 28 #[.pointer (some ⟨g, 0, none⟩)] w fun e w' => ∃ (v : Value) (ws : List Wn), e = .returned v ∧ Keep Non w w' ∧ RowE encW 5 (fun _ => True) w' v ws ∧ ws.length ≤ 9 ∧ Good d bs bs.length ws := by
  obtain ⟨i0, hi0, hz0, hz1, hz2⟩ := info_parts info68
  have HVB := Lib.hid hvb
  obtain ⟨A, n, c, hsv⟩ : ∃ A n c, d.sv = .slice A n c := by obtain ⟨A, c, h, _⟩ := hr; exact ⟨A, _, c, h⟩
  obtain ⟨B, hB⟩ : ∃ B, B = w.heap.size := ⟨_, rfl⟩
  have HS0 : Hid (WSt w g d bs B (.slice none 0 0) [] w) := ⟨Keep.refl _ _, h, hr.mono (fun q hq _ => by omega), ⟨rfl, .inl ⟨rfl, rfl⟩⟩, by have := h.lt; omega, hB⟩
  have hn : n = bs.length := (RowE.reads encB_len (by omega) (by rw [hsv] at hr; exact hr)).1
  subst hn
  have c10 : w.cell? ⟨g, 10, none⟩ = some (.slice A bs.length c) := (h.cf (i := 10) (by omega)).trans (by rw [hsv]; rfl)
  have HSV := Lib.hid hsv
  have HBW := Lib.hid hB
  clear h hr hvb hsv hB
  go_enter Try.func28, Try.ntmps28
  go_wp2_with fail
  clear c10
  go_loopw [3, 16] (fun l i wr => ∃ (k : Nat) (A1 : Option Addr) (n1 c1 : Nat) (ws : List Wn), l = .slice A1 n1 c1 ∧ i = .int .i64 k ∧ k ≤ bs.length ∧ ws.length ≤ k ∧ Hid (n1 = ws.length) ∧ Hid (WSt w g d bs B (.slice A1 n1 c1) ws wr) ∧ Hid (Good d bs k ws)) (fun _ i _ => bs.length - (intOf i).toNat)
  case atStart => exact ⟨0, none, 0, 0, [], rfl, rfl, Nat.zero_le _, by simp, rfl, HS0.out, ⟨fun x hx => (by cases hx), fun j hj => (by omega)⟩⟩
  case round =>
    clear HS0
    obtain ⟨k, A1, n1, c1, ws, rfl, rfl, hk, hw, HN, HS, HG⟩ := hrel
    by_cases hlt : k < bs.length
    · obtain ⟨bb, off, rfl, hO, q0, q1⟩ := bars_get (by have h := HS.out.r; rw [HSV.out] at h; exact h) hlt
      have hvr := vBar_range' (HVB.out k hlt)
      have HAD : Hid ((at1 ⟨0, 0⟩ bs k).k ≠ 0 → Good d bs (k + 1) (ws ++ [winA d bs k])) := fun h => HG.out.add h
      have HSK : Hid ((at1 ⟨0, 0⟩ bs k).k = 0 → Good d bs (k + 1) ws) := fun h => HG.out.skip h
      unfold winA at HAD
      generalize at1 (⟨0, 0⟩ : Br) bs k = x at *
      obtain ⟨xk, xs⟩ := x
      simp only at q0 q1 hvr HAD HSK
      obtain ⟨s0, hs40, hkk⟩ := hvr
      obtain ⟨s', rfl⟩ : ∃ s' : Nat, xs = s' := ⟨xs.toNat, by omega⟩
      rw [Int.toNat_natCast] at HAD
      have hs40' : s' ≤ 40 := by omega
      go_upto_block 1 with fail
      go_cut [3] (fun s wx => ∃ (A2 : Option Addr) (c2 : Nat) (ws2 : List Wn), s = .slice A2 ws2.length c2 ∧ ws2.length ≤ k + 1 ∧ Hid (WSt w g d bs B (.slice A2 ws2.length c2) ws2 wx) ∧ Hid (Good d bs (k + 1) ws2))
      case first =>
        obtain rfl : n1 = ws.length := HN.out
        by_cases hk0 : xk = 0
        · subst hk0
          have HG1 := Lib.hid (HSK.out rfl)
          have HS1 := Lib.hid (HS.out.alloc (.cells #[.int .i64 0, .int .i64 s'] 61))
          go_wp2_with fail
          go_meet
          exact ⟨A1, c1, ws, rfl, by omega, HS1.out, HG1.out⟩
        · have HG1 := Lib.hid (HAD.out hk0)
          have hk0' : (xk != 0) = true := by simpa using hk0
          replace HS := Lib.hid (HS.out.alloc (.cells #[.int .i64 xk, .int .i64 s'] 61))
          have HBb := Lib.hid (Blk.new wr #[.int .i64 xk, .int .i64 s'] 61)
          go_wp2_with fail
          refine (class_any xk s' _).mono ?_
          rintro e z ⟨rfl, hkz⟩
          replace HS := Lib.hid (HS.out.keep hkz)
          replace HBb := Lib.hid (HBb.out.keep hkz (fun h => h))
          clear hkz q0 q1
          generalize wr.heap.size = p at *
          go_wp2_with fail
          have hk6 : k < 6 := by omega
          have hm1 : ws.length + 1 ≤ 2 ^ 63 - 1 := by omega
          have hm2 : (ws.length + 1) * 40 ≤ 140737488355328 := by omega
          have b0 : z.cell? ⟨p, 0, none⟩ = some (.int .i64 xk) := blk_c HBb.out 0 _ rfl
          have b1 : z.cell? ⟨p, 1, none⟩ = some (.int .i64 s') := blk_c HBb.out 1 _ rfl
          have hs0 : (0 : Int) ≤ (s' : Int) := by omega
          have HO := Lib.hid hk0
          clear hk0 hk0'
          refine wp_region_held_drew (S := (fun w' : World => w'.cell? ⟨p, 0, none⟩ = some (.int .i64 xk) ∧ w'.cell? ⟨p, 1, none⟩ = some (.int .i64 s'))) (by kernel_rfl) ?_ (fun hHeld => ?_)
          · ((try dsimp only); first | exact ⟨b0, b1⟩ | exact ⟨HBb.out.cell 0, HBb.out.cell 1⟩ | (refine ⟨?_, ?_⟩ <;> go_keep))
          refine take_first (i := 0) (oi := { dst := some 26, op := Go.Op.move (Go.Operand.tmp 3), type := 63, pos := "pciconf.go:277", after := #[], guard := none }) (v := ?_) rfl (by kernel_rfl) (by kernel_rfl) (by kernel_rfl) (fun _ _ _ h => h) ⟨by rfl, fun w hSw => .inl ?_⟩ (by assumption) ?_
          rotate_left
          · ((try dsimp only at hSw); go_simp; (try with_reducible rfl))
          try simp only [Act.put, List.setIfInBounds_toArray, List.set_cons_zero, List.set_cons_succ]
          refine take_first (i := 1) (oi := { dst := some 27, op := Go.Op.move (Go.Operand.tmp 4), type := 3, pos := "pciconf.go:277", after := #[], guard := none }) (v := ?_) rfl (by kernel_rfl) (by kernel_rfl) (by kernel_rfl) (fun _ _ _ h => h) ⟨by rfl, fun w hSw => .inl ?_⟩ (by assumption) ?_
          rotate_left
          · ((try dsimp only at hSw); go_simp; (try with_reducible rfl))
          try simp only [Act.put, List.setIfInBounds_toArray, List.set_cons_zero, List.set_cons_succ]
          refine take_first (i := 2) (oi := { dst := some 28, op := Go.Op.move (Go.Operand.tmp 6), type := 3, pos := "pciconf.go:277", after := #[], guard := none }) (v := ?_) rfl (by kernel_rfl) (by kernel_rfl) (by kernel_rfl) (fun _ _ _ h => h) ⟨by rfl, fun w hSw => .inl ?_⟩ (by assumption) ?_
          rotate_left
          · ((try dsimp only at hSw); go_simp; (try with_reducible rfl))
          try simp only [Act.put, List.setIfInBounds_toArray, List.set_cons_zero, List.set_cons_succ]
          refine take_first (i := 3) (oi := { dst := some 29, op := Go.Op.move (Go.Operand.tmp 0), type := 45, pos := "pciconf.go:277", after := #[], guard := none }) (v := ?_) rfl (by kernel_rfl) (by kernel_rfl) (by kernel_rfl) (fun _ _ _ h => h) ⟨by rfl, fun w hSw => .inl ?_⟩ (by assumption) ?_
          rotate_left
          · ((try dsimp only at hSw); go_simp; (try with_reducible rfl))
          try simp only [Act.put, List.setIfInBounds_toArray, List.set_cons_zero, List.set_cons_succ]
          refine take_first (i := 4) (oi := { dst := some 30, op := Go.Op.move (Go.Operand.tmp 4), type := 3, pos := "pciconf.go:277", after := #[], guard := none }) (v := ?_) rfl (by kernel_rfl) (by kernel_rfl) (by kernel_rfl) (fun _ _ _ h => h) ⟨by rfl, fun w hSw => .inl ?_⟩ (by assumption) ?_
          rotate_left
          · ((try dsimp only at hSw); go_simp; (try with_reducible rfl))
          try simp only [Act.put, List.setIfInBounds_toArray, List.set_cons_zero, List.set_cons_succ]
          refine take_first (i := 5) (oi := { dst := some 31, op := Go.Op.load 61 (Go.Operand.tmp 5), type := 61, pos := "pciconf.go:277", after := #[], guard := none }) (v := ?_) rfl (by kernel_rfl) (by kernel_rfl) (by kernel_rfl) (fun _ _ _ h => h) ⟨by rfl, fun w hSw => .inl ?_⟩ (by assumption) ?_
          rotate_left
          · ((try dsimp only at hSw); go_simp; (try with_reducible rfl))
          try simp only [Act.put, List.setIfInBounds_toArray, List.set_cons_zero, List.set_cons_succ]
          refine take_first (i := 7) (oi := { dst := some 33, op := Go.Op.fieldAddr 61 (Go.Operand.tmp 5) 1, type := 0, pos := "pciconf.go:277", after := #[], guard := none }) (v := ?_) rfl (by kernel_rfl) (by kernel_rfl) (by kernel_rfl) (fun _ _ _ h => h) ⟨by rfl, fun w hSw => .inl ?_⟩ (by assumption) ?_
          rotate_left
          · ((try dsimp only at hSw); go_simp; (try with_reducible rfl))
          try simp only [Act.put, List.setIfInBounds_toArray, List.set_cons_zero, List.set_cons_succ]
          refine take_first (i := 8) (oi := { dst := some 34, op := Go.Op.load 3 (Go.Operand.tmp 33), type := 3, pos := "pciconf.go:277", after := #[{ on := 7, ground := Go.Ground.data }], guard := none }) (v := ?_) rfl (by kernel_rfl) (by kernel_rfl) (by kernel_rfl) (fun _ _ _ h => h) ⟨by rfl, fun w hSw => .inl ?_⟩ (by assumption) ?_
          rotate_left
          · ((try dsimp only at hSw); go_simp; (try with_reducible rfl))
          try simp only [Act.put, List.setIfInBounds_toArray, List.set_cons_zero, List.set_cons_succ]
          refine take_first (i := 9) (oi := { dst := some 35, op := Go.Op.binOp Go.BinOp.shl 22 (Go.Operand.const (Go.Value.int Go.IntKind.u64 1)) (Go.Operand.tmp 34) 3, type := 22, pos := "pciconf.go:277", after := #[{ on := 8, ground := Go.Ground.data }], guard := none }) (v := ?_) rfl (by kernel_rfl) (by kernel_rfl) (by kernel_rfl) (fun _ _ _ h => h) ⟨by rfl, fun w hSw => .inl ?_⟩ (by assumption) ?_
          rotate_left
          · ((try dsimp only at hSw); go_simp; (try with_reducible rfl))
          try simp only [Act.put, List.setIfInBounds_toArray, List.set_cons_zero, List.set_cons_succ]
          refine take_first (i := 11) (oi := { dst := some 37, op := Go.Op.move (Go.Operand.tmp 0), type := 45, pos := "pciconf.go:277", after := #[], guard := none }) (v := ?_) rfl (by kernel_rfl) (by kernel_rfl) (by kernel_rfl) (fun _ _ _ h => h) ⟨by rfl, fun w hSw => .inl ?_⟩ (by assumption) ?_
          rotate_left
          · ((try dsimp only at hSw); go_simp; (try with_reducible rfl))
          try simp only [Act.put, List.setIfInBounds_toArray, List.set_cons_zero, List.set_cons_succ]
          refine take_first (i := 12) (oi := { dst := some 38, op := Go.Op.move (Go.Operand.tmp 6), type := 3, pos := "pciconf.go:277", after := #[], guard := none }) (v := ?_) rfl (by kernel_rfl) (by kernel_rfl) (by kernel_rfl) (fun _ _ _ h => h) ⟨by rfl, fun w hSw => .inl ?_⟩ (by assumption) ?_
          rotate_left
          · ((try dsimp only at hSw); go_simp; (try with_reducible rfl))
          try simp only [Act.put, List.setIfInBounds_toArray, List.set_cons_zero, List.set_cons_succ]
          refine wpAnyH_ready (rs := [6]) (by kernel_rfl) (by simp) (AllReadyH.cons (o := { dst := some 32, op := Go.Op.call { callee := Go.Callee.value (Go.Operand.func 42), args := #[Go.Operand.tmp 29, Go.Operand.tmp 30, Go.Operand.tmp 31], argTypes := #[45, 3, 61] }, type := 22, pos := "pciconf.go:277", after := #[{ on := 3, ground := Go.Ground.data }, { on := 4, ground := Go.Ground.data }, { on := 5, ground := Go.Ground.data }], guard := none }) rfl (fun K hK => ?_) AllReadyH.nil)
          ((try go_simp); go_at_call 42; refine (address_any g k xk s' d _ (by first | exact HS.out.hd | exact HS.out.drew.hd) hk6 hs40').mono ?_; rintro e z1 ⟨rfl, hk0⟩; replace HS : Hid (WSt w g d bs B (.slice A1 ws.length c1) ws z1) := (by first | exact HS.out.keep hk0 | exact HS.out.drew.keep hk0); replace HBb : Hid (Blk z1 p #[.int .i64 xk, .int .i64 s'] 61) := (by first | exact HBb.out.keep hk0 (fun h => h) | exact HBb.out.drew.keep hk0 (fun h => h)); clear hk0)
          refine hK.out _ _ ?_ (fun hHeld => ?_)
          · ((try dsimp only); first | exact ⟨b0, b1⟩ | exact ⟨HBb.out.cell 0, HBb.out.cell 1⟩ | (refine ⟨?_, ?_⟩ <;> go_keep))
          clear hK K
          try simp only [Act.put, List.setIfInBounds_toArray, List.set_cons_zero, List.set_cons_succ]
          refine take_first (i := 10) (oi := { dst := some 36, op := Go.Op.build 66 #[(0, Go.Operand.tmp 32), (1, Go.Operand.tmp 35)], type := 66, pos := "pciconf.go:277", after := #[{ on := 6, ground := Go.Ground.data }, { on := 9, ground := Go.Ground.data }], guard := none }) (v := ?_) rfl (by kernel_rfl) (by kernel_rfl) (by kernel_rfl) (fun _ _ _ h => h) ⟨by rfl, fun w hSw => .inl ?_⟩ (by assumption) ?_
          rotate_left
          · ((try dsimp only at hSw); go_simp; (try with_reducible rfl))
          try simp only [Act.put, List.setIfInBounds_toArray, List.set_cons_zero, List.set_cons_succ]
          refine wpAnyH_ready (rs := [13]) (by kernel_rfl) (by simp) (AllReadyH.cons (o := { dst := some 39, op := Go.Op.call { callee := Go.Callee.value (Go.Operand.func 43), args := #[Go.Operand.tmp 37, Go.Operand.tmp 38], argTypes := #[45, 3] }, type := 4, pos := "pciconf.go:277", after := #[{ on := 11, ground := Go.Ground.data }, { on := 12, ground := Go.Ground.data }, { on := 6, ground := Go.Ground.chain }], guard := none }) rfl (fun K hK => ?_) AllReadyH.nil)
          ((try go_simp); go_at_call 43; refine (enabled_any g (clsB xk) d _ HS.out.hd).mono ?_; rintro e z2 ⟨rfl, rfl⟩)
          refine hK.out _ _ ?_ (fun hHeld => ?_)
          · ((try dsimp only); first | exact ⟨b0, b1⟩ | exact ⟨HBb.out.cell 0, HBb.out.cell 1⟩ | (refine ⟨?_, ?_⟩ <;> go_keep))
          clear hK K
          try simp only [Act.put, List.setIfInBounds_toArray, List.set_cons_zero, List.set_cons_succ]
          refine take_first (i := 14) (oi := { dst := some 40, op := Go.Op.build 68 #[(0, Go.Operand.tmp 27), (1, Go.Operand.tmp 28), (2, Go.Operand.tmp 36), (3, Go.Operand.tmp 39)], type := 68, pos := "pciconf.go:277", after := #[{ on := 1, ground := Go.Ground.data }, { on := 2, ground := Go.Ground.data }, { on := 10, ground := Go.Ground.data }, { on := 13, ground := Go.Ground.data }], guard := none }) (v := ?_) rfl (by kernel_rfl) (by kernel_rfl) (by kernel_rfl) (fun _ _ _ h => h) ⟨by rfl, fun w hSw => .inl ?_⟩ (by assumption) ?_
          rotate_left
          · ((try dsimp only at hSw); go_simp; (try with_reducible rfl))
          try simp only [Act.put, List.setIfInBounds_toArray, List.set_cons_zero, List.set_cons_succ]
          refine wpAnyH_ready (rs := [15]) (by kernel_rfl) (by simp) (AllReadyH.cons (o := { dst := some 41, op := Go.Op.buildSlice 63 1 #[(0, Go.Operand.tmp 40)], type := 63, pos := "pciconf.go:277", after := #[{ on := 14, ground := Go.Ground.data }], guard := none }) rfl (fun K hK => ?_) AllReadyH.nil)
          (go_simp; have HSa := Lib.hid (HS.out.alloc (.cells #[.int .i64 k, .int .i64 (clsB xk), .int .u64 (un (adrB d k xk s')), .int .u64 (IntKind.u64.wrap (2 ^ s')), .bool (onB d (clsB xk))] 68)); replace HBb := Lib.hid (HBb.out.alloc (.cells #[.int .i64 k, .int .i64 (clsB xk), .int .u64 (un (adrB d k xk s')), .int .u64 (IntKind.u64.wrap (2 ^ s')), .bool (onB d (clsB xk))] 68)))
          refine hK.out _ _ ?_ (fun hHeld => ?_)
          · ((try dsimp only); first | exact ⟨b0, b1⟩ | exact ⟨HBb.out.cell 0, HBb.out.cell 1⟩ | (refine ⟨?_, ?_⟩ <;> go_keep))
          clear hK K
          try simp only [Act.put, List.setIfInBounds_toArray, List.set_cons_zero, List.set_cons_succ]
          refine wpAnyH_ready (rs := [16]) (by kernel_rfl) (by simp) (AllReadyH.cons (o := { dst := some 42, op := Go.Op.call { callee := Go.Callee.builtin Go.Builtin.append, args := #[Go.Operand.tmp 26, Go.Operand.tmp 41], argTypes := #[63, 63] }, type := 63, pos := "pciconf.go:277", after := #[{ on := 0, ground := Go.Ground.data }, { on := 15, ground := Go.Ground.data }, { on := 13, ground := Go.Ground.chain }], guard := none }) rfl (fun K hK => ?_) AllReadyH.nil)
          (refine step_append_any _ rfl _ _ 63 rfl B 68 i0 (.agg #[.int .i64 0, .int .i64 0, .int .u64 0, .int .u64 0, .bool false]) 5 40 Try.underlying63 hi0 hz0 hz1 hz2 rfl (by decide) (.slice A1 ws.length c1) ws.length (ws.flatMap encW) rfl HSa.out.own _ (some ⟨z1.heap.size, 0, none⟩) 1 1 (encW (winB d k xk s')) rfl (reads_newW _ _ _ _ _ _) (encW_one _) (by unfold maxLen; exact hm1) hm2 HSa.out.bsz ?_; intro v1 w4 hown hgr hbl; obtain ⟨A4, c4, rfl, hS4⟩ := HSa.out.app hown hgr; have HS4 := Lib.hid hS4; have HBb4 := Lib.hid (HSa.out.appB HBb.out hgr); clear hown hgr hbl hS4; have HBb := HBb4)
          refine hK.out _ _ ?_ (fun hHeld => ?_)
          · ((try dsimp only); first | exact ⟨b0, b1⟩ | exact ⟨HBb.out.cell 0, HBb.out.cell 1⟩ | (refine ⟨?_, ?_⟩ <;> go_keep))
          clear hK K
          try simp only [Act.put, List.setIfInBounds_toArray, List.set_cons_zero, List.set_cons_succ]
          refine take_first (i := 17) (oi := { dst := some 3, op := Go.Op.assign (Go.Operand.tmp 42), type := 63, pos := "pciconf.go:277", after := #[{ on := 16, ground := Go.Ground.data }, { on := 16, ground := Go.Ground.chain }, { on := 0, ground := Go.Ground.phase }, { on := 1, ground := Go.Ground.phase }, { on := 2, ground := Go.Ground.phase }, { on := 3, ground := Go.Ground.phase }, { on := 4, ground := Go.Ground.phase }, { on := 5, ground := Go.Ground.phase }, { on := 6, ground := Go.Ground.phase }, { on := 7, ground := Go.Ground.phase }, { on := 8, ground := Go.Ground.phase }, { on := 9, ground := Go.Ground.phase }, { on := 10, ground := Go.Ground.phase }, { on := 11, ground := Go.Ground.phase }, { on := 12, ground := Go.Ground.phase }, { on := 13, ground := Go.Ground.phase }, { on := 14, ground := Go.Ground.phase }, { on := 15, ground := Go.Ground.phase }, { on := 16, ground := Go.Ground.phase }], guard := none }) (v := ?_) rfl (by kernel_rfl) (by kernel_rfl) (by kernel_rfl) (fun _ _ _ h => h) ⟨by rfl, fun w hSw => .inl ?_⟩ (by assumption) ?_
          rotate_left
          · ((try dsimp only at hSw); go_simp; (try with_reducible rfl))
          try simp only [Act.put, List.setIfInBounds_toArray, List.set_cons_zero, List.set_cons_succ]
          refine wpAnyH_done (by kernel_rfl) ?_ _
          go_wp2_with fail
          go_meet
          exact ⟨A4, c4, ws ++ [winB d k xk s'], by simp, by simp; omega, by have h := HS4.out; rw [show (ws ++ [winB d k xk s']).length = ws.length + 1 by simp]; exact h, HG1⟩
      case rest =>
        clear HS HG HAD HSK q0 q1
        obtain ⟨A2, c2, ws2, rfl, hw2, HS, HG⟩ := hcut
        go_wp2
        exact ⟨⟨k + 1, _, _, _, ws2, rfl, by go_num, by omega, by omega, rfl, HS.out, HG.out⟩, by simp [intOf]; omega⟩
    · obtain rfl : k = bs.length := by omega
      obtain rfl : n1 = ws.length := HN.out
      clear HN
      have hw6 : ws.length ≤ 6 := by omega
      go_wp2_with fail
      go_loopw [3, 44] (fun l i wr => ∃ (q : Nat) (A1 : Option Addr) (c1 : Nat) (ws : List Wn), l = .slice A1 ws.length c1 ∧ i = .int .i64 q ∧ q ≤ 3 ∧ ws.length ≤ 6 + q ∧ Hid (WSt w g d bs B (.slice A1 ws.length c1) ws wr) ∧ Hid (Good d bs bs.length ws)) (fun _ i _ => 3 - (intOf i).toNat)
      case atStart => exact ⟨0, A1, c1, ws, rfl, rfl, by omega, by omega, HS.out, HG.out⟩
      case round =>
        clear HS HG hw6 hw
        obtain ⟨q, A1, c1, ws, rfl, rfl, hq, hw, HS, HG⟩ := hrel
        have e4 : wr.cell? ⟨g, 4, none⟩ = some (.bool d.f.bridge) := (HS.out.hd.cf (i := 4) (by omega)).trans rfl
        have e5 : wr.cell? ⟨g, 5, none⟩ = some (.bool d.f.pref) := (HS.out.hd.cf (i := 5) (by omega)).trans rfl
        rcases (by omega : q = 0 ∨ q = 1 ∨ q = 2 ∨ q = 3) with rfl | rfl | rfl | rfl
        · cases hb : d.f.bridge
          · rw [hb] at e4
            go_wp2_with fail
            exact ⟨⟨0 + 1, A1, c1, ws, rfl, rfl, by omega, by omega, HS.out, HG.out⟩, by simp [intOf]⟩
          · rw [hb] at e4
            go_wp2_with fail
            refine (bounds_any g 0 d _ HS.out.hd).mono ?_
            rintro e z ⟨x, y, rfl, rfl⟩
            by_cases hxy : x ≤ y
            · go_wp2_with fail
              refine (enabled_any g 0 d _ HS.out.hd).mono ?_
              rintro e z ⟨rfl, rfl⟩
              clear e4 e5
              have HSa := Lib.hid (HS.out.alloc (.cells #[.int .i64 (-1), .int .i64 0, .int .u64 x, .int .u64 (IntKind.u64.wrap (IntKind.u64.wrap (y - x) + 1)), .bool (onB d 0)] 68))
              have HRd := Lib.hid (reads_newW wr (-1) 0 x (IntKind.u64.wrap (IntKind.u64.wrap (y - x) + 1)) (onB d 0))
              go_wp2_with (at_builtin; refine wpList_append_any _ rfl _ _ 63 rfl B 68 i0 (.agg #[.int .i64 0, .int .i64 0, .int .u64 0, .int .u64 0, .bool false]) 5 40 Try.underlying63 hi0 hz0 hz1 hz2 rfl (by decide) (.slice A1 ws.length c1) ws.length (ws.flatMap encW) rfl HSa.out.own _ (some ⟨wr.heap.size, 0, none⟩) 1 1 (encW ⟨(-1), 0, x, (IntKind.u64.wrap (IntKind.u64.wrap (y - x) + 1)), onB d 0⟩) rfl HRd.out (encW_one _) (by unfold maxLen; omega) (by omega) HSa.out.bsz ?_; intro v1 w4 hown hgr hbl; obtain ⟨A4, c4, rfl, hS4⟩ := HSa.out.app hown hgr; have HS4 := Lib.hid hS4; have HG4 := Lib.hid (HG.out.neg (x := (⟨(-1), 0, x, (IntKind.u64.wrap (IntKind.u64.wrap (y - x) + 1)), onB d 0⟩ : Wn)) (by show ((-1) : Int) < 0; decide)); clear hown hgr hbl hS4)
              exact ⟨⟨0 + 1, A4, c4, ws ++ [(⟨(-1), 0, x, (IntKind.u64.wrap (IntKind.u64.wrap (y - x) + 1)), onB d 0⟩ : Wn)], by simp, rfl, by omega, by simp; omega, by have h := HS4.out; rw [show ws.length + 1 = (ws ++ [(⟨(-1), 0, x, (IntKind.u64.wrap (IntKind.u64.wrap (y - x) + 1)), onB d 0⟩ : Wn)]).length by simp] at h; exact h, HG4.out⟩, by simp [intOf]⟩
            · go_wp2_with fail
              exact ⟨⟨0 + 1, A1, c1, ws, rfl, rfl, by omega, by omega, HS.out, HG.out⟩, by simp [intOf]⟩
        · cases hb : d.f.bridge
          · rw [hb] at e4
            go_wp2_with fail
            exact ⟨⟨1 + 1, A1, c1, ws, rfl, rfl, by omega, by omega, HS.out, HG.out⟩, by simp [intOf]⟩
          · rw [hb] at e4
            go_wp2_with fail
            refine (bounds_any g 1 d _ HS.out.hd).mono ?_
            rintro e z ⟨x, y, rfl, rfl⟩
            by_cases hxy : x ≤ y
            · go_wp2_with fail
              refine (enabled_any g 1 d _ HS.out.hd).mono ?_
              rintro e z ⟨rfl, rfl⟩
              clear e4 e5
              have HSa := Lib.hid (HS.out.alloc (.cells #[.int .i64 (-2), .int .i64 1, .int .u64 x, .int .u64 (IntKind.u64.wrap (IntKind.u64.wrap (y - x) + 1)), .bool (onB d 1)] 68))
              have HRd := Lib.hid (reads_newW wr (-2) 1 x (IntKind.u64.wrap (IntKind.u64.wrap (y - x) + 1)) (onB d 1))
              go_wp2_with (at_builtin; refine wpList_append_any _ rfl _ _ 63 rfl B 68 i0 (.agg #[.int .i64 0, .int .i64 0, .int .u64 0, .int .u64 0, .bool false]) 5 40 Try.underlying63 hi0 hz0 hz1 hz2 rfl (by decide) (.slice A1 ws.length c1) ws.length (ws.flatMap encW) rfl HSa.out.own _ (some ⟨wr.heap.size, 0, none⟩) 1 1 (encW ⟨(-2), 1, x, (IntKind.u64.wrap (IntKind.u64.wrap (y - x) + 1)), onB d 1⟩) rfl HRd.out (encW_one _) (by unfold maxLen; omega) (by omega) HSa.out.bsz ?_; intro v1 w4 hown hgr hbl; obtain ⟨A4, c4, rfl, hS4⟩ := HSa.out.app hown hgr; have HS4 := Lib.hid hS4; have HG4 := Lib.hid (HG.out.neg (x := (⟨(-2), 1, x, (IntKind.u64.wrap (IntKind.u64.wrap (y - x) + 1)), onB d 1⟩ : Wn)) (by show ((-2) : Int) < 0; decide)); clear hown hgr hbl hS4)
              exact ⟨⟨1 + 1, A4, c4, ws ++ [(⟨(-2), 1, x, (IntKind.u64.wrap (IntKind.u64.wrap (y - x) + 1)), onB d 1⟩ : Wn)], by simp, rfl, by omega, by simp; omega, by have h := HS4.out; rw [show ws.length + 1 = (ws ++ [(⟨(-2), 1, x, (IntKind.u64.wrap (IntKind.u64.wrap (y - x) + 1)), onB d 1⟩ : Wn)]).length by simp] at h; exact h, HG4.out⟩, by simp [intOf]⟩
            · go_wp2_with fail
              exact ⟨⟨1 + 1, A1, c1, ws, rfl, rfl, by omega, by omega, HS.out, HG.out⟩, by simp [intOf]⟩
        · cases hb : d.f.bridge
          · rw [hb] at e4
            go_wp2_with fail
            exact ⟨⟨2 + 1, A1, c1, ws, rfl, rfl, by omega, by omega, HS.out, HG.out⟩, by simp [intOf]⟩
          · rw [hb] at e4
            cases hp : d.f.pref
            · rw [hp] at e5
              go_wp2_with fail
              exact ⟨⟨2 + 1, A1, c1, ws, rfl, rfl, by omega, by omega, HS.out, HG.out⟩, by simp [intOf]⟩
            · rw [hp] at e5
              go_wp2_with fail
              refine (bounds_any g 2 d _ HS.out.hd).mono ?_
              rintro e z ⟨x, y, rfl, rfl⟩
              by_cases hxy : x ≤ y
              · go_wp2_with fail
                refine (enabled_any g 2 d _ HS.out.hd).mono ?_
                rintro e z ⟨rfl, rfl⟩
                clear e4 e5
                have HSa := Lib.hid (HS.out.alloc (.cells #[.int .i64 (-3), .int .i64 2, .int .u64 x, .int .u64 (IntKind.u64.wrap (IntKind.u64.wrap (y - x) + 1)), .bool (onB d 2)] 68))
                have HRd := Lib.hid (reads_newW wr (-3) 2 x (IntKind.u64.wrap (IntKind.u64.wrap (y - x) + 1)) (onB d 2))
                go_wp2_with (at_builtin; refine wpList_append_any _ rfl _ _ 63 rfl B 68 i0 (.agg #[.int .i64 0, .int .i64 0, .int .u64 0, .int .u64 0, .bool false]) 5 40 Try.underlying63 hi0 hz0 hz1 hz2 rfl (by decide) (.slice A1 ws.length c1) ws.length (ws.flatMap encW) rfl HSa.out.own _ (some ⟨wr.heap.size, 0, none⟩) 1 1 (encW ⟨(-3), 2, x, (IntKind.u64.wrap (IntKind.u64.wrap (y - x) + 1)), onB d 2⟩) rfl HRd.out (encW_one _) (by unfold maxLen; omega) (by omega) HSa.out.bsz ?_; intro v1 w4 hown hgr hbl; obtain ⟨A4, c4, rfl, hS4⟩ := HSa.out.app hown hgr; have HS4 := Lib.hid hS4; have HG4 := Lib.hid (HG.out.neg (x := (⟨(-3), 2, x, (IntKind.u64.wrap (IntKind.u64.wrap (y - x) + 1)), onB d 2⟩ : Wn)) (by show ((-3) : Int) < 0; decide)); clear hown hgr hbl hS4)
                exact ⟨⟨2 + 1, A4, c4, ws ++ [(⟨(-3), 2, x, (IntKind.u64.wrap (IntKind.u64.wrap (y - x) + 1)), onB d 2⟩ : Wn)], by simp, rfl, by omega, by simp; omega, by have h := HS4.out; rw [show ws.length + 1 = (ws ++ [(⟨(-3), 2, x, (IntKind.u64.wrap (IntKind.u64.wrap (y - x) + 1)), onB d 2⟩ : Wn)]).length by simp] at h; exact h, HG4.out⟩, by simp [intOf]⟩
              · go_wp2_with fail
                exact ⟨⟨2 + 1, A1, c1, ws, rfl, rfl, by omega, by omega, HS.out, HG.out⟩, by simp [intOf]⟩
        · go_wp2_with fail
          go_ret
          exact ⟨_, ws, rfl, HS.out.k, (RowE.of_own encW_len (by omega) HS.out.own).mono (fun _ _ _ => trivial), by omega, HG.out⟩
end Go.Proofs.Ytolbecinjajejaa
