/- The law PciconfValidates: the walk. -/
import Derived.Test.YtolbecinjajejaaD7
import Derived.Deep.RegionHeld3
import Derived.Test.YtolbecinjajejaaL5
set_option linter.unusedVariables false
set_option linter.unusedSimpArgs false
namespace Go.Proofs.Ytolbecinjajejaa
open Go.RowKit Go.My

/-- The law's variable: a function in block a, its registers elsewhere. -/
structure VSt (w : World) (a : Nat) (F : Fh) (V : Value) (bs : List Br) (wr : World) : Prop where
  k : Keep Non w wr
  b : Blk wr a (fhL F V) 44
  r : RowE encB 2 (fun q => q ≠ a) wr V bs
  la : w.heap.size ≤ a
section
variable {w : World} {a : Nat} {F : Fh} {V : Value} {bs : List Br} {wr w1 : World}
theorem VSt.keep (h : VSt w a F V bs wr) (k : Keep Non wr w1) : VSt w a F V bs w1 := ⟨h.k.tr k, h.b.keep k (fun h => h), h.r.keepN k, h.la⟩
theorem VSt.drew (h : VSt w a F V bs wr) : VSt w a F V bs wr.drew := h.keep (Keep.drew (Keep.refl _ _))
theorem row_slice {enc : Br → List Value} {O : Nat → Prop} (h : RowE enc 2 O wr V bs) : ∃ A n c, V = .slice A n c := by
  obtain ⟨A, c, h, _⟩ := h; exact ⟨A, _, c, h⟩
theorem VSt.store (h : VSt w a F V bs wr) {F' : Fh} {V' : Value} {bs' : List Br} (k : Keep Non wr w1) (hr : RowE encB 2 (fun q => q ≠ a) w1 V' bs') :
    VSt w a F' V' bs' (((((((((((w1.setCell ⟨a, 0, none⟩ (.int .i64 F'.parent)).setCell ⟨a, 1, none⟩ (.int .i64 F'.slot)).setCell ⟨a, 2, none⟩ (.int .i64 F'.vendor)).setCell ⟨a, 3, none⟩ (.int .i64 F'.device)).setCell ⟨a, 4, none⟩ (.bool F'.bridge)).setCell ⟨a, 5, none⟩ (.bool F'.pref)).setCell ⟨a, 6, none⟩ (.bool F'.hot)).setCell ⟨a, 7, none⟩ (.int .i64 F'.spare)).setCell ⟨a, 8, none⟩ (.int .i64 F'.pin)).setCell ⟨a, 9, none⟩ (.int .i64 F'.vectors)).setCell ⟨a, 10, none⟩ V') :=
  ⟨(h.k.tr k).trans (keep11 _ _ _ _ _ _ _ _ _ _ _ _ _) (fun q hq e => by have := h.la; simp only [My.One] at e; omega),
   blk11 (h.b.keep k (fun h => h)) F' V',
   hr.keep (keep11 _ _ _ _ _ _ _ _ _ _ _ _ _) (fun q hq _ e => hq e), h.la⟩
end

set_option maxHeartbeats 16000000 in
set_option maxRecDepth 100000 in
theorem validatesLaw (f : Fh) (v : Value) (bs : List Br) (w : World) (h : Bars (fun _ => True) w v bs) : Calls Try.prog 5 #[.agg (fhL f v)] w fun e w' => e = .returned (.bool true) ∧ Keep Non w w' := by
  have hr0 : RowE encB 2 (fun q => q ≠ w.heap.size) w v bs := RowE.mono (show RowE encB 2 (fun q => True) w v bs from h) (fun k hk _ => by omega)
  have HS0 : Hid (VSt w w.heap.size f v bs (w.alloc (.cells (fhL f v) 44))) := ⟨(Keep.refl _ _).alloc _, Blk.new _ _ _, hr0.keepN ((Keep.refl _ _).alloc _), Nat.le_refl _⟩
  clear hr0 h
  unfold fhL at *
  go_enter Try.func5, Try.ntmps5
  go_wp2_with fail
  generalize w.heap.size = a at *
  go_loopw [3] (fun i wr => ∃ (k : Nat) (F : Fh) (V : Value) (bs1 : List Br), i = .int .i64 k ∧ k ≤ 2 ∧ Hid (VSt w a F V bs1 wr)) (fun i _ => 2 - (intOf i).toNat)
  case atStart => exact ⟨0, f, v, bs, rfl, by omega, HS0.out⟩
  case round =>
    clear HS0
    obtain ⟨k, F, V, bs1, rfl, hk, HS⟩ := hrel
    obtain ⟨e0, e1, e2, e3, e4, e5, e6, e7, e8, e9, e10⟩ := f_cells HS.out.b
    by_cases hlt : k < 2
    · have main : ∀ (r4 r5 : Value) (ok : Bool), True := fun _ _ _ => trivial
      clear main
      cases hv : vFn F bs1
      · have HV := Lib.hid hv
        clear hv
        go_wp2_with fail
        refine (new_no F V bs1 _ _ HS.out.r HV.out).mono ?_
        rintro e z ⟨rfl, hk0⟩
        replace HS := Lib.hid (HS.out.keep hk0)
        clear hk0 e0 e1 e2 e3 e4 e5 e6 e7 e8 e9 e10
        obtain ⟨e0, e1, e2, e3, e4, e5, e6, e7, e8, e9, e10⟩ := f_cells HS.out.b
        go_upto_region 5 with fail
        go_cut [41] (fun s wx => s = .bool false ∧ Hid (VSt w a F V bs1 wx))
        case first =>
          first
          | (go_region_held3 (fun w' : World => w'.cell? ⟨a, 0, none⟩ = some (.int .i64 F.parent) ∧ w'.cell? ⟨a, 1, none⟩ = some (.int .i64 F.slot) ∧ w'.cell? ⟨a, 2, none⟩ = some (.int .i64 F.vendor) ∧ w'.cell? ⟨a, 3, none⟩ = some (.int .i64 F.device) ∧ w'.cell? ⟨a, 4, none⟩ = some (.bool F.bridge) ∧ w'.cell? ⟨a, 5, none⟩ = some (.bool F.pref) ∧ w'.cell? ⟨a, 6, none⟩ = some (.bool F.hot) ∧ w'.cell? ⟨a, 7, none⟩ = some (.int .i64 F.spare) ∧ w'.cell? ⟨a, 8, none⟩ = some (.int .i64 F.pin) ∧ w'.cell? ⟨a, 9, none⟩ = some (.int .i64 F.vectors) ∧ w'.cell? ⟨a, 10, none⟩ = some V) (first | exact f_cells HS.out.b | exact f_cells HS.out.drew.b) (first | (go_at_call 19; refine (valid_any F V bs1 _ _ (by first | exact HS.out.r | exact HS.out.drew.r)).mono ?_; rw [HV.out]; rintro e z1 ⟨rfl, hk0⟩; replace HS : Hid (VSt w a F V bs1 z1) := (by first | exact HS.out.keep hk0 | exact HS.out.drew.keep hk0); clear hk0) | (go_at_call 20; refine (validFunction_any F V bs1 _ _ (by first | exact HS.out.r | exact HS.out.drew.r)).mono ?_; rw [HV.out]; rintro e z1 ⟨rfl, hk0⟩; replace HS : Hid (VSt w a F V bs1 z1) := (by first | exact HS.out.keep hk0 | exact HS.out.drew.keep hk0); clear hk0)))
          | fail
          all_goals
            go_wp2_with fail
            go_meet
            exact ⟨rfl, HS.out⟩
        case rest =>
          clear HS e0 e1 e2 e3 e4 e5 e6 e7 e8 e9 e10
          obtain ⟨rfl, HS⟩ := hcut
          obtain ⟨e0, e1, e2, e3, e4, e5, e6, e7, e8, e9, e10⟩ := f_cells HS.out.b
          go_wp2_with fail
          refine (some_any F V bs1 _ _ HS.out.r).mono ?_
          rintro e z1 ⟨F', V', bs', he, hk0, hr⟩
          obtain ⟨A', n', c', rfl⟩ := row_slice hr
          unfold fhL at he
          subst he
          have HS1 := Lib.hid (HS.out.store (F' := F') hk0 (hr.mono (fun q _ h => by have := HS.out.b.lt; omega)))
          replace HS := Lib.hid (HS.out.keep hk0)
          clear hk0 hr e0 e1 e2 e3 e4 e5 e6 e7 e8 e9 e10
          obtain ⟨e0, e1, e2, e3, e4, e5, e6, e7, e8, e9, e10⟩ := f_cells HS.out.b
          have hf := fun i => HS.out.b.free i
          go_wp2
          exact ⟨⟨k + 1, _, _, _, by go_num, by omega, HS1.out⟩, by simp [intOf]; omega⟩
      · have HV := Lib.hid hv
        clear hv
        go_wp2_with fail
        refine (new_ok F V bs1 _ _ HS.out.r HV.out).mono ?_
        rintro e z ⟨g, v1, rfl, hg, hk0, hr, hd⟩
        replace HS := Lib.hid (HS.out.keep hk0)
        clear hk0 hr hd e0 e1 e2 e3 e4 e5 e6 e7 e8 e9 e10
        obtain ⟨e0, e1, e2, e3, e4, e5, e6, e7, e8, e9, e10⟩ := f_cells HS.out.b
        go_upto_region 5 with fail
        go_cut [41] (fun s wx => s = .bool false ∧ Hid (VSt w a F V bs1 wx))
        case first =>
          refine wp_region_held_drew (S := (fun w' : World => w'.cell? ⟨a, 0, none⟩ = some (.int .i64 F.parent) ∧ w'.cell? ⟨a, 1, none⟩ = some (.int .i64 F.slot) ∧ w'.cell? ⟨a, 2, none⟩ = some (.int .i64 F.vendor) ∧ w'.cell? ⟨a, 3, none⟩ = some (.int .i64 F.device) ∧ w'.cell? ⟨a, 4, none⟩ = some (.bool F.bridge) ∧ w'.cell? ⟨a, 5, none⟩ = some (.bool F.pref) ∧ w'.cell? ⟨a, 6, none⟩ = some (.bool F.hot) ∧ w'.cell? ⟨a, 7, none⟩ = some (.int .i64 F.spare) ∧ w'.cell? ⟨a, 8, none⟩ = some (.int .i64 F.pin) ∧ w'.cell? ⟨a, 9, none⟩ = some (.int .i64 F.vectors) ∧ w'.cell? ⟨a, 10, none⟩ = some V)) (by kernel_rfl) ?_ (fun hHeld => ?_)
          · ((try dsimp only); first | exact f_cells HS.out.b | exact f_cells HS.out.drew.b)
          refine take_first (i := 0) (oi := { dst := some 15, op := Go.Op.load 44 (Go.Operand.tmp 1), type := 44, pos := "law.go:62", after := #[], guard := none }) (v := ?_) rfl (by kernel_rfl) (by kernel_rfl) (by kernel_rfl) (fun _ _ _ h => h) ⟨by rfl, fun w hSw => .inl ?_⟩ (by assumption) ?_
          rotate_left
          · ((try dsimp only at hSw); go_simp; (try with_reducible rfl))
          try simp only [Act.put, List.setIfInBounds_toArray, List.set_cons_zero, List.set_cons_succ]
          refine take_first (i := 2) (oi := { dst := some 17, op := Go.Op.load 44 (Go.Operand.tmp 1), type := 44, pos := "law.go:62", after := #[], guard := none }) (v := ?_) rfl (by kernel_rfl) (by kernel_rfl) (by kernel_rfl) (fun _ _ _ h => h) ⟨by rfl, fun w hSw => .inl ?_⟩ (by assumption) ?_
          rotate_left
          · ((try dsimp only at hSw); go_simp; (try with_reducible rfl))
          try simp only [Act.put, List.setIfInBounds_toArray, List.set_cons_zero, List.set_cons_succ]
          refine wpAnyH_ready (rs := [1]) (by kernel_rfl) (by simp) (AllReadyH.cons (o := { dst := some 16, op := Go.Op.call { callee := Go.Callee.value (Go.Operand.func 19), args := #[Go.Operand.tmp 15], argTypes := #[44] }, type := 4, pos := "law.go:62", after := #[{ on := 0, ground := Go.Ground.data }], guard := none }) rfl (fun K hK => ?_) AllReadyH.nil)
          ((try go_simp); go_at_call 19; refine (valid_any F V bs1 _ _ (by first | exact HS.out.r | exact HS.out.drew.r)).mono ?_; rw [HV.out]; rintro e z1 ⟨rfl, hk0⟩; replace HS : Hid (VSt w a F V bs1 z1) := (by first | exact HS.out.keep hk0 | exact HS.out.drew.keep hk0); clear hk0)
          refine hK.out _ _ ?_ (fun hHeld => ?_)
          · ((try dsimp only); first | exact f_cells HS.out.b | exact f_cells HS.out.drew.b)
          clear hK K
          try simp only [Act.put, List.setIfInBounds_toArray, List.set_cons_zero, List.set_cons_succ]
          refine wpAnyH_ready (rs := [3]) (by kernel_rfl) (by simp) (AllReadyH.cons (o := { dst := some 18, op := Go.Op.call { callee := Go.Callee.value (Go.Operand.func 20), args := #[Go.Operand.tmp 17], argTypes := #[44] }, type := 4, pos := "law.go:62", after := #[{ on := 2, ground := Go.Ground.data }, { on := 1, ground := Go.Ground.chain }], guard := none }) rfl (fun K hK => ?_) AllReadyH.nil)
          ((try go_simp); go_at_call 20; refine (validFunction_any F V bs1 _ _ (by first | exact HS.out.r | exact HS.out.drew.r)).mono ?_; rw [HV.out]; rintro e z1 ⟨rfl, hk0⟩; replace HS : Hid (VSt w a F V bs1 z1) := (by first | exact HS.out.keep hk0 | exact HS.out.drew.keep hk0); clear hk0)
          refine hK.out _ _ ?_ (fun hHeld => ?_)
          · ((try dsimp only); first | exact f_cells HS.out.b | exact f_cells HS.out.drew.b)
          clear hK K
          try simp only [Act.put, List.setIfInBounds_toArray, List.set_cons_zero, List.set_cons_succ]
          refine take_first (i := 4) (oi := { dst := some 19, op := Go.Op.binOp Go.BinOp.neq 4 (Go.Operand.tmp 16) (Go.Operand.tmp 18) 4, type := 4, pos := "law.go:62", after := #[{ on := 1, ground := Go.Ground.data }, { on := 3, ground := Go.Ground.data }], guard := none }) (v := ?_) rfl (by kernel_rfl) (by kernel_rfl) (by kernel_rfl) (fun _ _ _ h => h) ⟨by rfl, fun w hSw => .inl ?_⟩ (by assumption) ?_
          rotate_left
          · ((try dsimp only at hSw); go_simp; (try with_reducible rfl))
          try simp only [Act.put, List.setIfInBounds_toArray, List.set_cons_zero, List.set_cons_succ]
          refine take_first (i := 5) (oi := { dst := some 20, op := Go.Op.move (Go.Operand.tmp 19), type := 4, pos := "law.go:62", after := #[{ on := 4, ground := Go.Ground.data }, { on := 3, ground := Go.Ground.chain }], guard := none }) (v := ?_) rfl (by kernel_rfl) (by kernel_rfl) (by kernel_rfl) (fun _ _ _ h => h) ⟨by rfl, fun w hSw => .inl ?_⟩ (by assumption) ?_
          rotate_left
          · ((try dsimp only at hSw); go_simp; (try with_reducible rfl))
          try simp only [Act.put, List.setIfInBounds_toArray, List.set_cons_zero, List.set_cons_succ]
          refine take_first (i := 6) (oi := { dst := some 21, op := Go.Op.move (Go.Operand.tmp 5), type := 26, pos := "law.go:62", after := #[{ on := 5, ground := Go.Ground.guard }], guard := some (5, false) }) (v := ?_) rfl (by kernel_rfl) (by kernel_rfl) (by kernel_rfl) (fun _ _ _ h => h) ⟨by rfl, fun w hSw => .inl ?_⟩ (by assumption) ?_
          rotate_left
          · ((try dsimp only at hSw); go_simp; (try with_reducible rfl))
          try simp only [Act.put, List.setIfInBounds_toArray, List.set_cons_zero, List.set_cons_succ]
          refine take_first (i := 7) (oi := { dst := some 22, op := Go.Op.binOp Go.BinOp.eql 26 (Go.Operand.tmp 21) (Go.Operand.const (Go.Value.int Go.IntKind.i64 0)) 26, type := 4, pos := "law.go:62", after := #[{ on := 6, ground := Go.Ground.data }, { on := 5, ground := Go.Ground.guard }], guard := some (5, false) }) (v := ?_) rfl (by kernel_rfl) (by kernel_rfl) (by kernel_rfl) (fun _ _ _ h => h) ⟨by rfl, fun w hSw => .inl ?_⟩ (by assumption) ?_
          rotate_left
          · ((try dsimp only at hSw); go_simp; (try with_reducible rfl))
          try simp only [Act.put, List.setIfInBounds_toArray, List.set_cons_zero, List.set_cons_succ]
          refine take_first (i := 8) (oi := { dst := some 23, op := Go.Op.load 44 (Go.Operand.tmp 1), type := 44, pos := "law.go:62", after := #[{ on := 5, ground := Go.Ground.guard }], guard := some (5, false) }) (v := ?_) rfl (by kernel_rfl) (by kernel_rfl) (by kernel_rfl) (fun _ _ _ h => h) ⟨by rfl, fun w hSw => .inl ?_⟩ (by assumption) ?_
          rotate_left
          · ((try dsimp only at hSw); go_simp; (try with_reducible rfl))
          try simp only [Act.put, List.setIfInBounds_toArray, List.set_cons_zero, List.set_cons_succ]
          refine wpAnyH_ready (rs := [9]) (by kernel_rfl) (by simp) (AllReadyH.cons (o := { dst := some 24, op := Go.Op.call { callee := Go.Callee.value (Go.Operand.func 20), args := #[Go.Operand.tmp 23], argTypes := #[44] }, type := 4, pos := "law.go:62", after := #[{ on := 8, ground := Go.Ground.data }, { on := 5, ground := Go.Ground.chain }, { on := 5, ground := Go.Ground.guard }], guard := some (5, false) }) rfl (fun K hK => ?_) AllReadyH.nil)
          ((try go_simp); go_at_call 20; refine (validFunction_any F V bs1 _ _ (by first | exact HS.out.r | exact HS.out.drew.r)).mono ?_; rw [HV.out]; rintro e z1 ⟨rfl, hk0⟩; replace HS : Hid (VSt w a F V bs1 z1) := (by first | exact HS.out.keep hk0 | exact HS.out.drew.keep hk0); clear hk0)
          refine hK.out _ _ ?_ (fun hHeld => ?_)
          · ((try dsimp only); first | exact f_cells HS.out.b | exact f_cells HS.out.drew.b)
          clear hK K
          try simp only [Act.put, List.setIfInBounds_toArray, List.set_cons_zero, List.set_cons_succ]
          refine take_first (i := 10) (oi := { dst := some 25, op := Go.Op.binOp Go.BinOp.neq 4 (Go.Operand.tmp 22) (Go.Operand.tmp 24) 4, type := 4, pos := "law.go:62", after := #[{ on := 7, ground := Go.Ground.data }, { on := 9, ground := Go.Ground.data }, { on := 5, ground := Go.Ground.guard }], guard := some (5, false) }) (v := ?_) rfl (by kernel_rfl) (by kernel_rfl) (by kernel_rfl) (fun _ _ _ h => h) ⟨by rfl, fun w hSw => .inl ?_⟩ (by assumption) ?_
          rotate_left
          · ((try dsimp only at hSw); go_simp; (try with_reducible rfl))
          try simp only [Act.put, List.setIfInBounds_toArray, List.set_cons_zero, List.set_cons_succ]
          refine take_first (i := 11) (oi := { dst := some 26, op := Go.Op.pick (Go.Operand.tmp 20) (Go.Operand.const (Go.Value.bool true)) (Go.Operand.tmp 25), type := 4, pos := "law.go:62", after := #[{ on := 5, ground := Go.Ground.data }, { on := 10, ground := Go.Ground.data }], guard := none }) (v := ?_) rfl (by kernel_rfl) (by kernel_rfl) (by kernel_rfl) (fun _ _ _ h => h) ⟨by rfl, fun w hSw => .inl ?_⟩ (by assumption) ?_
          rotate_left
          · ((try dsimp only at hSw); go_simp; (try with_reducible rfl))
          try simp only [Act.put, List.setIfInBounds_toArray, List.set_cons_zero, List.set_cons_succ]
          refine take_first (i := 12) (oi := { dst := some 27, op := Go.Op.move (Go.Operand.tmp 26), type := 4, pos := "law.go:62", after := #[{ on := 11, ground := Go.Ground.data }, { on := 9, ground := Go.Ground.chain }], guard := none }) (v := ?_) rfl (by kernel_rfl) (by kernel_rfl) (by kernel_rfl) (fun _ _ _ h => h) ⟨by rfl, fun w hSw => .inl ?_⟩ (by assumption) ?_
          rotate_left
          · ((try dsimp only at hSw); go_simp; (try with_reducible rfl))
          try simp only [Act.put, List.setIfInBounds_toArray, List.set_cons_zero, List.set_cons_succ]
          refine take_first (i := 13) (oi := { dst := some 28, op := Go.Op.move (Go.Operand.tmp 4), type := 45, pos := "law.go:62", after := #[{ on := 12, ground := Go.Ground.guard }], guard := some (12, false) }) (v := ?_) rfl (by kernel_rfl) (by kernel_rfl) (by kernel_rfl) (fun _ _ _ h => h) ⟨by rfl, fun w hSw => .inl ?_⟩ (by assumption) ?_
          rotate_left
          · ((try dsimp only at hSw); go_simp; (try with_reducible rfl))
          try simp only [Act.put, List.setIfInBounds_toArray, List.set_cons_zero, List.set_cons_succ]
          refine take_first (i := 14) (oi := { dst := some 29, op := Go.Op.binOp Go.BinOp.neq 45 (Go.Operand.tmp 28) (Go.Operand.const (Go.Value.pointer none)) 45, type := 4, pos := "law.go:62", after := #[{ on := 13, ground := Go.Ground.data }, { on := 12, ground := Go.Ground.guard }], guard := some (12, false) }) (v := ?_) rfl (by kernel_rfl) (by kernel_rfl) (by kernel_rfl) (fun _ _ _ h => h) ⟨by rfl, fun w hSw => .inl ?_⟩ (by assumption) ?_
          rotate_left
          · ((try dsimp only at hSw); go_simp; (try with_reducible rfl))
          try simp only [Act.put, List.setIfInBounds_toArray, List.set_cons_zero, List.set_cons_succ]
          refine take_first (i := 15) (oi := { dst := some 30, op := Go.Op.move (Go.Operand.tmp 5), type := 26, pos := "law.go:62", after := #[{ on := 12, ground := Go.Ground.guard }], guard := some (12, false) }) (v := ?_) rfl (by kernel_rfl) (by kernel_rfl) (by kernel_rfl) (fun _ _ _ h => h) ⟨by rfl, fun w hSw => .inl ?_⟩ (by assumption) ?_
          rotate_left
          · ((try dsimp only at hSw); go_simp; (try with_reducible rfl))
          try simp only [Act.put, List.setIfInBounds_toArray, List.set_cons_zero, List.set_cons_succ]
          refine take_first (i := 16) (oi := { dst := some 31, op := Go.Op.binOp Go.BinOp.eql 26 (Go.Operand.tmp 30) (Go.Operand.const (Go.Value.int Go.IntKind.i64 0)) 26, type := 4, pos := "law.go:62", after := #[{ on := 15, ground := Go.Ground.data }, { on := 12, ground := Go.Ground.guard }], guard := some (12, false) }) (v := ?_) rfl (by kernel_rfl) (by kernel_rfl) (by kernel_rfl) (fun _ _ _ h => h) ⟨by rfl, fun w hSw => .inl ?_⟩ (by assumption) ?_
          rotate_left
          · ((try dsimp only at hSw); go_simp; (try with_reducible rfl))
          try simp only [Act.put, List.setIfInBounds_toArray, List.set_cons_zero, List.set_cons_succ]
          refine take_first (i := 17) (oi := { dst := some 32, op := Go.Op.binOp Go.BinOp.neq 4 (Go.Operand.tmp 29) (Go.Operand.tmp 31) 4, type := 4, pos := "law.go:62", after := #[{ on := 14, ground := Go.Ground.data }, { on := 16, ground := Go.Ground.data }, { on := 12, ground := Go.Ground.guard }], guard := some (12, false) }) (v := ?_) rfl (by kernel_rfl) (by kernel_rfl) (by kernel_rfl) (fun _ _ _ h => h) ⟨by rfl, fun w hSw => .inl ?_⟩ (by assumption) ?_
          rotate_left
          · ((try dsimp only at hSw); go_simp; (try with_reducible rfl))
          try simp only [Act.put, List.setIfInBounds_toArray, List.set_cons_zero, List.set_cons_succ]
          refine take_first (i := 18) (oi := { dst := some 33, op := Go.Op.pick (Go.Operand.tmp 27) (Go.Operand.const (Go.Value.bool true)) (Go.Operand.tmp 32), type := 4, pos := "law.go:62", after := #[{ on := 12, ground := Go.Ground.data }, { on := 17, ground := Go.Ground.data }], guard := none }) (v := ?_) rfl (by kernel_rfl) (by kernel_rfl) (by kernel_rfl) (fun _ _ _ h => h) ⟨by rfl, fun w hSw => .inl ?_⟩ (by assumption) ?_
          rotate_left
          · ((try dsimp only at hSw); go_simp; (try with_reducible rfl))
          try simp only [Act.put, List.setIfInBounds_toArray, List.set_cons_zero, List.set_cons_succ]
          refine take_first (i := 19) (oi := { dst := some 34, op := Go.Op.move (Go.Operand.tmp 33), type := 4, pos := "law.go:62", after := #[{ on := 18, ground := Go.Ground.data }, { on := 12, ground := Go.Ground.chain }], guard := none }) (v := ?_) rfl (by kernel_rfl) (by kernel_rfl) (by kernel_rfl) (fun _ _ _ h => h) ⟨by rfl, fun w hSw => .inl ?_⟩ (by assumption) ?_
          rotate_left
          · ((try dsimp only at hSw); go_simp; (try with_reducible rfl))
          try simp only [Act.put, List.setIfInBounds_toArray, List.set_cons_zero, List.set_cons_succ]
          refine take_first (i := 20) (oi := { dst := some 35, op := Go.Op.move (Go.Operand.tmp 5), type := 26, pos := "law.go:62", after := #[{ on := 19, ground := Go.Ground.guard }], guard := some (19, false) }) (v := ?_) rfl (by kernel_rfl) (by kernel_rfl) (by kernel_rfl) (fun _ _ _ h => h) ⟨by rfl, fun w hSw => .inl ?_⟩ (by assumption) ?_
          rotate_left
          · ((try dsimp only at hSw); go_simp; (try with_reducible rfl))
          try simp only [Act.put, List.setIfInBounds_toArray, List.set_cons_zero, List.set_cons_succ]
          refine take_first (i := 21) (oi := { dst := some 36, op := Go.Op.binOp Go.BinOp.neq 26 (Go.Operand.tmp 35) (Go.Operand.const (Go.Value.int Go.IntKind.i64 0)) 26, type := 4, pos := "law.go:62", after := #[{ on := 20, ground := Go.Ground.data }, { on := 19, ground := Go.Ground.guard }], guard := some (19, false) }) (v := ?_) rfl (by kernel_rfl) (by kernel_rfl) (by kernel_rfl) (fun _ _ _ h => h) ⟨by rfl, fun w hSw => .inl ?_⟩ (by assumption) ?_
          rotate_left
          · ((try dsimp only at hSw); go_simp; (try with_reducible rfl))
          try simp only [Act.put, List.setIfInBounds_toArray, List.set_cons_zero, List.set_cons_succ]
          refine take_first (i := 22) (oi := { dst := some 37, op := Go.Op.move (Go.Operand.tmp 36), type := 4, pos := "law.go:62", after := #[{ on := 21, ground := Go.Ground.data }, { on := 19, ground := Go.Ground.chain }, { on := 19, ground := Go.Ground.guard }], guard := some (19, false) }) (v := ?_) rfl (by kernel_rfl) (by kernel_rfl) (by kernel_rfl) (fun _ _ _ h => h) ⟨by rfl, fun w hSw => .inl ?_⟩ (by assumption) ?_
          rotate_left
          · ((try dsimp only at hSw); go_simp; (try with_reducible rfl))
          try simp only [Act.put, List.setIfInBounds_toArray, List.set_cons_zero, List.set_cons_succ]
          refine wpAnyH_ready (rs := [23]) (by kernel_rfl) (by simp) (AllReadyH.cons (o := { dst := some 38, op := Go.Op.move (Go.Operand.tmp 5), type := 26, pos := "law.go:62", after := #[{ on := 22, ground := Go.Ground.guard }], guard := some (22, true) }) rfl (fun K hK => ?_) AllReadyH.nil)
          go_simp
          refine hK.out _ _ ?_ (fun hHeld => ?_)
          · ((try dsimp only); first | exact f_cells HS.out.b | exact f_cells HS.out.drew.b)
          clear hK K
          try simp only [Act.put, List.setIfInBounds_toArray, List.set_cons_zero, List.set_cons_succ]
          refine wpAnyH_ready (rs := [24]) (by kernel_rfl) (by simp) (AllReadyH.cons (o := { dst := some 39, op := Go.Op.binOp Go.BinOp.neq 26 (Go.Operand.tmp 38) (Go.Operand.const (Go.Value.int Go.IntKind.i64 1)) 26, type := 4, pos := "law.go:62", after := #[{ on := 23, ground := Go.Ground.data }, { on := 22, ground := Go.Ground.guard }], guard := some (22, true) }) rfl (fun K hK => ?_) AllReadyH.nil)
          go_simp
          refine hK.out _ _ ?_ (fun hHeld => ?_)
          · ((try dsimp only); first | exact f_cells HS.out.b | exact f_cells HS.out.drew.b)
          clear hK K
          try simp only [Act.put, List.setIfInBounds_toArray, List.set_cons_zero, List.set_cons_succ]
          refine take_first (i := 25) (oi := { dst := some 40, op := Go.Op.pick (Go.Operand.tmp 37) (Go.Operand.tmp 39) (Go.Operand.const (Go.Value.bool false)), type := 4, pos := "law.go:62", after := #[{ on := 22, ground := Go.Ground.data }, { on := 24, ground := Go.Ground.data }, { on := 19, ground := Go.Ground.guard }], guard := some (19, false) }) (v := ?_) rfl (by kernel_rfl) (by kernel_rfl) (by kernel_rfl) (fun _ _ _ h => h) ⟨by rfl, fun w hSw => .inl ?_⟩ (by assumption) ?_
          rotate_left
          · ((try dsimp only at hSw); go_simp; (try with_reducible rfl))
          try simp only [Act.put, List.setIfInBounds_toArray, List.set_cons_zero, List.set_cons_succ]
          refine take_first (i := 26) (oi := { dst := some 41, op := Go.Op.pick (Go.Operand.tmp 34) (Go.Operand.const (Go.Value.bool true)) (Go.Operand.tmp 40), type := 4, pos := "law.go:62", after := #[{ on := 19, ground := Go.Ground.data }, { on := 25, ground := Go.Ground.data }], guard := none }) (v := ?_) rfl (by kernel_rfl) (by kernel_rfl) (by kernel_rfl) (fun _ _ _ h => h) ⟨by rfl, fun w hSw => .inl ?_⟩ (by assumption) ?_
          rotate_left
          · ((try dsimp only at hSw); go_simp; (try with_reducible rfl))
          try simp only [Act.put, List.setIfInBounds_toArray, List.set_cons_zero, List.set_cons_succ]
          refine wpAnyH_done (by kernel_rfl) ?_ _
          go_wp2_with fail
          go_meet
          exact ⟨rfl, HS.out⟩
        case rest =>
          clear HS e0 e1 e2 e3 e4 e5 e6 e7 e8 e9 e10
          obtain ⟨rfl, HS⟩ := hcut
          obtain ⟨e0, e1, e2, e3, e4, e5, e6, e7, e8, e9, e10⟩ := f_cells HS.out.b
          go_wp2_with fail
          refine (some_any F V bs1 _ _ HS.out.r).mono ?_
          rintro e z1 ⟨F', V', bs', he, hk0, hr⟩
          obtain ⟨A', n', c', rfl⟩ := row_slice hr
          unfold fhL at he
          subst he
          have HS1 := Lib.hid (HS.out.store (F' := F') hk0 (hr.mono (fun q _ h => by have := HS.out.b.lt; omega)))
          replace HS := Lib.hid (HS.out.keep hk0)
          clear hk0 hr e0 e1 e2 e3 e4 e5 e6 e7 e8 e9 e10
          obtain ⟨e0, e1, e2, e3, e4, e5, e6, e7, e8, e9, e10⟩ := f_cells HS.out.b
          have hf := fun i => HS.out.b.free i
          go_wp2
          exact ⟨⟨k + 1, _, _, _, by go_num, by omega, HS1.out⟩, by simp [intOf]; omega⟩
    · obtain rfl : k = 2 := by omega
      clear e0 e1 e2 e3 e4 e5 e6 e7 e8 e9 e10
      go_wp2_with fail
      refine (awake18 _).mono ?_
      rintro e z ⟨rfl, hk0⟩
      replace HS := Lib.hid (HS.out.keep hk0)
      go_wp2
      go_ret
      exact ⟨rfl, HS.out.k⟩
end Go.Proofs.Ytolbecinjajejaa
