/-
  The law LzBack of the given program: for every input the call returns true, and each argument reads behind the call as it read before. No condition on the input. (The frame is after the proof skeleton of the kit, the walk by hand.)
-/
import Derived.Test.YthbniljkgdkdnaaRows
import Derived.Test.YthbniljkgdkdnaaLzShown
import Derived.WalkKit
import Derived.ProofKit
import Derived.OpenShut
import Derived.ShutString
import Derived.ChangeOld
import Derived.Below
namespace Go.Proofs.Ythbniljkgdkdnaa.lzBack
open Go.ChangeShapes Go.WideShapes Go.ChangeAt Go.RowKit
open Go.ChangeMaps (open_string shut_string)
set_option linter.unusedVariables false
set_option linter.unusedSimpArgs false

theorem own : ownKnob Try.prog.godebug = none := by kernel_rfl
theorem laidOut : laidOutB Try.prog = true := by kernel_rfl

/-- A slice of integers that came in: nil; or a row of cells, as many as its capacity, that fit their kind. -/
def IsRow (k : IntKind) (w : World) (a : Option Addr) (len cap : Nat) (zs : List Int) : Prop :=
  (a = none ∧ len = 0 ∧ cap = 0 ∧ zs = []) ∨
  ∃ x, a = some x ∧ len ≤ cap ∧ cap ≤ maxLen ∧ zs.length = cap ∧ (∀ i, i < zs.length → w.cell? (x.add i) = some (.int k (zs.getD i 0))) ∧ ∀ n ∈ zs, (Lit.int k n).wf = true

set_option maxHeartbeats 2000000 in
set_option maxRecDepth 100000 in
/-- The walk. -/
theorem walk (a0 : Option Addr) (len0 cap0 : Nat) (z0 : List Int) (w : World) (w0 : IsRow .u8 w a0 len0 cap0 z0) :
    Calls Try.prog 5 #[.slice a0 len0 cap0] w fun e w' => e = .returned (.bool true) ∧ Below w.heap.size w w' := by
  obtain ⟨bs, rfl, hc, hm, hb⟩ := bytes_of_ints w0
  have hm' := hm
  unfold maxLen at hm
  have hmin : (bs.take 3000).length = min bs.length 3000 := by simp; omega
  have hb' := hb.take 3000
  have hn : min bs.length 3000 ≤ 3000 := by omega
  have hnc : min bs.length 3000 ≤ cap0 := by omega
  have hi1 : min (bs.length : Int) 3000 = ((min bs.length 3000 : Nat) : Int) := by omega
  have hxl := Lib.hid hmin
  clear hmin w0
  generalize min bs.length 3000 = n at *
  generalize bs.take 3000 = xs at *
  have r1 := fun w => run_slice_hi (P := Try.prog) (T := 22) (E := 5) Try.underlying22 (by kernel_rfl) w a0 bs.length cap0 n (by omega)
  have infoB' := Lib.hid infoB
  have k1 := Lib.hid fun A c w h1 h2 h => pack_rd A n c xs w hxl.out h1 h2 h (by omega)
  have hpl := pack_len xs
  have hu1 := unp_pack xs (n : Int)
  have hu2 := unp_pack xs ((n : Int) - 1)
  rw [hxl.out] at hpl hu1 hu2
  rw [if_neg (by omega)] at hu1
  obtain ⟨p, hp⟩ : ∃ p, packB xs = p := ⟨_, rfl⟩
  rw [hp] at k1 hpl hu1 hu2
  have hkk : ∃ kk : Int, (unpB p ((n : Int) - 1)).2 = kk ∧ ((n : Int) == 0) = (kk == 0) ∧ (kk = 0 ∨ kk = 4) := by
    rw [hu2]
    by_cases h : max ((n : Int) - 1) 0 < (n : Int)
    · rw [if_pos h]
      exact ⟨4, rfl, by rw [show ((n : Int) == 0) = false from beq_false_of_ne (by omega)]; rfl, .inr rfl⟩
    · rw [if_neg h]
      exact ⟨0, rfl, by rw [show ((n : Int) == 0) = true from beq_iff_eq.2 (by omega)]; rfl, .inl rfl⟩
  obtain ⟨kk, hkk1, hkk2, hkk3⟩ := hkk
  have k2 := fun A c w h1 h2 h => unpack_rd A p.length c p (n : Int) w rfl h1 h2 h (by omega) (by omega) (by omega)
  have k3 := fun A c w h1 h2 h => unpack_rd A p.length c p ((n : Int) - 1) w rfl h1 h2 h (by omega) (by omega) (by omega)
  rw [hu1] at k2
  rw [hkk1] at k3
  dsimp only at k2
  rw [hxl.out] at k2
  replace k2 := Lib.hid k2
  replace k3 := Lib.hid k3
  clear hu1 hu2 hkk1 hp
  have hpl2 : (p.length : Int) ≤ (n : Int) + 1 := by omega
  have hnb : (n : Int) ≤ 3000 := by omega
  go_enter Try.func5, Try.ntmps5
  go_wp2_with fail
  refine (shown_any _).mono ?_
  rintro e v1 ⟨rfl, hb1⟩
  have hs1 := hb1.size
  have hmade : (v1.alloc (.cells #[] 5)).ownsRow w.heap.size 5 1 (.slice (some ⟨v1.heap.size, 0, none⟩) 0 0) 0 [] := World.ownsRow_made v1 #[] 0 hs1 (by unfold maxLen; omega) rfl
  go_wp2_with (at_builtin; refine wpList_append_any rfl _ _ 22 rfl w.heap.size 5 (.int .u8 0) 1 1 Try.underlying22 infoB'.out rfl (by decide) (.slice (some ⟨v1.heap.size, 0, none⟩) 0 0) 0 [] rfl hmade a0 n cap0 (xs.map bv) rfl ((Rd.below hb' hb1).alloc _) (by rw [List.length_map]; have := hxl.out; omega) (bv_one xs) (by unfold maxLen; omega) (by omega) (by simp; omega) ?_; intro v7 w7 ho7 hg7 _)
  simp only [Nat.zero_add, List.nil_append] at ho7
  have hb7 : Below w.heap.size w w7 := (hb1.alloc hs1 (.cells #[] 5)).grown hg7 (by simp; omega) (fun q e => by have e1 : v1.heap.size = q := Option.some.inj e; omega)
  obtain ⟨A7, c7, hv7, hle7, hmx7, hrd7⟩ := own_slice ho7
  subst hv7
  replace hrd7 : Bs w7 A7 xs := hrd7
  clear hg7 ho7 hmade
  go_wp2_with fail
  refine (k1.out A7 c7 _ hle7 hmx7 hrd7).mono ?_
  rintro e w8 ⟨A8, c8, rfl, hle8, hmx8, hrd8, hb8⟩
  have hb9 := hb7.trans (hb8.mono hb7.size)
  have s1 := run_str w8 A7 n c7 xs hxl.out (hrd7.below hb8)
  have s2 := run_str w8 a0 n cap0 xs hxl.out (Rd.below hb' hb9)
  clear hb8 hb7 hrd7
  go_wp2_with fail
  refine (k2.out A8 c8 _ hle8 hmx8 hrd8).mono ?_
  rintro e w9 ⟨A9, c9, rfl, hle9, hmx9, hrd9, hb10⟩
  have hb11 := hb9.trans (hb10.mono hb9.size)
  have hrd10 := hrd8.below hb10
  clear hb9 hb10 hrd8 s1 s2
  go_wp2_with fail
  refine (k3.out A8 c8 _ hle8 hmx8 hrd10).mono ?_
  rintro e w10 ⟨A10, c10, rfl, _, _, _, hb12⟩
  have hb13 := hb11.trans (hb12.mono hb11.size)
  have s3 := run_str w10 A9 n c9 xs hxl.out (hrd9.below hb12)
  have s4 := run_str w10 a0 n cap0 xs hxl.out (Rd.below hb' hb13)
  clear hb12 hb11 hrd9 hrd10 k1 k2 k3
  rcases hkk3 with h | h
  all_goals
    subst h
    go_wp2
    go_ret
    exact ⟨by simp_all, hb13⟩

set_option maxRecDepth 100000 in
/-- The step of the row. -/
theorem lifted (os : Os) (started : os.Started) (H : Type) (enc : TypeId × Value → H) :
    ReturnsInHanded {} Try.checked os 5 .any (Rows.lzBackSpec.pre6 enc Try.prog Try.f5 Rows.lzBackRow.domain false) (Rows.lzBackSpec.post enc Try.prog Try.f5 false true false false) := by
  refine returnsInHanded_of_change (C := Try.checked) own started (by kernel_rfl) Try.func5
    (ChangeSpec.witness6 (enc := enc) (C := Try.checked) false ⟨#[], #[.slice none 0 0], []⟩ 8 (by kernel_rfl) (by kernel_rfl) (by kernel_rfl) (by kernel_rfl)) ?_
  intro W base args ds gs before hval0 hW hcnd _
  have hval : ∀ (j : Nat) t v, Try.f5.params[j]? = some t → args[j]? = some v → Value.okWide Try.prog W .any base t v := hval0
  have hW' := hW
  obtain ⟨p, q, hA0, hV, rfl, hfz, hnd⟩ := hW
  have hA : DataW.TrodAll enc Try.prog W 0 (fun _ => true) true Try.f5.params.toList args.toList ds p := hA0
  rw [Try.params5] at hA hval
  obtain ⟨v0, vs0, d0, ds0, p0, q0, hargs, rfl, rfl, h0, r0⟩ := trodAll_cons hA
  obtain ⟨rfl, rfl, rfl⟩ := trodAll_nil r0
  obtain rfl : args = #[v0] := by cases args; simp_all
  obtain ⟨rfl, rfl⟩ := trodVars_none hV
  have k0 := h0
  have lt0 : ∀ x ∈ p0, x.block < W.heap.size := by obtain ⟨m, hm⟩ := k0; exact DataW.trod_lt m _ _ _ hm
  obtain ⟨a0, len0, cap0, rfl⟩ := okWide_slice Try.underlying22 (hval 0 22 v0 rfl rfl)
  obtain ⟨z0, w0⟩ : ∃ zs, IsRow .u8 W a0 len0 cap0 zs := by
    obtain ⟨fuel, hf⟩ := h0
    rcases open_ints Try.underlying22 Try.underlying5 (by kernel_rfl) hf with ⟨hcs, _⟩ | ⟨x, l, c, zs, hcs, _, hl, hm, hz, _, hcell, hwz⟩
    · simp [Value.cells] at hcs
      obtain ⟨rfl, rfl, rfl⟩ := hcs
      exact ⟨[], .inl ⟨rfl, rfl, rfl, rfl⟩⟩
    · simp [Value.cells] at hcs
      obtain ⟨rfl, rfl, rfl⟩ := hcs
      exact ⟨zs, .inr ⟨_, rfl, hl, hm, by simpa using hz, hcell, hwz⟩⟩
  clear hA0 hval0
  refine (walk a0 len0 cap0 z0 W w0).mono fun e W' ⟨he, bel⟩ => ?_
  subst he
  exact ⟨_, rfl, _, _, _, [], _, [], hW', trodAll_mk1 (shut_bool Try.underlying4 _), (trodAll_cons_mk (Below.trod laidOut (by kernel_rfl) (of_decide_eq_true (by kernel_rfl)) k0 bel lt0) trodAll_mk0), rfl, bel.frame _, fun h => by cases h⟩

theorem over : Rows.lzBackRow.holds Try.pinned (OpenSpec.ofChange Rows.lzBackSpec) :=
  OpenClaim.holds_of_wide 5 Try.f5 rfl rfl rfl rfl rfl rfl rfl ⟨rfl, rfl, rfl, rfl, rfl⟩ rfl rfl rfl rfl rfl (by kernel_rfl) Try.func5 (by kernel_rfl)
    (of_decide_eq_true (by kernel_rfl)) (by unfold Func.isWrapper; first | (rw [if_pos (by decide +kernel)]; kernel_rfl) | (rw [if_neg (by decide +kernel)]; exact ⟨rfl, rfl⟩))
    (fun os started H enc _ => lifted os started H enc)

/-- The statement. -/
theorem proved : Rows.LzBackSaid := over
#print axioms proved
end Go.Proofs.Ythbniljkgdkdnaa.lzBack
