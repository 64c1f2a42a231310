/-
  The law MatchRuns of the given program: for every input the call returns true, and each argument reads behind the call as it read before. No condition on the input. (The frame is after the proof skeleton of the kit, the walk by hand.)
-/
import Derived.Test.YtfdlillaoadpkaaRows
import Derived.Test.YtfdlillaoadpkaaMatchLaws
import Derived.Test.YtfdlillaoadpkaaStr
import Derived.WalkKit
import Derived.ProofKit
import Derived.OpenShut
import Derived.ShutString
import Derived.ChangeOld
import Derived.Below
namespace Go.Proofs.Ytfdlillaoadpkaa.matchRuns
open Go.ChangeShapes Go.WideShapes Go.ChangeAt Go.RowKit
open Go.ChangeMaps (open_string shut_string)
set_option linter.unusedVariables false
set_option linter.unusedSimpArgs false

theorem own : ownKnob Try.prog.godebug = none := by kernel_rfl
theorem laidOut : laidOutB Try.prog = true := by kernel_rfl

/-- A slice of integers that came in: nil; or a row of cells, as many as its capacity, that fit their kind. -/
def IsRow (k : IntKind) (w : World) (a : Option Addr) (len cap : Nat) (zs : List Int) : Prop :=
  (a = none ∧ len = 0 ∧ cap = 0 ∧ zs = []) ∨
  ∃ x, a = some x ∧ len ≤ cap ∧ cap ≤ maxLen ∧ zs.length = cap ∧ (∀ i, i < zs.length → w.cell? (x.add i) = some (.int k (zs.getD i 0))) ∧ ∀ n ∈ zs, (Lit.int k n).wf = true

set_option maxHeartbeats 2000000 in
set_option maxRecDepth 100000 in
/-- The walk. -/
theorem walk (a0 : Option Addr) (len0 cap0 : Nat) (z0 : List Int) (w : World) (w0 : IsRow .u8 w a0 len0 cap0 z0) :
    Calls Try.prog 7 #[.slice a0 len0 cap0] w fun e w' => e = .returned (.bool true) ∧ Below w.heap.size w w' := by
  obtain ⟨bs, rfl, hc, hm, hb⟩ := bytes_of_ints w0
  have hmin : (bs.take 1000).length = min bs.length 1000 := by simp; omega
  have hb' := hb.take 1000
  have hc' : (bs.take 1000).length ≤ cap0 := by omega
  have k1 := fun w h => all_any a0 cap0 (bs.take 1000) w hc' hm h (by omega)
  have hn : min bs.length 1000 ≤ 1000 := by omega
  have hcm : min bs.length 1000 ≤ cap0 := by omega
  rw [hmin] at k1
  have hxl := Lib.hid hmin
  clear hmin w0
  have few1 := Lib.hid fun w => few_any a0 bs.length cap0 w hc hm
  generalize min bs.length 1000 = N at *
  generalize bs.take 1000 = xs at *
  have hmx : (cap0 : Int) ≤ 9223372036854775807 := by unfold maxLen at hm; omega
  clear hb hc'
  replace k1 := Lib.hid k1
  go_enter Try.func7, Try.ntmps7
  go_wp2_with fail
  refine (shown_any _).mono ?_
  rintro e w1 ⟨rfl, hb1⟩
  go_wp2_with fail
  refine (few1.out _).mono ?_
  rintro e w' ⟨rfl, rfl⟩
  go_wp2_with fail
  refine (k1.out _ (hb'.below hb1)).mono ?_
  rintro e w2 ⟨v1, rfl, ho1, hb2⟩
  have hb12 := hb1.trans (hb2.mono hb1.size)
  have hbs := hb'.below hb12
  obtain ⟨A1, c1, rfl, hle1, hmx1, _⟩ := own_slice ho1
  clear hb2 hb1 hb'
  go_wp2
  go_loopw [6, 22] (fun _ v wr => ∃ k m : Nat, v = .int .i64 k ∧ k ≤ N ∧ wr = w2.drewN m) (fun _ v _ => N - (intOf v).toNat)
  case atStart => exact ⟨0, 0, rfl, by omega, rfl⟩
  case round =>
    obtain ⟨k, m, rfl, hk, rfl⟩ := hrel
    by_cases hlt : k < N
    · obtain ⟨g1, rfl⟩ := own_addr ho1 (by omega)
      obtain ⟨d0, d1⟩ := own_pair ho1 hlt
      obtain ⟨ad, rfl, _⟩ := hbs.at_ k (by rw [hxl.out]; exact hlt)
      have cell : Hid (∀ (i : Nat) c, xs[i]? = some c → w2.cell? (ad.add i) = some (bv c)) := fun i c hi => by
        obtain ⟨ad', e1, h1⟩ := Rd.at_ hbs (k := i) (u := bv c) (by simp [hi])
        obtain rfl : ad = ad' := Option.some.inj e1
        exact h1
      have hle := best_le xs k
      rw [hxl.out] at hle
      rcases best_spec xs k with ⟨h1, h2, _⟩ | ⟨h3, hd1, hd2, hdk, hcom, _⟩
      · rw [h2] at d0
        rw [h1] at d1
        clear hle h1 h2
        go_wp2
        go_quiet (fail)
        go_wp2
        go_roundw
        case rel => exact ⟨k + 1, _, by go_num, by omega, rfl⟩
        case measure => simp [intOf]; omega
      · obtain ⟨p, hp⟩ : ∃ p, k = p + (best xs k).1 := ⟨k - (best xs k).1, by omega⟩
        have hp' : k - (best xs k).1 = p := by omega
        rw [hp'] at hcom
        generalize (best xs k).1 = d at *
        generalize (best xs k).2 = n at *
        have same := Lib.hid fun j (hj : j < n) => com_lt (bs := xs) (i := p) (k := k) (j := j) (by rw [hcom]; exact hj)
        have stop := Lib.hid fun (h : n < 130) c => com_stop (bs := xs) (i := p) (k := k) (by rw [hcom]; exact h) c
        rw [hcom] at stop
        replace hp := Lib.hid hp
        clear hp' hcom
        obtain ⟨x0, e0, e1⟩ := same.out 0 (by omega)
        simp only [Nat.add_zero] at e0 e1
        have kx := cell.out k x0 e1
        have px := cell.out p x0 e0
        have hpk : p + d ≤ k ∧ k ≤ p + d := by have := hp.out; omega
        obtain ⟨hpk1, hpk2⟩ := hpk
        have s1 := fun w => run_slice_mid (P := Try.prog) (T := 22) (E := 5) Try.underlying22 (by kernel_rfl) w (some ad) N cap0 k (k + 1) (by omega) (by omega)
        have s2 := fun w => run_slice_mid (P := Try.prog) (T := 22) (E := 5) Try.underlying22 (by kernel_rfl) w (some ad) N cap0 p (p + 1) (by omega) (by omega)
        rw [if_neg (by omega), show k + 1 - k = 1 by omega] at s1
        rw [if_neg (by omega), show p + 1 - p = 1 by omega] at s2
        simp only [Option.map_some, Int.natCast_add, Int.natCast_one] at s1 s2
        have v1 := fun q => run_bytes_string (P := Try.prog) (src := 22) (dst := 9) (e := 5) Try.underlying22 Try.underlying5 Try.underlying9 (w2.drewN q) (some (ad.add k)) 1 (cap0 - k) [x0] rfl
          (.inr ⟨_, rfl, fun j u hj => by match j, hj with | 0, hj => (simp at hj; subst hj; rw [show (ad.add k).add 0 = ad.add k by simp [Addr.add]]; exact kx)⟩)
        have v2 := fun q => run_bytes_string (P := Try.prog) (src := 22) (dst := 9) (e := 5) Try.underlying22 Try.underlying5 Try.underlying9 (w2.drewN q) (some (ad.add p)) 1 (cap0 - p) [x0] rfl
          (.inr ⟨_, rfl, fun j u hj => by match j, hj with | 0, hj => (simp at hj; subst hj; rw [show (ad.add p).add 0 = ad.add p by simp [Addr.add]]; exact px)⟩)
        clear kx px e0 e1
        have tn : ((n : Int) == 0) = false := by simp; omega
        have t1 : decide ((d : Int) < 1) = false := by simp; omega
        have t2 : decide ((256 : Int) < d) = false := by simp; omega
        have t3 : decide ((k : Int) < d) = false := by simp; omega
        have t4 : decide ((n : Int) < 3) = false := by simp; omega
        have t5 : decide ((130 : Int) < n) = false := by simp; omega
        have t6 : decide ((N : Int) < (k : Int) + n) = false := by simp; omega
        have a1 : IntKind.i64.wrap ((k : Int) + n) = (k : Int) + n := IntWalk.i64_in _ (by omega)
        have a2 : IntKind.i64.wrap ((k : Int) + 1) = (k : Int) + 1 := IntWalk.i64_in _ (by omega)
        have a3 : IntKind.i64.wrap ((k : Int) - d) = p := by rw [IntWalk.i64_in _ (by omega)]; omega
        have a4 : IntKind.i64.wrap ((p : Int) + 1) = (p : Int) + 1 := IntWalk.i64_in _ (by omega)
        go_wp2
        go_quiet (fail)
        go_wp2
        go_quiet (fail)
        clear s1 s2 v1 v2 tn t1 t2 t3 t4 t5 t6 a2 a3 a4
        go_wp2
        go_loopw [9, 88] (fun _ v wi => ∃ j q : Nat, v = .int .i64 j ∧ j ≤ n ∧ wi = w2.drewN q) (fun _ v _ => n - (intOf v).toNat)
        case atStart => exact ⟨0, _, rfl, by omega, World.drewN_drewN ..⟩
        case round =>
          obtain ⟨j, q, rfl, hj, rfl⟩ := hrel
          by_cases hjn : j < n
          · obtain ⟨x1, e0, e1⟩ := same.out j hjn
            have kx := cell.out _ _ e1
            have px := cell.out _ _ e0
            have b1 : IntKind.i64.wrap ((k : Int) + j) = (k : Int) + j := IntWalk.i64_in _ (by omega)
            have b2 : IntKind.i64.wrap ((k : Int) + j - d) = (p : Int) + j := by rw [IntWalk.i64_in _ (by omega)]; omega
            have c1 : (0 : Int) ≤ (k : Int) + j := by omega
            have c2 : (0 : Int) ≤ (p : Int) + j := by omega
            have c3 : (k : Int) + j < N := by omega
            have c4 : (p : Int) + j < N := by omega
            have n1 : ((k : Int) + j).toNat = k + j := by omega
            have n2 : ((p : Int) + j).toNat = p + j := by omega
            clear e0 e1
            go_wp2
            go_quiet (fail)
            go_wp2
            go_roundw
            case rel => exact ⟨j + 1, _, by go_num, by omega, rfl⟩
            case measure => simp [intOf]; omega
          · by_cases h130 : n < 130
            · have t1 : decide ((n : Int) < 130) = true := by simp; omega
              by_cases hin : k + n < N
              · have t2 : decide ((k : Int) + n < N) = true := by simp; omega
                obtain ⟨x1, e1⟩ : ∃ c, xs[k + n]? = some c := ⟨_, List.getElem?_eq_getElem (by rw [hxl.out]; exact hin)⟩
                obtain ⟨x2, e0⟩ : ∃ c, xs[p + n]? = some c := ⟨_, List.getElem?_eq_getElem (by rw [hxl.out]; omega)⟩
                have kx := cell.out _ _ e1
                have px := cell.out _ _ e0
                have hne : ((x1.toNat : Int) == x2.toNat) = false := by
                  simp only [beq_eq_false_iff_ne]
                  intro he
                  have hx : x1 = x2 := UInt8.toNat_inj.1 (Int.ofNat_inj.1 he)
                  subst hx
                  exact stop.out h130 _ e0 e1
                have b2 : IntKind.i64.wrap ((k : Int) + n - d) = (p : Int) + n := by rw [IntWalk.i64_in _ (by omega)]; omega
                have c1 : (0 : Int) ≤ (k : Int) + n := by omega
                have c2 : (0 : Int) ≤ (p : Int) + n := by omega
                have c3 : (k : Int) + n < N := by omega
                have c4 : (p : Int) + n < N := by omega
                have n1 : ((k : Int) + n).toNat = k + n := by omega
                have n2 : ((p : Int) + n).toNat = p + n := by omega
                clear e0 e1
                go_wp2
                go_quiet (fail)
                go_wp2
                go_roundw
                case rel => exact ⟨k + 1, _, by go_num, by omega, rfl⟩
                case measure => simp [intOf]; omega
              · have t2 : decide ((k : Int) + n < N) = false := by simp; omega
                go_wp2
                go_quiet (fail)
                go_wp2
                go_roundw
                case rel => exact ⟨k + 1, _, by go_num, by omega, rfl⟩
                case measure => simp [intOf]; omega
            · have t1 : decide ((n : Int) < 130) = false := by simp; omega
              go_wp2
              go_quiet (fail)
              go_wp2
              go_roundw
              case rel => exact ⟨k + 1, _, by go_num, by omega, rfl⟩
              case measure => simp [intOf]; omega
    · go_wp2
      go_ret
      exact ⟨rfl, hb12.drewN _⟩

set_option maxRecDepth 100000 in
/-- The step of the row. -/
theorem lifted (os : Os) (started : os.Started) (H : Type) (enc : TypeId × Value → H) :
    ReturnsInHanded {} Try.checked os 7 .any (Rows.matchRunsSpec.pre6 enc Try.prog Try.f7 Rows.matchRunsRow.domain false) (Rows.matchRunsSpec.post enc Try.prog Try.f7 false true false false) := by
  refine returnsInHanded_of_change (C := Try.checked) own started (by kernel_rfl) Try.func7
    (ChangeSpec.witness6 (enc := enc) (C := Try.checked) false ⟨#[], #[.slice none 0 0], []⟩ 8 (by kernel_rfl) (by kernel_rfl) (by kernel_rfl) (by kernel_rfl)) ?_
  intro W base args ds gs before hval0 hW hcnd _
  have hval : ∀ (j : Nat) t v, Try.f7.params[j]? = some t → args[j]? = some v → Value.okWide Try.prog W .any base t v := hval0
  have hW' := hW
  obtain ⟨p, q, hA0, hV, rfl, hfz, hnd⟩ := hW
  have hA : DataW.TrodAll enc Try.prog W 0 (fun _ => true) true Try.f7.params.toList args.toList ds p := hA0
  rw [Try.params7] at hA hval
  obtain ⟨v0, vs0, d0, ds0, p0, q0, hargs, rfl, rfl, h0, r0⟩ := trodAll_cons hA
  obtain ⟨rfl, rfl, rfl⟩ := trodAll_nil r0
  obtain rfl : args = #[v0] := by cases args; simp_all
  obtain ⟨rfl, rfl⟩ := trodVars_none hV
  have k0 := h0
  have lt0 : ∀ x ∈ p0, x.block < W.heap.size := by obtain ⟨m, hm⟩ := k0; exact DataW.trod_lt m _ _ _ hm
  obtain ⟨a0, len0, cap0, rfl⟩ := okWide_slice Try.underlying22 (hval 0 22 v0 rfl rfl)
  obtain ⟨z0, w0⟩ : ∃ zs, IsRow .u8 W a0 len0 cap0 zs := by
    obtain ⟨fuel, hf⟩ := h0
    rcases open_ints Try.underlying22 Try.underlying5 (by kernel_rfl) hf with ⟨hcs, _⟩ | ⟨x, l, c, zs, hcs, _, hl, hm, hz, _, hcell, hwz⟩
    · simp [Value.cells] at hcs
      obtain ⟨rfl, rfl, rfl⟩ := hcs
      exact ⟨[], .inl ⟨rfl, rfl, rfl, rfl⟩⟩
    · simp [Value.cells] at hcs
      obtain ⟨rfl, rfl, rfl⟩ := hcs
      exact ⟨zs, .inr ⟨_, rfl, hl, hm, by simpa using hz, hcell, hwz⟩⟩
  clear hA0 hval0
  refine (walk a0 len0 cap0 z0 W w0).mono fun e W' ⟨he, bel⟩ => ?_
  subst he
  exact ⟨_, rfl, _, _, _, [], _, [], hW', trodAll_mk1 (shut_bool Try.underlying4 _), (trodAll_cons_mk (Below.trod laidOut (by kernel_rfl) (of_decide_eq_true (by kernel_rfl)) k0 bel lt0) trodAll_mk0), rfl, bel.frame _, fun h => by cases h⟩

theorem over : Rows.matchRunsRow.holds Try.pinned (OpenSpec.ofChange Rows.matchRunsSpec) :=
  OpenClaim.holds_of_wide 7 Try.f7 rfl rfl rfl rfl rfl rfl rfl ⟨rfl, rfl, rfl, rfl, rfl⟩ rfl rfl rfl rfl rfl (by kernel_rfl) Try.func7 (by kernel_rfl)
    (of_decide_eq_true (by kernel_rfl)) (by unfold Func.isWrapper; first | (rw [if_pos (by decide +kernel)]; kernel_rfl) | (rw [if_neg (by decide +kernel)]; exact ⟨rfl, rfl⟩))
    (fun os started H enc _ => lifted os started H enc)

/-- The statement. -/
theorem proved : Rows.MatchRunsSaid := over
#print axioms proved
end Go.Proofs.Ytfdlillaoadpkaa.matchRuns
