/- The statement TaskKeepsSaid is proved for every input. Its only conditions are those that the statement itself has. -/
import Derived.Test.YtoommmeapdkopaaRows
import Derived.Test.YtoommmeapdkopaaZT
import Derived.Test.YtoommmeapdkopaaZS6
import Derived.ProofKit
namespace Go.Proofs.Ytoommmeapdkopaa
open Go.ChangeShapes Go.WideShapes Go.ChangeAt Go.RowKit Go.Eng

theorem Try.own : ownKnob Try.prog.godebug = none := by kernel_rfl
theorem Try.laidOut : laidOutB Try.prog = true := by kernel_rfl

theorem fShop : fits Try.prog 6 E.tShop 25 = true := by kernel_rfl

theorem below_of {w w' : World} {φ : Phi} {A A' : Nat → Prop} (e : Ext noPhi A w φ A' w') : Below w.heap.size w w' :=
  ⟨e.calm.1, e.calm.2.1.2, e.calm.2.1.1, e.size, fun k hk => e.old k hk (no_ran k)⟩

set_option maxRecDepth 100000 in
theorem taskKeeps_lifted (os : Os) (started : os.Started) (H : Type) (enc : TypeId × Value → H) :
    ReturnsInHanded {} Try.checked os 8 .any (Rows.taskKeepsSpec.pre6 enc Try.prog Try.f8 Rows.taskKeepsRow.domain false) (Rows.taskKeepsSpec.post enc Try.prog Try.f8 false true false false) := by
  refine returnsInHanded_of_change (C := Try.checked) Try.own started (by kernel_rfl) Try.func8
    (ChangeSpec.witness6 (enc := enc) (C := Try.checked) false ⟨#[], #[.agg #[.slice none 0 0, .slice none 0 0]], []⟩ 8 (by kernel_rfl) (by kernel_rfl) (by kernel_rfl) (by kernel_rfl)) ?_
  intro W base args ds gs before hval0 hW hcnd _
  have hval : ∀ (j : Nat) t v, Try.f8.params[j]? = some t → args[j]? = some v → Value.okWide Try.prog W .any base t v := hval0
  have hW' := hW
  obtain ⟨p, q, hA0, hV, rfl, hfz, hnd⟩ := hW
  have hA : DataW.TrodAll enc Try.prog W 0 (fun _ => true) true Try.f8.params.toList args.toList ds p := hA0
  rw [Try.params8] at hA hval
  obtain ⟨v0, d0, rfl, rfl, h0⟩ := trodAll_one hA
  obtain ⟨rfl, rfl⟩ := trodVars_none hV
  obtain ⟨c0, rfl, _⟩ := okWide_struct Try.underlying25 (hval 0 25 v0 rfl rfl)
  obtain ⟨x0, a0, r0, s0⟩ := arg_struct fShop h0
  clear hA0 hval0
  simp only [List.append_nil] at hW'
  obtain ⟨n, r, H', hr, rfl⟩ := E.taskKeeps_true s0
  refine (call_sound E.ties hr (A := fun b => b < W.heap.size) (w := W) (fun _ h => h) (us := #[.agg c0]) rfl (fun i hi => ?_)).mono fun e W' he => ?_
  · match i, hi with
    | 0, _ => exact r0
  obtain ⟨u, φ', H1, A', rfl, hu, hg, hext⟩ := he
  obtain rfl := hu.bool'
  have hb := below_of hext
  have hlt : ∀ z ∈ p, z.block < W.heap.size := fun z hz => hW'.lt z hz
  exact ⟨_, rfl, post_of_same (pa := p) (pv := []) hW' (fun _ _ _ => trodAll_mk1 (shut_bool Try.underlying4 true))
    (fun sp hsp => trodAll_mk1
      (Go.WideElems.Trod_stays Try.laidOut (by kernel_rfl) (of_decide_eq_true (by kernel_rfl)) h0 (fun z hz => hb.same (hlt z hz)) (fun z hz => hsp z hz)))
    (fun _ _ => rfl) (by simp) (hb.frame _) (fun a => hext.calm.2.2 a) (ok_one (by kernel_rfl) rfl (okWide_bool_mk Try.underlying4 true))⟩

theorem taskKeeps_holds : Rows.TaskKeepsSaid :=
  OpenClaim.holds_of_wide 8 Try.f8 rfl rfl rfl rfl rfl rfl rfl ⟨rfl, rfl, rfl, rfl, rfl⟩ rfl rfl rfl rfl rfl (by kernel_rfl) Try.func8 (by kernel_rfl)
    (of_decide_eq_true (by kernel_rfl)) (by unfold Func.isWrapper; first | (rw [if_pos (by decide +kernel)]; kernel_rfl) | (rw [if_neg (by decide +kernel)]; exact ⟨rfl, rfl⟩))
    (fun os started H enc _ => taskKeeps_lifted os started H enc)
end Go.Proofs.Ytoommmeapdkopaa
