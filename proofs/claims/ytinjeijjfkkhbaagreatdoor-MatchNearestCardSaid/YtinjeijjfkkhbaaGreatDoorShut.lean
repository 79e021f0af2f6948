/-
  THE LAST STEP OF A LAW WHOSE ARGUMENTS HOLD NO PLACES (texts alone), where of the world behind the walk 'Below' is known.
-/
import Derived.Below
import Derived.ChangeSame
import Derived.ProofKit
namespace Go.Proofs.YtinjeijjfkkhbaaGreatDoor
open Go.RowKit Go.WideShapes Go.ChangeShapes

theorem post_texts {H : Type} {enc : TypeId × Value → H} {P : Program} {f : Func} {s : ChangeSpec} {apart fresh handsOn again : Bool} {W W' : World} {args : Array Value} {v : Value} {ds gs : List (DataW H)}
    (hW : DataW.Whole enc P f.params.toList s.vars apart W args.toList ds gs [])
    (hres : ∀ (b : Nat) (sp : Nat → Bool) (hd : Bool), DataW.TrodAll enc P W' b sp hd f.resultTypes.toList (v.resultList f.resultTypes.size) (s.fn H (ds ++ gs)).results [])
    (hargs : ∀ sp : Nat → Bool, DataW.TrodAll enc P W' 0 sp true f.params.toList args.toList (s.fn H (ds ++ gs)).args [])
    (hvars : ∀ sp : Nat → Bool, DataW.TrodVars enc P W' sp s.vars (s.fn H (ds ++ gs)).vars [])
    (hb : Below W.heap.size W W')
    (hok : ∀ (j : Nat) (t : TypeId) (r : Value), f.resultTypes[j]? = some t → (v.resultList f.resultTypes.size)[j]? = some r → Value.okWide P W' .any 0 t r) :
    s.post enc P f apart fresh handsOn again W args v W' := by
  refine ⟨ds, gs, [], [], [], [], hW, hres _ _ _, hargs _, hvars _, World.keptBut_mono (fun p hp => ?_) (hb.frame (fun _ => False)), fun _ => ?_⟩
  · exact hp.elim
  · refine ⟨hok, _, _, [], ⟨[], [], trodAll_append (hargs _) (hres _ _ _), hvars _, rfl, fun b off hp => ?_, fun _ => ?_⟩, fun p hp _ => ?_⟩
    · cases hp
    · simp
    · cases hp

end Go.Proofs.YtinjeijjfkkhbaaGreatDoor
