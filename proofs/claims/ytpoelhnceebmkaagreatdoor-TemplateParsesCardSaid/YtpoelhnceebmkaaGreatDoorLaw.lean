/- The rows' last step for a law that returns true and makes new memory only. No conditions of ours. -/
import Derived.Test.YtpoelhnceebmkaaGreatDoorPost
import Derived.Test.YtpoelhnceebmkaaGreatDoorOpen
namespace Go.Proofs.YtpoelhnceebmkaaGreatDoor
open Go Go.RowKit Go.WideShapes Go.ChangeShapes Go.Joins Go.ChangeMaps Go.Deep
section
variable {H : Type} {enc : TypeId × Value → H} {P : Program}
theorem law_post {f : Func} {s : ChangeSpec} {W W' : World} {args : Array Value} {ds gs : List (DataW H)} {before : List MemPlace}
    (hs : s.vars = []) (hr : f.resultTypes = #[4]) (u4 : P.underlying 4 = some .bool) (hl : laidOutB P = true) (hp : (f.params.toList.all fun t => P.readableRec t && decide (t < P.types.size)) = true)
    (h1 : (s.fn H ds).results = [.lit (.bool true)]) (h2 : (s.fn H ds).args = ds) (h3 : (s.fn H ds).vars = [])
    (hW : DataW.Whole enc P f.params.toList s.vars false W args.toList ds gs before) (hb : New W W') : s.post enc P f false true false false W args (.bool true) W' := by
  have hW' := hW
  obtain ⟨p, q, hA, hV, rfl, hfz, hnd⟩ := hW
  have hlt := fun x hx => hW'.lt x hx
  rw [hs] at hV
  obtain ⟨rfl, rfl⟩ := trodVars_none hV
  refine post_of_below (pa := p) (pv := []) hW' (fun _ _ _ => ?_) (fun sp hsp => ?_) (fun _ _ => ?_) rfl hb (ok_one hr rfl (okWide_bool_mk u4 _))
  · rw [List.append_nil, h1, hr]; exact trodAll_cons_mk (shut_bool u4 _) trodAll_mk0
  · rw [List.append_nil, h2]
    exact trodAll_stays hl hb hp hA (fun x hx => hlt x (by simp [hx])) (fun x hx => hsp x (by simp [hx]))
  · rw [List.append_nil, h3, hs]; rfl
end
theorem laidOut_ : laidOutB Tryz.prog = true := by kernel_rfl
theorem own_ : ownKnob Tryz.prog.godebug = none := by kernel_rfl

end Go.Proofs.YtpoelhnceebmkaaGreatDoor
