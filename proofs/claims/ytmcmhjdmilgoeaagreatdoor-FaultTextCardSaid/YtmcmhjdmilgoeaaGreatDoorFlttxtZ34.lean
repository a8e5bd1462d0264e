/- Part 34 of the proof: Open5, Open7. -/
import Derived.Test.YtmcmhjdmilgoeaaGreatDoorFlttxtZ33
import Derived.Stop.LaidErr
namespace Go.Abs
open Go Go.RowKit Go.ChangeShapes Go.WideShapes Go.ChangeAt Go.Deep
section
variable {H : Type} {enc : TypeId × Value → H} {P : Program} {W : World} {t e : TypeId} {base : Nat} {v : Value} {d : DataW H} {ps : List MemPlace}
end
/-- a variable that holds an error, as a value of the layer -/
theorem rel_errg {P : Program} {W : World} {name : String} {g : Nat} {tp : TypeId} {x : Value} (hg : P.globalNamed name = some g) (h : W.var? P name = some #[.iface tp x]) : Rel (allSt W) W noGh errG (.pointer (some ⟨g, 0, none⟩)) := by
  have hc : W.cell? ⟨g, 0, none⟩ = some (.iface tp x) := by
    have := World.var?_cell hg h 0
    simpa using this
  unfold errG
  have hs : allSt W g := block_of_cell hc
  have := Rel.elem (St := allSt W) (w := W) noGh 1 1 (fun _ _ => V.ifc true) 0 0 g 0 (fun _ _ => .iface tp x) (by omega) (fun _ => hs) (fun i j hi hj => by
    obtain rfl : i = 0 := by omega
    obtain rfl : j = 0 := by omega
    exact hc) (fun _ _ _ _ => rfl) (fun _ _ _ _ => .ifc _ _ _ ⟨_, _, rfl⟩)
  exact this
end Go.Abs
namespace Go.Abs
open Go
theorem rel_intg {W : World} {g : Nat} {m : Int} (hc : W.cell? ⟨g, 0, none⟩ = some (.int .i64 m)) : Rel (allSt W) W noGh (intG m) (.pointer (some ⟨g, 0, none⟩)) := by
  have hs : allSt W g := block_of_cell hc
  have := Rel.elem (St := allSt W) (w := W) noGh 1 1 (fun _ _ => V.int .i64 m) 0 0 g 0 (fun _ _ => .int .i64 m) (by omega) (fun _ => hs) (fun i j hi hj => by
    obtain rfl : i = 0 := by omega
    obtain rfl : j = 0 := by omega
    exact hc) (fun _ _ _ _ => rfl) (fun _ _ _ _ => .int _ _ _)
  exact this
end Go.Abs
