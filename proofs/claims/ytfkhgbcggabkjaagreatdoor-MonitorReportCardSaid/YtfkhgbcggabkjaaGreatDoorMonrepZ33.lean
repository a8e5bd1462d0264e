/- Part 33 of the proof: Card54_9b. -/
import Derived.Test.YtfkhgbcggabkjaaGreatDoorMonrepZ32
import Derived.JoinedCond
namespace Go.Proofs.YtfkhgbcggabkjaaGreatDoor.monitorReport
open Go Go.ChangeShapes Go.WideShapes Go.ChangeAt Go.RowKit Go.Abs
theorem jf {P:Program} {f:FuncId} {fn:Func} {s:ChangeSpec} {c:OpenClaim} (k1:(c.wf (OpenSpec.ofChange s))=true) (k2:laidOutB P=true) (k3:mapsRowed P=true) (g2:(fn.params.all (P.readableRec ·)&&namedTie P c.named s.vars&&(c.stops==[])&&(P.stops==[])&&(c.knobs==[])&&(P.stopKnobs==[]))=true)
  (k10:(c.inPlace==P.inPlace f)=true) (k11:(c.unfollowed==P.unfollowed f)=true) (k12:(c.recurses==P.recurses f)=true) (k13:(c.named==P.varsNamed f)=true)
  (g3 : ((c.maps==(fn.params.toList++s.plain.varTypes P).any (P.mapsRec ·))&&(c.ifaces==(fn.params.toList++s.plain.varTypes P).any (P.ifacesRec ·))&&(c.mapsOut==P.mapsAmong fn.resultTypes.toList)&&
 (c.loops==(fn.params.toList++s.plain.varTypes P).any (P.loopsFrom ·))&&(c.wideKeys==(fn.params.toList++s.plain.varTypes P++fn.resultTypes.toList).any (P.wideKeysFrom ·))&&
 s.vars.all (P.varReadable ·)&&fn.resultTypes.all (fun t=>P.readableRec t&&decide (t<P.types.size))&&(c.ifacesOut==fn.resultTypes.toList.any (P.ifacesRec ·))&&(c.loopsOut==fn.resultTypes.toList.any (P.loopsFrom ·))&&c.shortTexts.isNone)=true)
  (g4:((c.plainKeys==P.plainKeys)&&P.stopsHeard&&P.mayEnter&&(c.lifted==P.liftsFinal)&&(P.make==some c.make))=true)
  (g5 : ((c.kinds==(if c.domain.isEmpty then[]else fn.params.toList.map fun t=>match P.underlying t with|some (.int k)=>some k|_=>none))&&(c.pinned==c.pinnedBy)&&
 (c.veiled==(fn.params.toList++s.plain.varTypes P++fn.resultTypes.toList).any (P.veiledRec ·))&&c.veiledFits P fn.params.toList (fn.params.toList++s.plain.varTypes P++fn.resultTypes.toList))=true):joinedFacts P f fn s c=true:=by
 simp only[joinedFacts,aaL]at *;simp only[k1,k2,k3,g2,k10,k11,k12,k13,g3,g4,g5,and_self];exact⟨⟨⟨⟨trivial,g5.1.1.1⟩,trivial⟩,trivial⟩,trivial⟩
theorem k3 :mapsRowed Tryz.prog=true:=by kernel_rfl
theorem k10 :(Rows.monitorReportRow.inPlace==Tryz.prog.inPlace 9)=true:=by kernel_rfl
theorem k11 :(Rows.monitorReportRow.unfollowed==Tryz.prog.unfollowed 9)=true:=by kernel_rfl
theorem k12 :(Rows.monitorReportRow.recurses==Tryz.prog.recurses 9)=true:=by kernel_rfl
theorem k13 :(Rows.monitorReportRow.named==Tryz.prog.varsNamed 9)=true:=by kernel_rfl
end Go.Proofs.YtfkhgbcggabkjaaGreatDoor.monitorReport
