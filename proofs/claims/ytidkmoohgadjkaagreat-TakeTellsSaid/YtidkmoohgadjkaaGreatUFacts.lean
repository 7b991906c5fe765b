/- The closed facts of a row, asked in parts. -/
import Derived.JoinedOf
import Derived.KernelRfl
set_option linter.unusedVariables false
namespace Go.Proofs.YtidkmoohgadjkaaGreat
open Go
section
variable (P:Program) (f:FuncId) (fn:Func) (s:ChangeSpec) (c:OpenClaim)
def factA:Bool:=c.wf (OpenSpec.ofChange s)&&laidOutB P&&mapsRowed P &&
 fn.params.all (P.readableRec ·)&&namedTie P c.named s.vars &&
 (c.stops == [])&&(P.stops == [])&&(c.knobs == [])&&(P.stopKnobs == [])
def factB:Bool:=(c.inPlace == P.inPlace f)
def factC:Bool:=(c.unfollowed == P.unfollowed f)
def factD:Bool:=(c.recurses == P.recurses f)
def factE:Bool:=(c.named == P.varsNamed f)
def factF:Bool:=(c.maps == (fn.params.toList++s.plain.varTypes P).any (P.mapsRec ·))&&(c.ifaces == (fn.params.toList++s.plain.varTypes P).any (P.ifacesRec ·))&&(c.mapsOut == P.mapsAmong fn.resultTypes.toList) &&
 (c.loops == (fn.params.toList++s.plain.varTypes P).any (P.loopsFrom ·))&&(c.wideKeys == (fn.params.toList++s.plain.varTypes P++fn.resultTypes.toList).any (P.wideKeysFrom ·)) &&
 s.vars.all (P.varReadable ·)&&fn.resultTypes.all (fun t=>P.readableRec t&&decide (t < P.types.size))&&(c.ifacesOut == fn.resultTypes.toList.any (P.ifacesRec ·))&&(c.loopsOut == fn.resultTypes.toList.any (P.loopsFrom ·))&&(c.plainKeys == P.plainKeys)&&c.shortTexts.isNone
def factG:Bool:=P.stopsHeard&&P.mayEnter&&(c.lifted == P.liftsFinal)
def factH:Bool:=(P.make == some c.make)&&(c.kinds == (if c.domain.isEmpty then [] else fn.params.toList.map fun t=>match P.underlying t with | some (.int k)=>some k | _=>none))&&(c.pinned == c.pinnedBy) &&
 (c.veiled == (fn.params.toList++s.plain.varTypes P++fn.resultTypes.toList).any (P.veiledRec ·))&&c.veiledFits P fn.params.toList (fn.params.toList++s.plain.varTypes P++fn.resultTypes.toList)
end
theorem joined_of {P:Program} {f:FuncId} {fn:Func} {s:ChangeSpec} {c:OpenClaim} (a:factA P fn s c=true) (b:factB P f c=true) (cc:factC P f c=true) (d:factD P f c=true) (e:factE P f c=true) (ff:factF P fn s c=true) (g:factG P c=true) (h:factH P fn s c=true):joinedFacts P f fn s c=true:=by
 unfold factA at a
 unfold factB at b
 unfold factC at cc
 unfold factD at d
 unfold factE at e
 unfold factF at ff
 unfold factG at g
 unfold factH at h
 unfold joinedFacts
 simp only [Bool.and_eq_true] at a ff g h ⊢
 obtain ⟨⟨⟨⟨⟨⟨⟨⟨a1,a2⟩,a3⟩,a4⟩,a5⟩,a6⟩,a7⟩,a8⟩,a9⟩:=a
 obtain ⟨⟨⟨⟨⟨⟨⟨⟨⟨⟨f1,f2⟩,f3⟩,f4⟩,f5⟩,f6⟩,f7⟩,f8⟩,f9⟩,f10⟩,f11⟩:=ff
 obtain ⟨⟨g1,g2⟩,g3⟩:=g
 obtain ⟨⟨⟨⟨h1,h2⟩,h3⟩,h4⟩,h5⟩:=h
 exact ⟨⟨⟨⟨⟨⟨⟨⟨⟨⟨⟨⟨⟨⟨⟨⟨⟨⟨⟨⟨⟨⟨⟨⟨⟨⟨⟨⟨⟨⟨⟨a1,a2⟩,a3⟩,a4⟩,a5⟩,a6⟩,a7⟩,a8⟩,a9⟩,b⟩,cc⟩,d⟩,e⟩,f1⟩,f2⟩,f3⟩,f4⟩,f5⟩,f6⟩,f7⟩,f8⟩,f9⟩,f10⟩,f11⟩,g1⟩,g2⟩,g3⟩,h1⟩,h2⟩,h3⟩,h4⟩,h5⟩
end Go.Proofs.YtidkmoohgadjkaaGreat
