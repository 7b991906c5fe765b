/- The closed facts of a row, asked in parts. -/
import Derived.JoinedOf
import Derived.KernelRfl
set_option linter.unusedVariables false
namespace Go.Proofs.YtidkmoohgadjkaaGreat
open Go
section
variable (P:Program) (f:FuncId) (fn:Func) (s:ChangeSpec) (c:OpenClaim)
def qw1:Bool:=c.wf (OpenSpec.ofChange s)&&laidOutB P&&mapsRowed P &&
 fn.params.all (P.readableRec ·)&&namedTie P c.named s.vars &&
 (c.stops == [])&&(P.stops == [])&&(c.knobs == [])&&(P.stopKnobs == [])
def qw2:Bool:=(c.inPlace == P.inPlace f)
def qw3:Bool:=(c.unfollowed == P.unfollowed f)
def qw4:Bool:=(c.recurses == P.recurses f)
def qw5:Bool:=(c.named == P.varsNamed f)
def qw6:Bool:=(c.maps == (fn.params.toList++s.plain.varTypes P).any (P.mapsRec ·))&&(c.ifaces == (fn.params.toList++s.plain.varTypes P).any (P.ifacesRec ·))&&(c.mapsOut == P.mapsAmong fn.resultTypes.toList) &&
 (c.loops == (fn.params.toList++s.plain.varTypes P).any (P.loopsFrom ·))&&(c.wideKeys == (fn.params.toList++s.plain.varTypes P++fn.resultTypes.toList).any (P.wideKeysFrom ·)) &&
 s.vars.all (P.varReadable ·)&&fn.resultTypes.all (fun t=>P.readableRec t&&decide (t < P.types.size))&&(c.ifacesOut == fn.resultTypes.toList.any (P.ifacesRec ·))&&(c.loopsOut == fn.resultTypes.toList.any (P.loopsFrom ·))&&(c.plainKeys == P.plainKeys)&&c.shortTexts.isNone
def qw7:Bool:=P.stopsHeard&&P.mayEnter&&(c.lifted == P.liftsFinal)
def qw8:Bool:=(P.make == some c.make)&&(c.kinds == (if c.domain.isEmpty then [] else fn.params.toList.map fun t=>match P.underlying t with | some (.int k)=>some k | _=>none))&&(c.pinned == c.pinnedBy) &&
 (c.veiled == (fn.params.toList++s.plain.varTypes P++fn.resultTypes.toList).any (P.veiledRec ·))&&c.veiledFits P fn.params.toList (fn.params.toList++s.plain.varTypes P++fn.resultTypes.toList)
end
theorem qq1 {P:Program} {f:FuncId} {fn:Func} {s:ChangeSpec} {c:OpenClaim} (a:qw1 P fn s c=true) (b:qw2 P f c=true) (cc:qw3 P f c=true) (d:qw4 P f c=true) (e:qw5 P f c=true) (ff:qw6 P fn s c=true) (g:qw7 P c=true) (h:qw8 P fn s c=true):joinedFacts P f fn s c=true:=by
 unfold qw1 at a
 unfold qw2 at b
 unfold qw3 at cc
 unfold qw4 at d
 unfold qw5 at e
 unfold qw6 at ff
 unfold qw7 at g
 unfold qw8 at h
 unfold joinedFacts
 simp only [Bool.and_eq_true] at a ff g h ⊢
 obtain ⟨⟨⟨⟨⟨⟨⟨⟨a1,a2⟩,a3⟩,a4⟩,a5⟩,a6⟩,a7⟩,a8⟩,a9⟩:=a
 obtain ⟨⟨⟨⟨⟨⟨⟨⟨⟨⟨f1,f2⟩,f3⟩,f4⟩,f5⟩,f6⟩,f7⟩,f8⟩,f9⟩,f10⟩,f11⟩:=ff
 obtain ⟨⟨g1,g2⟩,g3⟩:=g
 obtain ⟨⟨⟨⟨h1,h2⟩,h3⟩,h4⟩,h5⟩:=h
 exact ⟨⟨⟨⟨⟨⟨⟨⟨⟨⟨⟨⟨⟨⟨⟨⟨⟨⟨⟨⟨⟨⟨⟨⟨⟨⟨⟨⟨⟨⟨⟨a1,a2⟩,a3⟩,a4⟩,a5⟩,a6⟩,a7⟩,a8⟩,a9⟩,b⟩,cc⟩,d⟩,e⟩,f1⟩,f2⟩,f3⟩,f4⟩,f5⟩,f6⟩,f7⟩,f8⟩,f9⟩,f10⟩,f11⟩,g1⟩,g2⟩,g3⟩,h1⟩,h2⟩,h3⟩,h4⟩,h5⟩
end Go.Proofs.YtidkmoohgadjkaaGreat
