import Derived.Test.YtnlhhjmheghnnaaHemZ
set_option linter.unusedSimpArgs false
namespace Go.Hem
structure ID where
  site : Int
  number : Int
  deriving DecidableEq,Inhabited
def ID.enc (x : ID) : AV:=.agg [.sc (.int .i64 x.site),.sc (.int .i64 x.number)]
theorem ID.enc_eq {x : ID} : ID.enc x = .agg [.sc (.int .i64 x.site),.sc (.int .i64 x.number)]:=rfl
theorem ID.enc_len (x : ID) : (ID.enc x).cells.length = 2:=rfl
theorem ID.enc_plain (x : ID) : AV.plain2 (ID.enc x) = true:=rfl
theorem ID.enc_closed (x : ID) : AV.closedB (ID.enc x) = true:=rfl
structure Place where
  kind : Int
  part : Int
  staff : Int
  measure : Int
  voice : Int
  event : Int
  spanner : Int
  deriving DecidableEq,Inhabited
def Place.enc (x : Place) : AV:=.agg [.sc (.int .i64 x.kind),.sc (.int .i64 x.part),.sc (.int .i64 x.staff),.sc (.int .i64 x.measure),.sc (.int .i64 x.voice),.sc (.int .i64 x.event),.sc (.int .i64 x.spanner)]
theorem Place.enc_eq {x : Place} : Place.enc x = .agg [.sc (.int .i64 x.kind),.sc (.int .i64 x.part),.sc (.int .i64 x.staff),.sc (.int .i64 x.measure),.sc (.int .i64 x.voice),.sc (.int .i64 x.event),.sc (.int .i64 x.spanner)]:=rfl
theorem Place.enc_len (x : Place) : (Place.enc x).cells.length = 7:=rfl
theorem Place.enc_plain (x : Place) : AV.plain2 (Place.enc x) = true:=rfl
theorem Place.enc_closed (x : Place) : AV.closedB (Place.enc x) = true:=rfl
structure O where
  id : ID
  place : Place
  deriving DecidableEq,Inhabited
def O.enc (x : O) : AV:=.agg [.sc (.int .i64 x.id.site),.sc (.int .i64 x.id.number),.sc (.int .i64 x.place.kind),.sc (.int .i64 x.place.part),.sc (.int .i64 x.place.staff),.sc (.int .i64 x.place.measure),.sc (.int .i64 x.place.voice),.sc (.int .i64 x.place.event),.sc (.int .i64 x.place.spanner)]
theorem O.enc_eq {x : O} : O.enc x = .agg [.sc (.int .i64 x.id.site),.sc (.int .i64 x.id.number),.sc (.int .i64 x.place.kind),.sc (.int .i64 x.place.part),.sc (.int .i64 x.place.staff),.sc (.int .i64 x.place.measure),.sc (.int .i64 x.place.voice),.sc (.int .i64 x.place.event),.sc (.int .i64 x.place.spanner)]:=rfl
theorem O.enc_len (x : O) : (O.enc x).cells.length = 9:=rfl
theorem O.enc_plain (x : O) : AV.plain2 (O.enc x) = true:=rfl
theorem O.enc_closed (x : O) : AV.closedB (O.enc x) = true:=rfl
structure Interval where
  steps : Int
  semitones : Int
  deriving DecidableEq,Inhabited
def Interval.enc (x : Interval) : AV:=.agg [.sc (.int .i64 x.steps),.sc (.int .i64 x.semitones)]
theorem Interval.enc_eq {x : Interval} : Interval.enc x = .agg [.sc (.int .i64 x.steps),.sc (.int .i64 x.semitones)]:=rfl
theorem Interval.enc_len (x : Interval) : (Interval.enc x).cells.length = 2:=rfl
theorem Interval.enc_plain (x : Interval) : AV.plain2 (Interval.enc x) = true:=rfl
theorem Interval.enc_closed (x : Interval) : AV.closedB (Interval.enc x) = true:=rfl
structure Staff where
  id : ID
  clef : Int
  deriving DecidableEq,Inhabited
def Staff.enc (x : Staff) : AV:=.agg [.sc (.int .i64 x.id.site),.sc (.int .i64 x.id.number),.sc (.int .i64 x.clef)]
theorem Staff.enc_eq {x : Staff} : Staff.enc x = .agg [.sc (.int .i64 x.id.site),.sc (.int .i64 x.id.number),.sc (.int .i64 x.clef)]:=rfl
theorem Staff.enc_len (x : Staff) : (Staff.enc x).cells.length = 3:=rfl
theorem Staff.enc_plain (x : Staff) : AV.plain2 (Staff.enc x) = true:=rfl
theorem Staff.enc_closed (x : Staff) : AV.closedB (Staff.enc x) = true:=rfl
structure Part where
  id : ID
  name : ByteArray
  transpose : Interval
  staves : Sl Staff
  deriving DecidableEq,Inhabited
def Part.enc (x : Part) : AV:=.agg [.sc (.int .i64 x.id.site),.sc (.int .i64 x.id.number),.sc (.str x.name),.sc (.int .i64 x.transpose.steps),.sc (.int .i64 x.transpose.semitones),slm Staff.enc x.staves]
theorem Part.enc_eq {x : Part} : Part.enc x = .agg [.sc (.int .i64 x.id.site),.sc (.int .i64 x.id.number),.sc (.str x.name),.sc (.int .i64 x.transpose.steps),.sc (.int .i64 x.transpose.semitones),slm Staff.enc x.staves]:=rfl
theorem Part.enc_len (x : Part) : (Part.enc x).cells.length = 6:=rfl
theorem Part.enc_closed (x : Part) : AV.closedB (Part.enc x) = true:=by
  simp only [Part.enc,AV.closedB,AV.closedBs,Bool.and_self,Bool.and_true,Bool.true_and,closedB_slm Staff.enc_closed]
theorem Part.enc_plain (x : Part) : AV.plain2 (Part.enc x) = true:=by
  simp only [Part.enc,AV.plain2,List.all_cons,List.all_nil,pl_sc,Bool.and_self,Bool.and_true,Bool.true_and,plain1_slm Staff.enc_closed]
structure Metre where
  count : Int
  unit : Int
  g0 : Int
  g1 : Int
  g2 : Int
  g3 : Int
  g4 : Int
  g5 : Int
  deriving DecidableEq,Inhabited
def Metre.enc (x : Metre) : AV:=.agg [.sc (.int .i64 x.count),.sc (.int .i64 x.unit),.sc (.int .i64 x.g0),.sc (.int .i64 x.g1),.sc (.int .i64 x.g2),.sc (.int .i64 x.g3),.sc (.int .i64 x.g4),.sc (.int .i64 x.g5)]
theorem Metre.enc_eq {x : Metre} : Metre.enc x = .agg [.sc (.int .i64 x.count),.sc (.int .i64 x.unit),.sc (.int .i64 x.g0),.sc (.int .i64 x.g1),.sc (.int .i64 x.g2),.sc (.int .i64 x.g3),.sc (.int .i64 x.g4),.sc (.int .i64 x.g5)]:=rfl
theorem Metre.enc_len (x : Metre) : (Metre.enc x).cells.length = 8:=rfl
theorem Metre.enc_plain (x : Metre) : AV.plain2 (Metre.enc x) = true:=rfl
theorem Metre.enc_closed (x : Metre) : AV.closedB (Metre.enc x) = true:=rfl
structure ClefChange where
  at_ : Int
  clef : Int
  deriving DecidableEq,Inhabited
def ClefChange.enc (x : ClefChange) : AV:=.agg [.sc (.int .i64 x.at_),.sc (.int .i64 x.clef)]
theorem ClefChange.enc_eq {x : ClefChange} : ClefChange.enc x = .agg [.sc (.int .i64 x.at_),.sc (.int .i64 x.clef)]:=rfl
theorem ClefChange.enc_len (x : ClefChange) : (ClefChange.enc x).cells.length = 2:=rfl
theorem ClefChange.enc_plain (x : ClefChange) : AV.plain2 (ClefChange.enc x) = true:=rfl
theorem ClefChange.enc_closed (x : ClefChange) : AV.closedB (ClefChange.enc x) = true:=rfl
structure Tuplet where
  first : Int
  count : Int
  actual : Int
  normal : Int
  deriving DecidableEq,Inhabited
def Tuplet.enc (x : Tuplet) : AV:=.agg [.sc (.int .i64 x.first),.sc (.int .i64 x.count),.sc (.int .i64 x.actual),.sc (.int .i64 x.normal)]
theorem Tuplet.enc_eq {x : Tuplet} : Tuplet.enc x = .agg [.sc (.int .i64 x.first),.sc (.int .i64 x.count),.sc (.int .i64 x.actual),.sc (.int .i64 x.normal)]:=rfl
theorem Tuplet.enc_len (x : Tuplet) : (Tuplet.enc x).cells.length = 4:=rfl
theorem Tuplet.enc_plain (x : Tuplet) : AV.plain2 (Tuplet.enc x) = true:=rfl
theorem Tuplet.enc_closed (x : Tuplet) : AV.closedB (Tuplet.enc x) = true:=rfl
structure Pitch where
  step : Int
  alter : Int
  octave : Int
  deriving DecidableEq,Inhabited
def Pitch.enc (x : Pitch) : AV:=.agg [.sc (.int .i64 x.step),.sc (.int .i64 x.alter),.sc (.int .i64 x.octave)]
theorem Pitch.enc_eq {x : Pitch} : Pitch.enc x = .agg [.sc (.int .i64 x.step),.sc (.int .i64 x.alter),.sc (.int .i64 x.octave)]:=rfl
theorem Pitch.enc_len (x : Pitch) : (Pitch.enc x).cells.length = 3:=rfl
theorem Pitch.enc_plain (x : Pitch) : AV.plain2 (Pitch.enc x) = true:=rfl
theorem Pitch.enc_closed (x : Pitch) : AV.closedB (Pitch.enc x) = true:=rfl
structure Head where
  pitch : Pitch
  tied : Bool
  shown : Int
  deriving DecidableEq,Inhabited
def Head.enc (x : Head) : AV:=.agg [.sc (.int .i64 x.pitch.step),.sc (.int .i64 x.pitch.alter),.sc (.int .i64 x.pitch.octave),.sc (.bool x.tied),.sc (.int .i64 x.shown)]
theorem Head.enc_eq {x : Head} : Head.enc x = .agg [.sc (.int .i64 x.pitch.step),.sc (.int .i64 x.pitch.alter),.sc (.int .i64 x.pitch.octave),.sc (.bool x.tied),.sc (.int .i64 x.shown)]:=rfl
theorem Head.enc_len (x : Head) : (Head.enc x).cells.length = 5:=rfl
theorem Head.enc_plain (x : Head) : AV.plain2 (Head.enc x) = true:=rfl
theorem Head.enc_closed (x : Head) : AV.closedB (Head.enc x) = true:=rfl
structure Grace where
  pitch : Pitch
  log : Int
  slash : Bool
  deriving DecidableEq,Inhabited
def Grace.enc (x : Grace) : AV:=.agg [.sc (.int .i64 x.pitch.step),.sc (.int .i64 x.pitch.alter),.sc (.int .i64 x.pitch.octave),.sc (.int .i64 x.log),.sc (.bool x.slash)]
theorem Grace.enc_eq {x : Grace} : Grace.enc x = .agg [.sc (.int .i64 x.pitch.step),.sc (.int .i64 x.pitch.alter),.sc (.int .i64 x.pitch.octave),.sc (.int .i64 x.log),.sc (.bool x.slash)]:=rfl
theorem Grace.enc_len (x : Grace) : (Grace.enc x).cells.length = 5:=rfl
theorem Grace.enc_plain (x : Grace) : AV.plain2 (Grace.enc x) = true:=rfl
theorem Grace.enc_closed (x : Grace) : AV.closedB (Grace.enc x) = true:=rfl
structure Syllable where
  text : ByteArray
  link : Int
  deriving DecidableEq,Inhabited
def Syllable.enc (x : Syllable) : AV:=.agg [.sc (.str x.text),.sc (.int .i64 x.link)]
theorem Syllable.enc_eq {x : Syllable} : Syllable.enc x = .agg [.sc (.str x.text),.sc (.int .i64 x.link)]:=rfl
theorem Syllable.enc_len (x : Syllable) : (Syllable.enc x).cells.length = 2:=rfl
theorem Syllable.enc_plain (x : Syllable) : AV.plain2 (Syllable.enc x) = true:=rfl
theorem Syllable.enc_closed (x : Syllable) : AV.closedB (Syllable.enc x) = true:=rfl
structure Val where
  log : Int
  dots : Int
  deriving DecidableEq,Inhabited
def Val.enc (x : Val) : AV:=.agg [.sc (.int .i64 x.log),.sc (.int .i64 x.dots)]
theorem Val.enc_eq {x : Val} : Val.enc x = .agg [.sc (.int .i64 x.log),.sc (.int .i64 x.dots)]:=rfl
theorem Val.enc_len (x : Val) : (Val.enc x).cells.length = 2:=rfl
theorem Val.enc_plain (x : Val) : AV.plain2 (Val.enc x) = true:=rfl
theorem Val.enc_closed (x : Val) : AV.closedB (Val.enc x) = true:=rfl
structure Event where
  id : ID
  kind : Int
  value : Val
  heads : Sl Head
  graces : Sl Grace
  articulations : Int
  ornament : Int
  dynamic : Int
  lyrics : Sl Syllable
  stem : Int
  beam : Int
  deriving DecidableEq,Inhabited
def Event.enc (x : Event) : AV:=.agg [.sc (.int .i64 x.id.site),.sc (.int .i64 x.id.number),.sc (.int .i64 x.kind),.sc (.int .i64 x.value.log),.sc (.int .i64 x.value.dots),slm Head.enc x.heads,slm Grace.enc x.graces,.sc (.int .i64 x.articulations),.sc (.int .i64 x.ornament),.sc (.int .i64 x.dynamic),slm Syllable.enc x.lyrics,.sc (.int .i64 x.stem),.sc (.int .i64 x.beam)]
theorem Event.enc_eq {x : Event} : Event.enc x = .agg [.sc (.int .i64 x.id.site),.sc (.int .i64 x.id.number),.sc (.int .i64 x.kind),.sc (.int .i64 x.value.log),.sc (.int .i64 x.value.dots),slm Head.enc x.heads,slm Grace.enc x.graces,.sc (.int .i64 x.articulations),.sc (.int .i64 x.ornament),.sc (.int .i64 x.dynamic),slm Syllable.enc x.lyrics,.sc (.int .i64 x.stem),.sc (.int .i64 x.beam)]:=rfl
theorem Event.enc_len (x : Event) : (Event.enc x).cells.length = 13:=rfl
theorem Event.enc_closed (x : Event) : AV.closedB (Event.enc x) = true:=by
  simp only [Event.enc,AV.closedB,AV.closedBs,Bool.and_self,Bool.and_true,Bool.true_and,closedB_slm Head.enc_closed,closedB_slm Grace.enc_closed,closedB_slm Syllable.enc_closed]
theorem Event.enc_plain (x : Event) : AV.plain2 (Event.enc x) = true:=by
  simp only [Event.enc,AV.plain2,List.all_cons,List.all_nil,pl_sc,Bool.and_self,Bool.and_true,Bool.true_and,plain1_slm Head.enc_closed,plain1_slm Grace.enc_closed,plain1_slm Syllable.enc_closed]
structure Voice where
  events : Sl Event
  tuplets : Sl Tuplet
  deriving DecidableEq,Inhabited
def Voice.enc (x : Voice) : AV:=.agg [slm Event.enc x.events,slm Tuplet.enc x.tuplets]
theorem Voice.enc_eq {x : Voice} : Voice.enc x = .agg [slm Event.enc x.events,slm Tuplet.enc x.tuplets]:=rfl
theorem Voice.enc_len (x : Voice) : (Voice.enc x).cells.length = 2:=rfl
theorem Voice.enc_closed (x : Voice) : AV.closedB (Voice.enc x) = true:=by
  simp only [Voice.enc,AV.closedB,AV.closedBs,Bool.and_self,Bool.and_true,Bool.true_and,closedB_slm Event.enc_closed,closedB_slm Tuplet.enc_closed]
theorem Voice.enc_plain (x : Voice) : AV.plain2 (Voice.enc x) = true:=by
  simp only [Voice.enc,AV.plain2,List.all_cons,List.all_nil,pl_sc,Bool.and_self,Bool.and_true,Bool.true_and,plain1_slm Event.enc_closed,plain1_slm Tuplet.enc_closed]
structure Cell where
  clefs : Sl ClefChange
  voices : Sl Voice
  deriving DecidableEq,Inhabited
def Cell.enc (x : Cell) : AV:=.agg [slm ClefChange.enc x.clefs,slm Voice.enc x.voices]
theorem Cell.enc_eq {x : Cell} : Cell.enc x = .agg [slm ClefChange.enc x.clefs,slm Voice.enc x.voices]:=rfl
theorem Cell.enc_len (x : Cell) : (Cell.enc x).cells.length = 2:=rfl
theorem Cell.enc_closed (x : Cell) : AV.closedB (Cell.enc x) = true:=by
  simp only [Cell.enc,AV.closedB,AV.closedBs,Bool.and_self,Bool.and_true,Bool.true_and,closedB_slm ClefChange.enc_closed,closedB_slm Voice.enc_closed]
theorem Cell.enc_plain (x : Cell) : AV.plain2 (Cell.enc x) = true:=by
  simp only [Cell.enc,AV.plain2,List.all_cons,List.all_nil,pl_sc,Bool.and_self,Bool.and_true,Bool.true_and,plain1_slm ClefChange.enc_closed,plain1_slm Voice.enc_closed]
structure Tempo where
  at_ : Int
  micros : Int
  ramp : Bool
  deriving DecidableEq,Inhabited
def Tempo.enc (x : Tempo) : AV:=.agg [.sc (.int .i64 x.at_),.sc (.int .i64 x.micros),.sc (.bool x.ramp)]
theorem Tempo.enc_eq {x : Tempo} : Tempo.enc x = .agg [.sc (.int .i64 x.at_),.sc (.int .i64 x.micros),.sc (.bool x.ramp)]:=rfl
theorem Tempo.enc_len (x : Tempo) : (Tempo.enc x).cells.length = 3:=rfl
theorem Tempo.enc_plain (x : Tempo) : AV.plain2 (Tempo.enc x) = true:=rfl
theorem Tempo.enc_closed (x : Tempo) : AV.closedB (Tempo.enc x) = true:=rfl
structure Measure where
  id : ID
  metre : Metre
  length : Int
  fifths : Int
  rstart : Bool
  rend : Int
  endings : Int
  jump : Int
  labels : Int
  swing : Int
  brk : Int
  rehearsal : ByteArray
  tempi : Sl Tempo
  cells : Sl Cell
  deriving DecidableEq,Inhabited
def Measure.enc (x : Measure) : AV:=.agg [.sc (.int .i64 x.id.site),.sc (.int .i64 x.id.number),.sc (.int .i64 x.metre.count),.sc (.int .i64 x.metre.unit),.sc (.int .i64 x.metre.g0),.sc (.int .i64 x.metre.g1),.sc (.int .i64 x.metre.g2),.sc (.int .i64 x.metre.g3),.sc (.int .i64 x.metre.g4),.sc (.int .i64 x.metre.g5),.sc (.int .i64 x.length),.sc (.int .i64 x.fifths),.sc (.bool x.rstart),.sc (.int .i64 x.rend),.sc (.int .i64 x.endings),.sc (.int .i64 x.jump),.sc (.int .i64 x.labels),.sc (.int .i64 x.swing),.sc (.int .i64 x.brk),.sc (.str x.rehearsal),slm Tempo.enc x.tempi,slm Cell.enc x.cells]
theorem Measure.enc_eq {x : Measure} : Measure.enc x = .agg [.sc (.int .i64 x.id.site),.sc (.int .i64 x.id.number),.sc (.int .i64 x.metre.count),.sc (.int .i64 x.metre.unit),.sc (.int .i64 x.metre.g0),.sc (.int .i64 x.metre.g1),.sc (.int .i64 x.metre.g2),.sc (.int .i64 x.metre.g3),.sc (.int .i64 x.metre.g4),.sc (.int .i64 x.metre.g5),.sc (.int .i64 x.length),.sc (.int .i64 x.fifths),.sc (.bool x.rstart),.sc (.int .i64 x.rend),.sc (.int .i64 x.endings),.sc (.int .i64 x.jump),.sc (.int .i64 x.labels),.sc (.int .i64 x.swing),.sc (.int .i64 x.brk),.sc (.str x.rehearsal),slm Tempo.enc x.tempi,slm Cell.enc x.cells]:=rfl
theorem Measure.enc_len (x : Measure) : (Measure.enc x).cells.length = 22:=rfl
theorem Measure.enc_closed (x : Measure) : AV.closedB (Measure.enc x) = true:=by
  simp only [Measure.enc,AV.closedB,AV.closedBs,Bool.and_self,Bool.and_true,Bool.true_and,closedB_slm Tempo.enc_closed,closedB_slm Cell.enc_closed]
theorem Measure.enc_plain (x : Measure) : AV.plain2 (Measure.enc x) = true:=by
  simp only [Measure.enc,AV.plain2,List.all_cons,List.all_nil,pl_sc,Bool.and_self,Bool.and_true,Bool.true_and,plain1_slm Tempo.enc_closed,plain1_slm Cell.enc_closed]
structure Spanner where
  id : ID
  kind : Int
  from_ : ID
  to : ID
  deriving DecidableEq,Inhabited
def Spanner.enc (x : Spanner) : AV:=.agg [.sc (.int .i64 x.id.site),.sc (.int .i64 x.id.number),.sc (.int .i64 x.kind),.sc (.int .i64 x.from_.site),.sc (.int .i64 x.from_.number),.sc (.int .i64 x.to.site),.sc (.int .i64 x.to.number)]
theorem Spanner.enc_eq {x : Spanner} : Spanner.enc x = .agg [.sc (.int .i64 x.id.site),.sc (.int .i64 x.id.number),.sc (.int .i64 x.kind),.sc (.int .i64 x.from_.site),.sc (.int .i64 x.from_.number),.sc (.int .i64 x.to.site),.sc (.int .i64 x.to.number)]:=rfl
theorem Spanner.enc_len (x : Spanner) : (Spanner.enc x).cells.length = 7:=rfl
theorem Spanner.enc_plain (x : Spanner) : AV.plain2 (Spanner.enc x) = true:=rfl
theorem Spanner.enc_closed (x : Spanner) : AV.closedB (Spanner.enc x) = true:=rfl
structure Score where
  title : ByteArray
  written : Bool
  parts : Sl Part
  measures : Sl Measure
  spanners : Sl Spanner
  last : Sl ID
  deriving DecidableEq,Inhabited
def Score.enc (x : Score) : AV:=.agg [.sc (.str x.title),.sc (.bool x.written),slm Part.enc x.parts,slm Measure.enc x.measures,slm Spanner.enc x.spanners,slm ID.enc x.last]
theorem Score.enc_eq {x : Score} : Score.enc x = .agg [.sc (.str x.title),.sc (.bool x.written),slm Part.enc x.parts,slm Measure.enc x.measures,slm Spanner.enc x.spanners,slm ID.enc x.last]:=rfl
theorem Score.enc_len (x : Score) : (Score.enc x).cells.length = 6:=rfl
theorem Score.enc_closed (x : Score) : AV.closedB (Score.enc x) = true:=by
  simp only [Score.enc,AV.closedB,AV.closedBs,Bool.and_self,Bool.and_true,Bool.true_and,closedB_slm Part.enc_closed,closedB_slm Measure.enc_closed,closedB_slm Spanner.enc_closed,closedB_slm ID.enc_closed]
theorem Score.enc_plain (x : Score) : AV.plain2 (Score.enc x) = true:=by
  simp only [Score.enc,AV.plain2,List.all_cons,List.all_nil,pl_sc,Bool.and_self,Bool.and_true,Bool.true_and,plain1_slm Part.enc_closed,plain1_slm Measure.enc_closed,plain1_slm Spanner.enc_closed,plain1_slm ID.enc_closed]
end Go.Hem
