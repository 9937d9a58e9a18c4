import Derived.Test.YtipbkcegnkpcmaaHemZ
set_option linter.unusedSimpArgs false
namespace Go.Hem
structure ID where
  site : Int
  number : Int
  deriving DecidableEq,Inhabited
def ID.enc (x : ID) : AV:=.agg [.sc (.int .i64 x.site),.sc (.int .i64 x.number)]
theorem ID.enc_eq {x : ID} : ID.enc x = .agg [.sc (.int .i64 x.site),.sc (.int .i64 x.number)]:=rfl
theorem ID.enc_len (x : ID) : (ID.enc x).cells.length = 2:=rfl
theorem ID.enc_plain (x : ID) : AV.plain2 (ID.enc x) = true:=rfl
theorem ID.enc_closed (x : ID) : AV.closedB (ID.enc x) = true:=rfl
structure Interval where
  steps : Int
  semitones : Int
  deriving DecidableEq,Inhabited
def Interval.enc (x : Interval) : AV:=.agg [.sc (.int .i64 x.steps),.sc (.int .i64 x.semitones)]
theorem Interval.enc_eq {x : Interval} : Interval.enc x = .agg [.sc (.int .i64 x.steps),.sc (.int .i64 x.semitones)]:=rfl
theorem Interval.enc_len (x : Interval) : (Interval.enc x).cells.length = 2:=rfl
theorem Interval.enc_plain (x : Interval) : AV.plain2 (Interval.enc x) = true:=rfl
theorem Interval.enc_closed (x : Interval) : AV.closedB (Interval.enc x) = true:=rfl
structure Pitch where
  step : Int
  alter : Int
  octave : Int
  deriving DecidableEq,Inhabited
def Pitch.enc (x : Pitch) : AV:=.agg [.sc (.int .i64 x.step),.sc (.int .i64 x.alter),.sc (.int .i64 x.octave)]
theorem Pitch.enc_eq {x : Pitch} : Pitch.enc x = .agg [.sc (.int .i64 x.step),.sc (.int .i64 x.alter),.sc (.int .i64 x.octave)]:=rfl
theorem Pitch.enc_len (x : Pitch) : (Pitch.enc x).cells.length = 3:=rfl
theorem Pitch.enc_plain (x : Pitch) : AV.plain2 (Pitch.enc x) = true:=rfl
theorem Pitch.enc_closed (x : Pitch) : AV.closedB (Pitch.enc x) = true:=rfl
structure Head where
  pitch : Pitch
  tied : Bool
  shown : Int
  deriving DecidableEq,Inhabited
def Head.enc (x : Head) : AV:=.agg [.sc (.int .i64 x.pitch.step),.sc (.int .i64 x.pitch.alter),.sc (.int .i64 x.pitch.octave),.sc (.bool x.tied),.sc (.int .i64 x.shown)]
theorem Head.enc_eq {x : Head} : Head.enc x = .agg [.sc (.int .i64 x.pitch.step),.sc (.int .i64 x.pitch.alter),.sc (.int .i64 x.pitch.octave),.sc (.bool x.tied),.sc (.int .i64 x.shown)]:=rfl
theorem Head.enc_len (x : Head) : (Head.enc x).cells.length = 5:=rfl
theorem Head.enc_plain (x : Head) : AV.plain2 (Head.enc x) = true:=rfl
theorem Head.enc_closed (x : Head) : AV.closedB (Head.enc x) = true:=rfl
structure Grace where
  pitch : Pitch
  log : Int
  slash : Bool
  deriving DecidableEq,Inhabited
def Grace.enc (x : Grace) : AV:=.agg [.sc (.int .i64 x.pitch.step),.sc (.int .i64 x.pitch.alter),.sc (.int .i64 x.pitch.octave),.sc (.int .i64 x.log),.sc (.bool x.slash)]
theorem Grace.enc_eq {x : Grace} : Grace.enc x = .agg [.sc (.int .i64 x.pitch.step),.sc (.int .i64 x.pitch.alter),.sc (.int .i64 x.pitch.octave),.sc (.int .i64 x.log),.sc (.bool x.slash)]:=rfl
theorem Grace.enc_len (x : Grace) : (Grace.enc x).cells.length = 5:=rfl
theorem Grace.enc_plain (x : Grace) : AV.plain2 (Grace.enc x) = true:=rfl
theorem Grace.enc_closed (x : Grace) : AV.closedB (Grace.enc x) = true:=rfl
structure Syllable where
  text : ByteArray
  link : Int
  deriving DecidableEq,Inhabited
def Syllable.enc (x : Syllable) : AV:=.agg [.sc (.str x.text),.sc (.int .i64 x.link)]
theorem Syllable.enc_eq {x : Syllable} : Syllable.enc x = .agg [.sc (.str x.text),.sc (.int .i64 x.link)]:=rfl
theorem Syllable.enc_len (x : Syllable) : (Syllable.enc x).cells.length = 2:=rfl
theorem Syllable.enc_plain (x : Syllable) : AV.plain2 (Syllable.enc x) = true:=rfl
theorem Syllable.enc_closed (x : Syllable) : AV.closedB (Syllable.enc x) = true:=rfl
structure Val where
  log : Int
  dots : Int
  deriving DecidableEq,Inhabited
def Val.enc (x : Val) : AV:=.agg [.sc (.int .i64 x.log),.sc (.int .i64 x.dots)]
theorem Val.enc_eq {x : Val} : Val.enc x = .agg [.sc (.int .i64 x.log),.sc (.int .i64 x.dots)]:=rfl
theorem Val.enc_len (x : Val) : (Val.enc x).cells.length = 2:=rfl
theorem Val.enc_plain (x : Val) : AV.plain2 (Val.enc x) = true:=rfl
theorem Val.enc_closed (x : Val) : AV.closedB (Val.enc x) = true:=rfl
structure Event where
  id : ID
  kind : Int
  value : Val
  heads : Sl Head
  graces : Sl Grace
  articulations : Int
  ornament : Int
  dynamic : Int
  lyrics : Sl Syllable
  stem : Int
  beam : Int
  deriving DecidableEq,Inhabited
def Event.enc (x : Event) : AV:=.agg [.sc (.int .i64 x.id.site),.sc (.int .i64 x.id.number),.sc (.int .i64 x.kind),.sc (.int .i64 x.value.log),.sc (.int .i64 x.value.dots),slm Head.enc x.heads,slm Grace.enc x.graces,.sc (.int .i64 x.articulations),.sc (.int .i64 x.ornament),.sc (.int .i64 x.dynamic),slm Syllable.enc x.lyrics,.sc (.int .i64 x.stem),.sc (.int .i64 x.beam)]
theorem Event.enc_eq {x : Event} : Event.enc x = .agg [.sc (.int .i64 x.id.site),.sc (.int .i64 x.id.number),.sc (.int .i64 x.kind),.sc (.int .i64 x.value.log),.sc (.int .i64 x.value.dots),slm Head.enc x.heads,slm Grace.enc x.graces,.sc (.int .i64 x.articulations),.sc (.int .i64 x.ornament),.sc (.int .i64 x.dynamic),slm Syllable.enc x.lyrics,.sc (.int .i64 x.stem),.sc (.int .i64 x.beam)]:=rfl
theorem Event.enc_len (x : Event) : (Event.enc x).cells.length = 13:=rfl
theorem Event.enc_closed (x : Event) : AV.closedB (Event.enc x) = true:=by
  simp only [Event.enc,AV.closedB,AV.closedBs,Bool.and_self,Bool.and_true,Bool.true_and,closedB_slm Head.enc_closed,closedB_slm Grace.enc_closed,closedB_slm Syllable.enc_closed]
theorem Event.enc_plain (x : Event) : AV.plain2 (Event.enc x) = true:=by
  simp only [Event.enc,AV.plain2,List.all_cons,List.all_nil,pl_sc,Bool.and_self,Bool.and_true,Bool.true_and,plain1_slm Head.enc_closed,plain1_slm Grace.enc_closed,plain1_slm Syllable.enc_closed]
structure Note where
  at_ : Int
  len : Int
  heads : Sl Head
  graces : Sl Grace
  articulations : Int
  ornament : Int
  dynamic : Int
  lyrics : Sl Syllable
  deriving DecidableEq,Inhabited
def Note.enc (x : Note) : AV:=.agg [.sc (.int .i64 x.at_),.sc (.int .i64 x.len),slm Head.enc x.heads,slm Grace.enc x.graces,.sc (.int .i64 x.articulations),.sc (.int .i64 x.ornament),.sc (.int .i64 x.dynamic),slm Syllable.enc x.lyrics]
theorem Note.enc_eq {x : Note} : Note.enc x = .agg [.sc (.int .i64 x.at_),.sc (.int .i64 x.len),slm Head.enc x.heads,slm Grace.enc x.graces,.sc (.int .i64 x.articulations),.sc (.int .i64 x.ornament),.sc (.int .i64 x.dynamic),slm Syllable.enc x.lyrics]:=rfl
theorem Note.enc_len (x : Note) : (Note.enc x).cells.length = 8:=rfl
theorem Note.enc_closed (x : Note) : AV.closedB (Note.enc x) = true:=by
  simp only [Note.enc,AV.closedB,AV.closedBs,Bool.and_self,Bool.and_true,Bool.true_and,closedB_slm Head.enc_closed,closedB_slm Grace.enc_closed,closedB_slm Syllable.enc_closed]
theorem Note.enc_plain (x : Note) : AV.plain2 (Note.enc x) = true:=by
  simp only [Note.enc,AV.plain2,List.all_cons,List.all_nil,pl_sc,Bool.and_self,Bool.and_true,Bool.true_and,plain1_slm Head.enc_closed,plain1_slm Grace.enc_closed,plain1_slm Syllable.enc_closed]
structure Clip where
  len : Int
  notes : Sl Note
  deriving DecidableEq,Inhabited
def Clip.enc (x : Clip) : AV:=.agg [.sc (.int .i64 x.len),slm Note.enc x.notes]
theorem Clip.enc_eq {x : Clip} : Clip.enc x = .agg [.sc (.int .i64 x.len),slm Note.enc x.notes]:=rfl
theorem Clip.enc_len (x : Clip) : (Clip.enc x).cells.length = 2:=rfl
theorem Clip.enc_closed (x : Clip) : AV.closedB (Clip.enc x) = true:=by
  simp only [Clip.enc,AV.closedB,AV.closedBs,Bool.and_self,Bool.and_true,Bool.true_and,closedB_slm Note.enc_closed]
theorem Clip.enc_plain (x : Clip) : AV.plain2 (Clip.enc x) = true:=by
  simp only [Clip.enc,AV.plain2,List.all_cons,List.all_nil,pl_sc,Bool.and_self,Bool.and_true,Bool.true_and,plain1_slm Note.enc_closed]
end Go.Hem
