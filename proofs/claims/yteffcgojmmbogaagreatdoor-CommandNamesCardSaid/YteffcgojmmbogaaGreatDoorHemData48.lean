import Derived.Test.YteffcgojmmbogaaGreatDoorHemZ
set_option linter.unusedSimpArgs false
namespace Go.Hem
structure ID where
  site : Int
  number : Int
  deriving DecidableEq,Inhabited
def ID.enc (x : ID) : AV:=.agg [.sc (.int .i64 x.site),.sc (.int .i64 x.number)]
structure Val where
  log : Int
  dots : Int
  deriving DecidableEq,Inhabited
def Val.enc (x : Val) : AV:=.agg [.sc (.int .i64 x.log),.sc (.int .i64 x.dots)]
structure Pitch where
  step : Int
  alter : Int
  octave : Int
  deriving DecidableEq,Inhabited
def Pitch.enc (x : Pitch) : AV:=.agg [.sc (.int .i64 x.step),.sc (.int .i64 x.alter),.sc (.int .i64 x.octave)]
structure Metre where
  count : Int
  unit : Int
  g0 : Int
  g1 : Int
  g2 : Int
  g3 : Int
  g4 : Int
  g5 : Int
  deriving DecidableEq,Inhabited
def Metre.enc (x : Metre) : AV:=.agg [.sc (.int .i64 x.count),.sc (.int .i64 x.unit),.sc (.int .i64 x.g0),.sc (.int .i64 x.g1),.sc (.int .i64 x.g2),.sc (.int .i64 x.g3),.sc (.int .i64 x.g4),.sc (.int .i64 x.g5)]
structure Interval where
  steps : Int
  semitones : Int
  deriving DecidableEq,Inhabited
def Interval.enc (x : Interval) : AV:=.agg [.sc (.int .i64 x.steps),.sc (.int .i64 x.semitones)]
structure Cmd where
  kind : Int
  site : Int
  base : Int
  obj : ID
  other : ID
  staff : Int
  voice : Int
  at_ : Int
  index : Int
  number : Int
  value : Val
  pitch : Pitch
  metre : Metre
  interval : Interval
  text : ByteArray
  deriving DecidableEq,Inhabited
def Cmd.enc (x : Cmd) : AV:=.agg [.sc (.int .i64 x.kind),.sc (.int .i64 x.site),.sc (.int .i64 x.base),.sc (.int .i64 x.obj.site),.sc (.int .i64 x.obj.number),.sc (.int .i64 x.other.site),.sc (.int .i64 x.other.number),.sc (.int .i64 x.staff),.sc (.int .i64 x.voice),.sc (.int .i64 x.at_),.sc (.int .i64 x.index),.sc (.int .i64 x.number),.sc (.int .i64 x.value.log),.sc (.int .i64 x.value.dots),.sc (.int .i64 x.pitch.step),.sc (.int .i64 x.pitch.alter),.sc (.int .i64 x.pitch.octave),.sc (.int .i64 x.metre.count),.sc (.int .i64 x.metre.unit),.sc (.int .i64 x.metre.g0),.sc (.int .i64 x.metre.g1),.sc (.int .i64 x.metre.g2),.sc (.int .i64 x.metre.g3),.sc (.int .i64 x.metre.g4),.sc (.int .i64 x.metre.g5),.sc (.int .i64 x.interval.steps),.sc (.int .i64 x.interval.semitones),.sc (.str x.text)]
end Go.Hem
