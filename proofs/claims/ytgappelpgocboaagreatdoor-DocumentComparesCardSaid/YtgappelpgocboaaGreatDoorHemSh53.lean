/- Joined. -/
import Derived.Test.YtgappelpgocboaaGreatDoorHemZ
import Derived.Test.YtgappelpgocboaaGreatDoorHemLaw
set_option linter.unusedSimpArgs false
namespace Go.Hem
structure ID where
  site : Int
  number : Int
  deriving DecidableEq,Inhabited
def ID.enc (x : ID) : AV:=.agg [.sc (.int .i64 x.site),.sc (.int .i64 x.number)]
theorem ID.enc_eq {x : ID} : ID.enc x = .agg [.sc (.int .i64 x.site),.sc (.int .i64 x.number)]:=rfl
theorem ID.enc_closed (x : ID) : AV.closedB (ID.enc x) = true:=rfl
structure Val where
  log : Int
  dots : Int
  deriving DecidableEq,Inhabited
def Val.enc (x : Val) : AV:=.agg [.sc (.int .i64 x.log),.sc (.int .i64 x.dots)]
theorem Val.enc_eq {x : Val} : Val.enc x = .agg [.sc (.int .i64 x.log),.sc (.int .i64 x.dots)]:=rfl
theorem Val.enc_closed (x : Val) : AV.closedB (Val.enc x) = true:=rfl
structure Pitch where
  step : Int
  alter : Int
  octave : Int
  deriving DecidableEq,Inhabited
def Pitch.enc (x : Pitch) : AV:=.agg [.sc (.int .i64 x.step),.sc (.int .i64 x.alter),.sc (.int .i64 x.octave)]
theorem Pitch.enc_eq {x : Pitch} : Pitch.enc x = .agg [.sc (.int .i64 x.step),.sc (.int .i64 x.alter),.sc (.int .i64 x.octave)]:=rfl
theorem Pitch.enc_closed (x : Pitch) : AV.closedB (Pitch.enc x) = true:=rfl
structure Metre where
  count : Int
  unit : Int
  g0 : Int
  g1 : Int
  g2 : Int
  g3 : Int
  g4 : Int
  g5 : Int
  deriving DecidableEq,Inhabited
def Metre.enc (x : Metre) : AV:=.agg [.sc (.int .i64 x.count),.sc (.int .i64 x.unit),.sc (.int .i64 x.g0),.sc (.int .i64 x.g1),.sc (.int .i64 x.g2),.sc (.int .i64 x.g3),.sc (.int .i64 x.g4),.sc (.int .i64 x.g5)]
theorem Metre.enc_eq {x : Metre} : Metre.enc x = .agg [.sc (.int .i64 x.count),.sc (.int .i64 x.unit),.sc (.int .i64 x.g0),.sc (.int .i64 x.g1),.sc (.int .i64 x.g2),.sc (.int .i64 x.g3),.sc (.int .i64 x.g4),.sc (.int .i64 x.g5)]:=rfl
theorem Metre.enc_closed (x : Metre) : AV.closedB (Metre.enc x) = true:=rfl
structure Interval where
  steps : Int
  semitones : Int
  deriving DecidableEq,Inhabited
def Interval.enc (x : Interval) : AV:=.agg [.sc (.int .i64 x.steps),.sc (.int .i64 x.semitones)]
theorem Interval.enc_eq {x : Interval} : Interval.enc x = .agg [.sc (.int .i64 x.steps),.sc (.int .i64 x.semitones)]:=rfl
theorem Interval.enc_closed (x : Interval) : AV.closedB (Interval.enc x) = true:=rfl
structure Cmd where
  kind : Int
  site : Int
  base : Int
  obj : ID
  other : ID
  staff : Int
  voice : Int
  at_ : Int
  index : Int
  number : Int
  value : Val
  pitch : Pitch
  metre : Metre
  interval : Interval
  text : ByteArray
  deriving DecidableEq,Inhabited
def Cmd.enc (x : Cmd) : AV:=.agg [.sc (.int .i64 x.kind),.sc (.int .i64 x.site),.sc (.int .i64 x.base),.sc (.int .i64 x.obj.site),.sc (.int .i64 x.obj.number),.sc (.int .i64 x.other.site),.sc (.int .i64 x.other.number),.sc (.int .i64 x.staff),.sc (.int .i64 x.voice),.sc (.int .i64 x.at_),.sc (.int .i64 x.index),.sc (.int .i64 x.number),.sc (.int .i64 x.value.log),.sc (.int .i64 x.value.dots),.sc (.int .i64 x.pitch.step),.sc (.int .i64 x.pitch.alter),.sc (.int .i64 x.pitch.octave),.sc (.int .i64 x.metre.count),.sc (.int .i64 x.metre.unit),.sc (.int .i64 x.metre.g0),.sc (.int .i64 x.metre.g1),.sc (.int .i64 x.metre.g2),.sc (.int .i64 x.metre.g3),.sc (.int .i64 x.metre.g4),.sc (.int .i64 x.metre.g5),.sc (.int .i64 x.interval.steps),.sc (.int .i64 x.interval.semitones),.sc (.str x.text)]
theorem Cmd.enc_eq {x : Cmd} : Cmd.enc x = .agg [.sc (.int .i64 x.kind),.sc (.int .i64 x.site),.sc (.int .i64 x.base),.sc (.int .i64 x.obj.site),.sc (.int .i64 x.obj.number),.sc (.int .i64 x.other.site),.sc (.int .i64 x.other.number),.sc (.int .i64 x.staff),.sc (.int .i64 x.voice),.sc (.int .i64 x.at_),.sc (.int .i64 x.index),.sc (.int .i64 x.number),.sc (.int .i64 x.value.log),.sc (.int .i64 x.value.dots),.sc (.int .i64 x.pitch.step),.sc (.int .i64 x.pitch.alter),.sc (.int .i64 x.pitch.octave),.sc (.int .i64 x.metre.count),.sc (.int .i64 x.metre.unit),.sc (.int .i64 x.metre.g0),.sc (.int .i64 x.metre.g1),.sc (.int .i64 x.metre.g2),.sc (.int .i64 x.metre.g3),.sc (.int .i64 x.metre.g4),.sc (.int .i64 x.metre.g5),.sc (.int .i64 x.interval.steps),.sc (.int .i64 x.interval.semitones),.sc (.str x.text)]:=rfl
theorem Cmd.enc_closed (x : Cmd) : AV.closedB (Cmd.enc x) = true:=rfl
structure Entry where
  clock : Int
  site : Int
  seq : Int
  cmd : Cmd
  deriving DecidableEq,Inhabited
def Entry.enc (x : Entry) : AV:=.agg [.sc (.int .i64 x.clock),.sc (.int .i64 x.site),.sc (.int .i64 x.seq),.sc (.int .i64 x.cmd.kind),.sc (.int .i64 x.cmd.site),.sc (.int .i64 x.cmd.base),.sc (.int .i64 x.cmd.obj.site),.sc (.int .i64 x.cmd.obj.number),.sc (.int .i64 x.cmd.other.site),.sc (.int .i64 x.cmd.other.number),.sc (.int .i64 x.cmd.staff),.sc (.int .i64 x.cmd.voice),.sc (.int .i64 x.cmd.at_),.sc (.int .i64 x.cmd.index),.sc (.int .i64 x.cmd.number),.sc (.int .i64 x.cmd.value.log),.sc (.int .i64 x.cmd.value.dots),.sc (.int .i64 x.cmd.pitch.step),.sc (.int .i64 x.cmd.pitch.alter),.sc (.int .i64 x.cmd.pitch.octave),.sc (.int .i64 x.cmd.metre.count),.sc (.int .i64 x.cmd.metre.unit),.sc (.int .i64 x.cmd.metre.g0),.sc (.int .i64 x.cmd.metre.g1),.sc (.int .i64 x.cmd.metre.g2),.sc (.int .i64 x.cmd.metre.g3),.sc (.int .i64 x.cmd.metre.g4),.sc (.int .i64 x.cmd.metre.g5),.sc (.int .i64 x.cmd.interval.steps),.sc (.int .i64 x.cmd.interval.semitones),.sc (.str x.cmd.text)]
theorem Entry.enc_eq {x : Entry} : Entry.enc x = .agg [.sc (.int .i64 x.clock),.sc (.int .i64 x.site),.sc (.int .i64 x.seq),.sc (.int .i64 x.cmd.kind),.sc (.int .i64 x.cmd.site),.sc (.int .i64 x.cmd.base),.sc (.int .i64 x.cmd.obj.site),.sc (.int .i64 x.cmd.obj.number),.sc (.int .i64 x.cmd.other.site),.sc (.int .i64 x.cmd.other.number),.sc (.int .i64 x.cmd.staff),.sc (.int .i64 x.cmd.voice),.sc (.int .i64 x.cmd.at_),.sc (.int .i64 x.cmd.index),.sc (.int .i64 x.cmd.number),.sc (.int .i64 x.cmd.value.log),.sc (.int .i64 x.cmd.value.dots),.sc (.int .i64 x.cmd.pitch.step),.sc (.int .i64 x.cmd.pitch.alter),.sc (.int .i64 x.cmd.pitch.octave),.sc (.int .i64 x.cmd.metre.count),.sc (.int .i64 x.cmd.metre.unit),.sc (.int .i64 x.cmd.metre.g0),.sc (.int .i64 x.cmd.metre.g1),.sc (.int .i64 x.cmd.metre.g2),.sc (.int .i64 x.cmd.metre.g3),.sc (.int .i64 x.cmd.metre.g4),.sc (.int .i64 x.cmd.metre.g5),.sc (.int .i64 x.cmd.interval.steps),.sc (.int .i64 x.cmd.interval.semitones),.sc (.str x.cmd.text)]:=rfl
theorem Entry.enc_closed (x : Entry) : AV.closedB (Entry.enc x) = true:=rfl
end Go.Hem
set_option linter.unusedVariables false
namespace Go.Hem
def ID.sh : Sh:=.struct [.int .i64,.int .i64]
theorem ID.opn {as : List AV} (h : ID.sh.ok as) : ∃ x : ID,as = x.enc.cells:=by
  simp only [ID.sh] at h
  simp only [Sh.ok.eq_5,Sh.oks] at h
  obtain ⟨_,_,rfl,h0,_,_,rfl,h1,rfl⟩:=h
  simp only [Sh.ok] at h0
  obtain ⟨x0,rfl,_⟩:=h0
  simp only [Sh.ok] at h1
  obtain ⟨x1,rfl,_⟩:=h1
  exact ⟨⟨x0,x1⟩,rfl⟩
def Val.sh : Sh:=.struct [.int .i64,.int .i64]
theorem Val.opn {as : List AV} (h : Val.sh.ok as) : ∃ x : Val,as = x.enc.cells:=by
  simp only [Val.sh] at h
  simp only [Sh.ok.eq_5,Sh.oks] at h
  obtain ⟨_,_,rfl,h0,_,_,rfl,h1,rfl⟩:=h
  simp only [Sh.ok] at h0
  obtain ⟨x0,rfl,_⟩:=h0
  simp only [Sh.ok] at h1
  obtain ⟨x1,rfl,_⟩:=h1
  exact ⟨⟨x0,x1⟩,rfl⟩
def Pitch.sh : Sh:=.struct [.int .i64,.int .i64,.int .i64]
theorem Pitch.opn {as : List AV} (h : Pitch.sh.ok as) : ∃ x : Pitch,as = x.enc.cells:=by
  simp only [Pitch.sh] at h
  simp only [Sh.ok.eq_5,Sh.oks] at h
  obtain ⟨_,_,rfl,h0,_,_,rfl,h1,_,_,rfl,h2,rfl⟩:=h
  simp only [Sh.ok] at h0
  obtain ⟨x0,rfl,_⟩:=h0
  simp only [Sh.ok] at h1
  obtain ⟨x1,rfl,_⟩:=h1
  simp only [Sh.ok] at h2
  obtain ⟨x2,rfl,_⟩:=h2
  exact ⟨⟨x0,x1,x2⟩,rfl⟩
def Metre.sh : Sh:=.struct [.int .i64,.int .i64,.struct [.int .i64,.int .i64,.int .i64,.int .i64,.int .i64,.int .i64]]
theorem Metre.opn {as : List AV} (h : Metre.sh.ok as) : ∃ x : Metre,as = x.enc.cells:=by
  simp only [Metre.sh,Sh.ok,Sh.oks] at h
  obtain ⟨_,_,rfl,⟨a,rfl,_⟩,_,_,rfl,⟨b,rfl,_⟩,_,_,rfl,⟨_,_,rfl,⟨c0,rfl,_⟩,_,_,rfl,⟨c1,rfl,_⟩,_,_,rfl,⟨c2,rfl,_⟩,_,_,rfl,⟨c3,rfl,_⟩,_,_,rfl,⟨c4,rfl,_⟩,_,_,rfl,⟨c5,rfl,_⟩,rfl⟩,rfl⟩:=h
  exact ⟨⟨a,b,c0,c1,c2,c3,c4,c5⟩,rfl⟩
def Interval.sh : Sh:=.struct [.int .i64,.int .i64]
theorem Interval.opn {as : List AV} (h : Interval.sh.ok as) : ∃ x : Interval,as = x.enc.cells:=by
  simp only [Interval.sh] at h
  simp only [Sh.ok.eq_5,Sh.oks] at h
  obtain ⟨_,_,rfl,h0,_,_,rfl,h1,rfl⟩:=h
  simp only [Sh.ok] at h0
  obtain ⟨x0,rfl,_⟩:=h0
  simp only [Sh.ok] at h1
  obtain ⟨x1,rfl,_⟩:=h1
  exact ⟨⟨x0,x1⟩,rfl⟩
def Cmd.sh : Sh:=.struct [.int .i64,.int .i64,.int .i64,ID.sh,ID.sh,.int .i64,.int .i64,.int .i64,.int .i64,.int .i64,Val.sh,Pitch.sh,Metre.sh,Interval.sh,.str]
theorem Cmd.opn {as : List AV} (h : Cmd.sh.ok as) : ∃ x : Cmd,as = x.enc.cells:=by
  simp only [Cmd.sh] at h
  simp only [Sh.ok.eq_5,Sh.oks] at h
  obtain ⟨_,_,rfl,h0,_,_,rfl,h1,_,_,rfl,h2,_,_,rfl,h3,_,_,rfl,h4,_,_,rfl,h5,_,_,rfl,h6,_,_,rfl,h7,_,_,rfl,h8,_,_,rfl,h9,_,_,rfl,h10,_,_,rfl,h11,_,_,rfl,h12,_,_,rfl,h13,_,_,rfl,h14,rfl⟩:=h
  simp only [Sh.ok] at h0
  obtain ⟨x0,rfl,_⟩:=h0
  simp only [Sh.ok] at h1
  obtain ⟨x1,rfl,_⟩:=h1
  simp only [Sh.ok] at h2
  obtain ⟨x2,rfl,_⟩:=h2
  obtain ⟨x3,rfl⟩:=ID.opn h3
  obtain ⟨x4,rfl⟩:=ID.opn h4
  simp only [Sh.ok] at h5
  obtain ⟨x5,rfl,_⟩:=h5
  simp only [Sh.ok] at h6
  obtain ⟨x6,rfl,_⟩:=h6
  simp only [Sh.ok] at h7
  obtain ⟨x7,rfl,_⟩:=h7
  simp only [Sh.ok] at h8
  obtain ⟨x8,rfl,_⟩:=h8
  simp only [Sh.ok] at h9
  obtain ⟨x9,rfl,_⟩:=h9
  obtain ⟨x10,rfl⟩:=Val.opn h10
  obtain ⟨x11,rfl⟩:=Pitch.opn h11
  obtain ⟨x12,rfl⟩:=Metre.opn h12
  obtain ⟨x13,rfl⟩:=Interval.opn h13
  simp only [Sh.ok] at h14
  obtain ⟨x14,rfl,_⟩:=h14
  exact ⟨⟨x0,x1,x2,x3,x4,x5,x6,x7,x8,x9,x10,x11,x12,x13,x14⟩,rfl⟩
def Entry.sh : Sh:=.struct [.int .i64,.int .i64,.int .i64,Cmd.sh]
theorem Entry.opn {as : List AV} (h : Entry.sh.ok as) : ∃ x : Entry,as = x.enc.cells:=by
  simp only [Entry.sh] at h
  simp only [Sh.ok.eq_5,Sh.oks] at h
  obtain ⟨_,_,rfl,h0,_,_,rfl,h1,_,_,rfl,h2,_,_,rfl,h3,rfl⟩:=h
  simp only [Sh.ok] at h0
  obtain ⟨x0,rfl,_⟩:=h0
  simp only [Sh.ok] at h1
  obtain ⟨x1,rfl,_⟩:=h1
  simp only [Sh.ok] at h2
  obtain ⟨x2,rfl,_⟩:=h2
  obtain ⟨x3,rfl⟩:=Cmd.opn h3
  exact ⟨⟨x0,x1,x2,x3⟩,rfl⟩
end Go.Hem
