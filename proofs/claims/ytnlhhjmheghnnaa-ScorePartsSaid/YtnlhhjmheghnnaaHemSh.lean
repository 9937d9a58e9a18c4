import Derived.Test.YtnlhhjmheghnnaaHemOpen
import Derived.Test.YtnlhhjmheghnnaaHemData
set_option linter.unusedVariables false
namespace Go.Hem
def ID.sh : Sh:=.struct [.int .i64,.int .i64]
theorem ID.opn {as : List AV} (h : ID.sh.ok as) : ∃ x : ID,as = x.enc.cells:=by
  simp only [ID.sh] at h
  simp only [Sh.ok.eq_5,Sh.oks] at h
  obtain ⟨_,_,rfl,h0,_,_,rfl,h1,rfl⟩:=h
  simp only [Sh.ok] at h0
  obtain ⟨x0,rfl,_⟩:=h0
  simp only [Sh.ok] at h1
  obtain ⟨x1,rfl,_⟩:=h1
  exact ⟨⟨x0,x1⟩,rfl⟩
def Place.sh : Sh:=.struct [.int .i64,.int .i64,.int .i64,.int .i64,.int .i64,.int .i64,.int .i64]
theorem Place.opn {as : List AV} (h : Place.sh.ok as) : ∃ x : Place,as = x.enc.cells:=by
  simp only [Place.sh] at h
  simp only [Sh.ok.eq_5,Sh.oks] at h
  obtain ⟨_,_,rfl,h0,_,_,rfl,h1,_,_,rfl,h2,_,_,rfl,h3,_,_,rfl,h4,_,_,rfl,h5,_,_,rfl,h6,rfl⟩:=h
  simp only [Sh.ok] at h0
  obtain ⟨x0,rfl,_⟩:=h0
  simp only [Sh.ok] at h1
  obtain ⟨x1,rfl,_⟩:=h1
  simp only [Sh.ok] at h2
  obtain ⟨x2,rfl,_⟩:=h2
  simp only [Sh.ok] at h3
  obtain ⟨x3,rfl,_⟩:=h3
  simp only [Sh.ok] at h4
  obtain ⟨x4,rfl,_⟩:=h4
  simp only [Sh.ok] at h5
  obtain ⟨x5,rfl,_⟩:=h5
  simp only [Sh.ok] at h6
  obtain ⟨x6,rfl,_⟩:=h6
  exact ⟨⟨x0,x1,x2,x3,x4,x5,x6⟩,rfl⟩
def O.sh : Sh:=.struct [ID.sh,Place.sh]
theorem O.opn {as : List AV} (h : O.sh.ok as) : ∃ x : O,as = x.enc.cells:=by
  simp only [O.sh] at h
  simp only [Sh.ok.eq_5,Sh.oks] at h
  obtain ⟨_,_,rfl,h0,_,_,rfl,h1,rfl⟩:=h
  obtain ⟨x0,rfl⟩:=ID.opn h0
  obtain ⟨x1,rfl⟩:=Place.opn h1
  exact ⟨⟨x0,x1⟩,rfl⟩
def Interval.sh : Sh:=.struct [.int .i64,.int .i64]
theorem Interval.opn {as : List AV} (h : Interval.sh.ok as) : ∃ x : Interval,as = x.enc.cells:=by
  simp only [Interval.sh] at h
  simp only [Sh.ok.eq_5,Sh.oks] at h
  obtain ⟨_,_,rfl,h0,_,_,rfl,h1,rfl⟩:=h
  simp only [Sh.ok] at h0
  obtain ⟨x0,rfl,_⟩:=h0
  simp only [Sh.ok] at h1
  obtain ⟨x1,rfl,_⟩:=h1
  exact ⟨⟨x0,x1⟩,rfl⟩
def Staff.sh : Sh:=.struct [ID.sh,.int .i64]
theorem Staff.opn {as : List AV} (h : Staff.sh.ok as) : ∃ x : Staff,as = x.enc.cells:=by
  simp only [Staff.sh] at h
  simp only [Sh.ok.eq_5,Sh.oks] at h
  obtain ⟨_,_,rfl,h0,_,_,rfl,h1,rfl⟩:=h
  obtain ⟨x0,rfl⟩:=ID.opn h0
  simp only [Sh.ok] at h1
  obtain ⟨x1,rfl,_⟩:=h1
  exact ⟨⟨x0,x1⟩,rfl⟩
def Part.sh : Sh:=.struct [ID.sh,.str,Interval.sh,.slice Staff.sh]
theorem Part.opn {as : List AV} (h : Part.sh.ok as) : ∃ x : Part,as = x.enc.cells:=by
  simp only [Part.sh] at h
  simp only [Sh.ok.eq_5,Sh.oks] at h
  obtain ⟨_,_,rfl,h0,_,_,rfl,h1,_,_,rfl,h2,_,_,rfl,h3,rfl⟩:=h
  obtain ⟨x0,rfl⟩:=ID.opn h0
  simp only [Sh.ok] at h1
  obtain ⟨x1,rfl,_⟩:=h1
  obtain ⟨x2,rfl⟩:=Interval.opn h2
  obtain ⟨x3,rfl,_⟩:=slm_open (f:=Staff.enc) (fun _ h => Staff.opn h) (fun _ => rfl) h3
  exact ⟨⟨x0,x1,x2,x3⟩,rfl⟩
def Metre.sh : Sh:=.struct [.int .i64,.int .i64,.struct [.int .i64,.int .i64,.int .i64,.int .i64,.int .i64,.int .i64]]
theorem Metre.opn {as : List AV} (h : Metre.sh.ok as) : ∃ x : Metre,as = x.enc.cells:=by
  simp only [Metre.sh,Sh.ok,Sh.oks] at h
  obtain ⟨_,_,rfl,⟨a,rfl,_⟩,_,_,rfl,⟨b,rfl,_⟩,_,_,rfl,⟨_,_,rfl,⟨c0,rfl,_⟩,_,_,rfl,⟨c1,rfl,_⟩,_,_,rfl,⟨c2,rfl,_⟩,_,_,rfl,⟨c3,rfl,_⟩,_,_,rfl,⟨c4,rfl,_⟩,_,_,rfl,⟨c5,rfl,_⟩,rfl⟩,rfl⟩:=h
  exact ⟨⟨a,b,c0,c1,c2,c3,c4,c5⟩,rfl⟩
def ClefChange.sh : Sh:=.struct [.int .i64,.int .i64]
theorem ClefChange.opn {as : List AV} (h : ClefChange.sh.ok as) : ∃ x : ClefChange,as = x.enc.cells:=by
  simp only [ClefChange.sh] at h
  simp only [Sh.ok.eq_5,Sh.oks] at h
  obtain ⟨_,_,rfl,h0,_,_,rfl,h1,rfl⟩:=h
  simp only [Sh.ok] at h0
  obtain ⟨x0,rfl,_⟩:=h0
  simp only [Sh.ok] at h1
  obtain ⟨x1,rfl,_⟩:=h1
  exact ⟨⟨x0,x1⟩,rfl⟩
def Tuplet.sh : Sh:=.struct [.int .i64,.int .i64,.int .i64,.int .i64]
theorem Tuplet.opn {as : List AV} (h : Tuplet.sh.ok as) : ∃ x : Tuplet,as = x.enc.cells:=by
  simp only [Tuplet.sh] at h
  simp only [Sh.ok.eq_5,Sh.oks] at h
  obtain ⟨_,_,rfl,h0,_,_,rfl,h1,_,_,rfl,h2,_,_,rfl,h3,rfl⟩:=h
  simp only [Sh.ok] at h0
  obtain ⟨x0,rfl,_⟩:=h0
  simp only [Sh.ok] at h1
  obtain ⟨x1,rfl,_⟩:=h1
  simp only [Sh.ok] at h2
  obtain ⟨x2,rfl,_⟩:=h2
  simp only [Sh.ok] at h3
  obtain ⟨x3,rfl,_⟩:=h3
  exact ⟨⟨x0,x1,x2,x3⟩,rfl⟩
def Pitch.sh : Sh:=.struct [.int .i64,.int .i64,.int .i64]
theorem Pitch.opn {as : List AV} (h : Pitch.sh.ok as) : ∃ x : Pitch,as = x.enc.cells:=by
  simp only [Pitch.sh] at h
  simp only [Sh.ok.eq_5,Sh.oks] at h
  obtain ⟨_,_,rfl,h0,_,_,rfl,h1,_,_,rfl,h2,rfl⟩:=h
  simp only [Sh.ok] at h0
  obtain ⟨x0,rfl,_⟩:=h0
  simp only [Sh.ok] at h1
  obtain ⟨x1,rfl,_⟩:=h1
  simp only [Sh.ok] at h2
  obtain ⟨x2,rfl,_⟩:=h2
  exact ⟨⟨x0,x1,x2⟩,rfl⟩
def Head.sh : Sh:=.struct [Pitch.sh,.bool,.int .i64]
theorem Head.opn {as : List AV} (h : Head.sh.ok as) : ∃ x : Head,as = x.enc.cells:=by
  simp only [Head.sh] at h
  simp only [Sh.ok.eq_5,Sh.oks] at h
  obtain ⟨_,_,rfl,h0,_,_,rfl,h1,_,_,rfl,h2,rfl⟩:=h
  obtain ⟨x0,rfl⟩:=Pitch.opn h0
  simp only [Sh.ok] at h1
  obtain ⟨x1,rfl⟩:=h1
  simp only [Sh.ok] at h2
  obtain ⟨x2,rfl,_⟩:=h2
  exact ⟨⟨x0,x1,x2⟩,rfl⟩
def Grace.sh : Sh:=.struct [Pitch.sh,.int .i64,.bool]
theorem Grace.opn {as : List AV} (h : Grace.sh.ok as) : ∃ x : Grace,as = x.enc.cells:=by
  simp only [Grace.sh] at h
  simp only [Sh.ok.eq_5,Sh.oks] at h
  obtain ⟨_,_,rfl,h0,_,_,rfl,h1,_,_,rfl,h2,rfl⟩:=h
  obtain ⟨x0,rfl⟩:=Pitch.opn h0
  simp only [Sh.ok] at h1
  obtain ⟨x1,rfl,_⟩:=h1
  simp only [Sh.ok] at h2
  obtain ⟨x2,rfl⟩:=h2
  exact ⟨⟨x0,x1,x2⟩,rfl⟩
def Syllable.sh : Sh:=.struct [.str,.int .i64]
theorem Syllable.opn {as : List AV} (h : Syllable.sh.ok as) : ∃ x : Syllable,as = x.enc.cells:=by
  simp only [Syllable.sh] at h
  simp only [Sh.ok.eq_5,Sh.oks] at h
  obtain ⟨_,_,rfl,h0,_,_,rfl,h1,rfl⟩:=h
  simp only [Sh.ok] at h0
  obtain ⟨x0,rfl,_⟩:=h0
  simp only [Sh.ok] at h1
  obtain ⟨x1,rfl,_⟩:=h1
  exact ⟨⟨x0,x1⟩,rfl⟩
def Val.sh : Sh:=.struct [.int .i64,.int .i64]
theorem Val.opn {as : List AV} (h : Val.sh.ok as) : ∃ x : Val,as = x.enc.cells:=by
  simp only [Val.sh] at h
  simp only [Sh.ok.eq_5,Sh.oks] at h
  obtain ⟨_,_,rfl,h0,_,_,rfl,h1,rfl⟩:=h
  simp only [Sh.ok] at h0
  obtain ⟨x0,rfl,_⟩:=h0
  simp only [Sh.ok] at h1
  obtain ⟨x1,rfl,_⟩:=h1
  exact ⟨⟨x0,x1⟩,rfl⟩
def Event.sh : Sh:=.struct [ID.sh,.int .i64,Val.sh,.slice Head.sh,.slice Grace.sh,.int .i64,.int .i64,.int .i64,.slice Syllable.sh,.int .i64,.int .i64]
theorem Event.opn {as : List AV} (h : Event.sh.ok as) : ∃ x : Event,as = x.enc.cells:=by
  simp only [Event.sh] at h
  simp only [Sh.ok.eq_5,Sh.oks] at h
  obtain ⟨_,_,rfl,h0,_,_,rfl,h1,_,_,rfl,h2,_,_,rfl,h3,_,_,rfl,h4,_,_,rfl,h5,_,_,rfl,h6,_,_,rfl,h7,_,_,rfl,h8,_,_,rfl,h9,_,_,rfl,h10,rfl⟩:=h
  obtain ⟨x0,rfl⟩:=ID.opn h0
  simp only [Sh.ok] at h1
  obtain ⟨x1,rfl,_⟩:=h1
  obtain ⟨x2,rfl⟩:=Val.opn h2
  obtain ⟨x3,rfl,_⟩:=slm_open (f:=Head.enc) (fun _ h => Head.opn h) (fun _ => rfl) h3
  obtain ⟨x4,rfl,_⟩:=slm_open (f:=Grace.enc) (fun _ h => Grace.opn h) (fun _ => rfl) h4
  simp only [Sh.ok] at h5
  obtain ⟨x5,rfl,_⟩:=h5
  simp only [Sh.ok] at h6
  obtain ⟨x6,rfl,_⟩:=h6
  simp only [Sh.ok] at h7
  obtain ⟨x7,rfl,_⟩:=h7
  obtain ⟨x8,rfl,_⟩:=slm_open (f:=Syllable.enc) (fun _ h => Syllable.opn h) (fun _ => rfl) h8
  simp only [Sh.ok] at h9
  obtain ⟨x9,rfl,_⟩:=h9
  simp only [Sh.ok] at h10
  obtain ⟨x10,rfl,_⟩:=h10
  exact ⟨⟨x0,x1,x2,x3,x4,x5,x6,x7,x8,x9,x10⟩,rfl⟩
def Voice.sh : Sh:=.struct [.slice Event.sh,.slice Tuplet.sh]
theorem Voice.opn {as : List AV} (h : Voice.sh.ok as) : ∃ x : Voice,as = x.enc.cells:=by
  simp only [Voice.sh] at h
  simp only [Sh.ok.eq_5,Sh.oks] at h
  obtain ⟨_,_,rfl,h0,_,_,rfl,h1,rfl⟩:=h
  obtain ⟨x0,rfl,_⟩:=slm_open (f:=Event.enc) (fun _ h => Event.opn h) (fun _ => rfl) h0
  obtain ⟨x1,rfl,_⟩:=slm_open (f:=Tuplet.enc) (fun _ h => Tuplet.opn h) (fun _ => rfl) h1
  exact ⟨⟨x0,x1⟩,rfl⟩
def Cell.sh : Sh:=.struct [.slice ClefChange.sh,.slice Voice.sh]
theorem Cell.opn {as : List AV} (h : Cell.sh.ok as) : ∃ x : Cell,as = x.enc.cells:=by
  simp only [Cell.sh] at h
  simp only [Sh.ok.eq_5,Sh.oks] at h
  obtain ⟨_,_,rfl,h0,_,_,rfl,h1,rfl⟩:=h
  obtain ⟨x0,rfl,_⟩:=slm_open (f:=ClefChange.enc) (fun _ h => ClefChange.opn h) (fun _ => rfl) h0
  obtain ⟨x1,rfl,_⟩:=slm_open (f:=Voice.enc) (fun _ h => Voice.opn h) (fun _ => rfl) h1
  exact ⟨⟨x0,x1⟩,rfl⟩
def Tempo.sh : Sh:=.struct [.int .i64,.int .i64,.bool]
theorem Tempo.opn {as : List AV} (h : Tempo.sh.ok as) : ∃ x : Tempo,as = x.enc.cells:=by
  simp only [Tempo.sh] at h
  simp only [Sh.ok.eq_5,Sh.oks] at h
  obtain ⟨_,_,rfl,h0,_,_,rfl,h1,_,_,rfl,h2,rfl⟩:=h
  simp only [Sh.ok] at h0
  obtain ⟨x0,rfl,_⟩:=h0
  simp only [Sh.ok] at h1
  obtain ⟨x1,rfl,_⟩:=h1
  simp only [Sh.ok] at h2
  obtain ⟨x2,rfl⟩:=h2
  exact ⟨⟨x0,x1,x2⟩,rfl⟩
def Measure.sh : Sh:=.struct [ID.sh,Metre.sh,.int .i64,.int .i64,.bool,.int .i64,.int .i64,.int .i64,.int .i64,.int .i64,.int .i64,.str,.slice Tempo.sh,.slice Cell.sh]
theorem Measure.opn {as : List AV} (h : Measure.sh.ok as) : ∃ x : Measure,as = x.enc.cells:=by
  simp only [Measure.sh] at h
  simp only [Sh.ok.eq_5,Sh.oks] at h
  obtain ⟨_,_,rfl,h0,_,_,rfl,h1,_,_,rfl,h2,_,_,rfl,h3,_,_,rfl,h4,_,_,rfl,h5,_,_,rfl,h6,_,_,rfl,h7,_,_,rfl,h8,_,_,rfl,h9,_,_,rfl,h10,_,_,rfl,h11,_,_,rfl,h12,_,_,rfl,h13,rfl⟩:=h
  obtain ⟨x0,rfl⟩:=ID.opn h0
  obtain ⟨x1,rfl⟩:=Metre.opn h1
  simp only [Sh.ok] at h2
  obtain ⟨x2,rfl,_⟩:=h2
  simp only [Sh.ok] at h3
  obtain ⟨x3,rfl,_⟩:=h3
  simp only [Sh.ok] at h4
  obtain ⟨x4,rfl⟩:=h4
  simp only [Sh.ok] at h5
  obtain ⟨x5,rfl,_⟩:=h5
  simp only [Sh.ok] at h6
  obtain ⟨x6,rfl,_⟩:=h6
  simp only [Sh.ok] at h7
  obtain ⟨x7,rfl,_⟩:=h7
  simp only [Sh.ok] at h8
  obtain ⟨x8,rfl,_⟩:=h8
  simp only [Sh.ok] at h9
  obtain ⟨x9,rfl,_⟩:=h9
  simp only [Sh.ok] at h10
  obtain ⟨x10,rfl,_⟩:=h10
  simp only [Sh.ok] at h11
  obtain ⟨x11,rfl,_⟩:=h11
  obtain ⟨x12,rfl,_⟩:=slm_open (f:=Tempo.enc) (fun _ h => Tempo.opn h) (fun _ => rfl) h12
  obtain ⟨x13,rfl,_⟩:=slm_open (f:=Cell.enc) (fun _ h => Cell.opn h) (fun _ => rfl) h13
  exact ⟨⟨x0,x1,x2,x3,x4,x5,x6,x7,x8,x9,x10,x11,x12,x13⟩,rfl⟩
def Spanner.sh : Sh:=.struct [ID.sh,.int .i64,ID.sh,ID.sh]
theorem Spanner.opn {as : List AV} (h : Spanner.sh.ok as) : ∃ x : Spanner,as = x.enc.cells:=by
  simp only [Spanner.sh] at h
  simp only [Sh.ok.eq_5,Sh.oks] at h
  obtain ⟨_,_,rfl,h0,_,_,rfl,h1,_,_,rfl,h2,_,_,rfl,h3,rfl⟩:=h
  obtain ⟨x0,rfl⟩:=ID.opn h0
  simp only [Sh.ok] at h1
  obtain ⟨x1,rfl,_⟩:=h1
  obtain ⟨x2,rfl⟩:=ID.opn h2
  obtain ⟨x3,rfl⟩:=ID.opn h3
  exact ⟨⟨x0,x1,x2,x3⟩,rfl⟩
def Score.sh : Sh:=.struct [.str,.bool,.slice Part.sh,.slice Measure.sh,.slice Spanner.sh,.slice ID.sh]
theorem Score.opn {as : List AV} (h : Score.sh.ok as) : ∃ x : Score,as = x.enc.cells:=by
  simp only [Score.sh] at h
  simp only [Sh.ok.eq_5,Sh.oks] at h
  obtain ⟨_,_,rfl,h0,_,_,rfl,h1,_,_,rfl,h2,_,_,rfl,h3,_,_,rfl,h4,_,_,rfl,h5,rfl⟩:=h
  simp only [Sh.ok] at h0
  obtain ⟨x0,rfl,_⟩:=h0
  simp only [Sh.ok] at h1
  obtain ⟨x1,rfl⟩:=h1
  obtain ⟨x2,rfl,_⟩:=slm_open (f:=Part.enc) (fun _ h => Part.opn h) (fun _ => rfl) h2
  obtain ⟨x3,rfl,_⟩:=slm_open (f:=Measure.enc) (fun _ h => Measure.opn h) (fun _ => rfl) h3
  obtain ⟨x4,rfl,_⟩:=slm_open (f:=Spanner.enc) (fun _ h => Spanner.opn h) (fun _ => rfl) h4
  obtain ⟨x5,rfl,_⟩:=slm_open (f:=ID.enc) (fun _ h => ID.opn h) (fun _ => rfl) h5
  exact ⟨⟨x0,x1,x2,x3,x4,x5⟩,rfl⟩
end Go.Hem
