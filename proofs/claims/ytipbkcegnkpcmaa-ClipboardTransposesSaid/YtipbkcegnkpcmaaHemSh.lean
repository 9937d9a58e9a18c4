import Derived.Test.YtipbkcegnkpcmaaHemOpen
import Derived.Test.YtipbkcegnkpcmaaHemData
set_option linter.unusedVariables false
namespace Go.Hem
def ID.sh : Sh:=.struct [.int .i64,.int .i64]
theorem ID.opn {as : List AV} (h : ID.sh.ok as) : ∃ x : ID,as = x.enc.cells:=by
  simp only [ID.sh] at h
  simp only [Sh.ok.eq_5,Sh.oks] at h
  obtain ⟨_,_,rfl,h0,_,_,rfl,h1,rfl⟩:=h
  simp only [Sh.ok] at h0
  obtain ⟨x0,rfl,_⟩:=h0
  simp only [Sh.ok] at h1
  obtain ⟨x1,rfl,_⟩:=h1
  exact ⟨⟨x0,x1⟩,rfl⟩
def Interval.sh : Sh:=.struct [.int .i64,.int .i64]
theorem Interval.opn {as : List AV} (h : Interval.sh.ok as) : ∃ x : Interval,as = x.enc.cells:=by
  simp only [Interval.sh] at h
  simp only [Sh.ok.eq_5,Sh.oks] at h
  obtain ⟨_,_,rfl,h0,_,_,rfl,h1,rfl⟩:=h
  simp only [Sh.ok] at h0
  obtain ⟨x0,rfl,_⟩:=h0
  simp only [Sh.ok] at h1
  obtain ⟨x1,rfl,_⟩:=h1
  exact ⟨⟨x0,x1⟩,rfl⟩
def Pitch.sh : Sh:=.struct [.int .i64,.int .i64,.int .i64]
theorem Pitch.opn {as : List AV} (h : Pitch.sh.ok as) : ∃ x : Pitch,as = x.enc.cells:=by
  simp only [Pitch.sh] at h
  simp only [Sh.ok.eq_5,Sh.oks] at h
  obtain ⟨_,_,rfl,h0,_,_,rfl,h1,_,_,rfl,h2,rfl⟩:=h
  simp only [Sh.ok] at h0
  obtain ⟨x0,rfl,_⟩:=h0
  simp only [Sh.ok] at h1
  obtain ⟨x1,rfl,_⟩:=h1
  simp only [Sh.ok] at h2
  obtain ⟨x2,rfl,_⟩:=h2
  exact ⟨⟨x0,x1,x2⟩,rfl⟩
def Head.sh : Sh:=.struct [Pitch.sh,.bool,.int .i64]
theorem Head.opn {as : List AV} (h : Head.sh.ok as) : ∃ x : Head,as = x.enc.cells:=by
  simp only [Head.sh] at h
  simp only [Sh.ok.eq_5,Sh.oks] at h
  obtain ⟨_,_,rfl,h0,_,_,rfl,h1,_,_,rfl,h2,rfl⟩:=h
  obtain ⟨x0,rfl⟩:=Pitch.opn h0
  simp only [Sh.ok] at h1
  obtain ⟨x1,rfl⟩:=h1
  simp only [Sh.ok] at h2
  obtain ⟨x2,rfl,_⟩:=h2
  exact ⟨⟨x0,x1,x2⟩,rfl⟩
def Grace.sh : Sh:=.struct [Pitch.sh,.int .i64,.bool]
theorem Grace.opn {as : List AV} (h : Grace.sh.ok as) : ∃ x : Grace,as = x.enc.cells:=by
  simp only [Grace.sh] at h
  simp only [Sh.ok.eq_5,Sh.oks] at h
  obtain ⟨_,_,rfl,h0,_,_,rfl,h1,_,_,rfl,h2,rfl⟩:=h
  obtain ⟨x0,rfl⟩:=Pitch.opn h0
  simp only [Sh.ok] at h1
  obtain ⟨x1,rfl,_⟩:=h1
  simp only [Sh.ok] at h2
  obtain ⟨x2,rfl⟩:=h2
  exact ⟨⟨x0,x1,x2⟩,rfl⟩
def Syllable.sh : Sh:=.struct [.str,.int .i64]
theorem Syllable.opn {as : List AV} (h : Syllable.sh.ok as) : ∃ x : Syllable,as = x.enc.cells:=by
  simp only [Syllable.sh] at h
  simp only [Sh.ok.eq_5,Sh.oks] at h
  obtain ⟨_,_,rfl,h0,_,_,rfl,h1,rfl⟩:=h
  simp only [Sh.ok] at h0
  obtain ⟨x0,rfl,_⟩:=h0
  simp only [Sh.ok] at h1
  obtain ⟨x1,rfl,_⟩:=h1
  exact ⟨⟨x0,x1⟩,rfl⟩
def Val.sh : Sh:=.struct [.int .i64,.int .i64]
theorem Val.opn {as : List AV} (h : Val.sh.ok as) : ∃ x : Val,as = x.enc.cells:=by
  simp only [Val.sh] at h
  simp only [Sh.ok.eq_5,Sh.oks] at h
  obtain ⟨_,_,rfl,h0,_,_,rfl,h1,rfl⟩:=h
  simp only [Sh.ok] at h0
  obtain ⟨x0,rfl,_⟩:=h0
  simp only [Sh.ok] at h1
  obtain ⟨x1,rfl,_⟩:=h1
  exact ⟨⟨x0,x1⟩,rfl⟩
def Event.sh : Sh:=.struct [ID.sh,.int .i64,Val.sh,.slice Head.sh,.slice Grace.sh,.int .i64,.int .i64,.int .i64,.slice Syllable.sh,.int .i64,.int .i64]
theorem Event.opn {as : List AV} (h : Event.sh.ok as) : ∃ x : Event,as = x.enc.cells:=by
  simp only [Event.sh] at h
  simp only [Sh.ok.eq_5,Sh.oks] at h
  obtain ⟨_,_,rfl,h0,_,_,rfl,h1,_,_,rfl,h2,_,_,rfl,h3,_,_,rfl,h4,_,_,rfl,h5,_,_,rfl,h6,_,_,rfl,h7,_,_,rfl,h8,_,_,rfl,h9,_,_,rfl,h10,rfl⟩:=h
  obtain ⟨x0,rfl⟩:=ID.opn h0
  simp only [Sh.ok] at h1
  obtain ⟨x1,rfl,_⟩:=h1
  obtain ⟨x2,rfl⟩:=Val.opn h2
  obtain ⟨x3,rfl,_⟩:=slm_open (f:=Head.enc) (fun _ h => Head.opn h) (fun _ => rfl) h3
  obtain ⟨x4,rfl,_⟩:=slm_open (f:=Grace.enc) (fun _ h => Grace.opn h) (fun _ => rfl) h4
  simp only [Sh.ok] at h5
  obtain ⟨x5,rfl,_⟩:=h5
  simp only [Sh.ok] at h6
  obtain ⟨x6,rfl,_⟩:=h6
  simp only [Sh.ok] at h7
  obtain ⟨x7,rfl,_⟩:=h7
  obtain ⟨x8,rfl,_⟩:=slm_open (f:=Syllable.enc) (fun _ h => Syllable.opn h) (fun _ => rfl) h8
  simp only [Sh.ok] at h9
  obtain ⟨x9,rfl,_⟩:=h9
  simp only [Sh.ok] at h10
  obtain ⟨x10,rfl,_⟩:=h10
  exact ⟨⟨x0,x1,x2,x3,x4,x5,x6,x7,x8,x9,x10⟩,rfl⟩
def Note.sh : Sh:=.struct [.int .i64,.int .i64,.slice Head.sh,.slice Grace.sh,.int .i64,.int .i64,.int .i64,.slice Syllable.sh]
theorem Note.opn {as : List AV} (h : Note.sh.ok as) : ∃ x : Note,as = x.enc.cells:=by
  simp only [Note.sh] at h
  simp only [Sh.ok.eq_5,Sh.oks] at h
  obtain ⟨_,_,rfl,h0,_,_,rfl,h1,_,_,rfl,h2,_,_,rfl,h3,_,_,rfl,h4,_,_,rfl,h5,_,_,rfl,h6,_,_,rfl,h7,rfl⟩:=h
  simp only [Sh.ok] at h0
  obtain ⟨x0,rfl,_⟩:=h0
  simp only [Sh.ok] at h1
  obtain ⟨x1,rfl,_⟩:=h1
  obtain ⟨x2,rfl,_⟩:=slm_open (f:=Head.enc) (fun _ h => Head.opn h) (fun _ => rfl) h2
  obtain ⟨x3,rfl,_⟩:=slm_open (f:=Grace.enc) (fun _ h => Grace.opn h) (fun _ => rfl) h3
  simp only [Sh.ok] at h4
  obtain ⟨x4,rfl,_⟩:=h4
  simp only [Sh.ok] at h5
  obtain ⟨x5,rfl,_⟩:=h5
  simp only [Sh.ok] at h6
  obtain ⟨x6,rfl,_⟩:=h6
  obtain ⟨x7,rfl,_⟩:=slm_open (f:=Syllable.enc) (fun _ h => Syllable.opn h) (fun _ => rfl) h7
  exact ⟨⟨x0,x1,x2,x3,x4,x5,x6,x7⟩,rfl⟩
def Clip.sh : Sh:=.struct [.int .i64,.slice Note.sh]
theorem Clip.opn {as : List AV} (h : Clip.sh.ok as) : ∃ x : Clip,as = x.enc.cells:=by
  simp only [Clip.sh] at h
  simp only [Sh.ok.eq_5,Sh.oks] at h
  obtain ⟨_,_,rfl,h0,_,_,rfl,h1,rfl⟩:=h
  simp only [Sh.ok] at h0
  obtain ⟨x0,rfl,_⟩:=h0
  obtain ⟨x1,rfl,_⟩:=slm_open (f:=Note.enc) (fun _ h => Note.opn h) (fun _ => rfl) h1
  exact ⟨⟨x0,x1⟩,rfl⟩
end Go.Hem
