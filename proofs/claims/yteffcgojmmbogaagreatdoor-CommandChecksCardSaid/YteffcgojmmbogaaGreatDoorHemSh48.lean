import Derived.Test.YteffcgojmmbogaaGreatDoorHemOpen
import Derived.Test.YteffcgojmmbogaaGreatDoorHemData48
set_option linter.unusedVariables false
namespace Go.Hem
def ID.sh : Sh:=.struct [.int .i64,.int .i64]
theorem ID.opn {as : List AV} (h : ID.sh.ok as) : ∃ x : ID,as = x.enc.cells:=by
  simp only [ID.sh] at h
  simp only [Sh.ok.eq_5,Sh.oks] at h
  obtain ⟨_,_,rfl,h0,_,_,rfl,h1,rfl⟩:=h
  simp only [Sh.ok] at h0
  obtain ⟨x0,rfl,_⟩:=h0
  simp only [Sh.ok] at h1
  obtain ⟨x1,rfl,_⟩:=h1
  exact ⟨⟨x0,x1⟩,rfl⟩
def Val.sh : Sh:=.struct [.int .i64,.int .i64]
theorem Val.opn {as : List AV} (h : Val.sh.ok as) : ∃ x : Val,as = x.enc.cells:=by
  simp only [Val.sh] at h
  simp only [Sh.ok.eq_5,Sh.oks] at h
  obtain ⟨_,_,rfl,h0,_,_,rfl,h1,rfl⟩:=h
  simp only [Sh.ok] at h0
  obtain ⟨x0,rfl,_⟩:=h0
  simp only [Sh.ok] at h1
  obtain ⟨x1,rfl,_⟩:=h1
  exact ⟨⟨x0,x1⟩,rfl⟩
def Pitch.sh : Sh:=.struct [.int .i64,.int .i64,.int .i64]
theorem Pitch.opn {as : List AV} (h : Pitch.sh.ok as) : ∃ x : Pitch,as = x.enc.cells:=by
  simp only [Pitch.sh] at h
  simp only [Sh.ok.eq_5,Sh.oks] at h
  obtain ⟨_,_,rfl,h0,_,_,rfl,h1,_,_,rfl,h2,rfl⟩:=h
  simp only [Sh.ok] at h0
  obtain ⟨x0,rfl,_⟩:=h0
  simp only [Sh.ok] at h1
  obtain ⟨x1,rfl,_⟩:=h1
  simp only [Sh.ok] at h2
  obtain ⟨x2,rfl,_⟩:=h2
  exact ⟨⟨x0,x1,x2⟩,rfl⟩
def Metre.sh : Sh:=.struct [.int .i64,.int .i64,.struct [.int .i64,.int .i64,.int .i64,.int .i64,.int .i64,.int .i64]]
theorem Metre.opn {as : List AV} (h : Metre.sh.ok as) : ∃ x : Metre,as = x.enc.cells:=by
  simp only [Metre.sh,Sh.ok,Sh.oks] at h
  obtain ⟨_,_,rfl,⟨a,rfl,_⟩,_,_,rfl,⟨b,rfl,_⟩,_,_,rfl,⟨_,_,rfl,⟨c0,rfl,_⟩,_,_,rfl,⟨c1,rfl,_⟩,_,_,rfl,⟨c2,rfl,_⟩,_,_,rfl,⟨c3,rfl,_⟩,_,_,rfl,⟨c4,rfl,_⟩,_,_,rfl,⟨c5,rfl,_⟩,rfl⟩,rfl⟩:=h
  exact ⟨⟨a,b,c0,c1,c2,c3,c4,c5⟩,rfl⟩
def Interval.sh : Sh:=.struct [.int .i64,.int .i64]
theorem Interval.opn {as : List AV} (h : Interval.sh.ok as) : ∃ x : Interval,as = x.enc.cells:=by
  simp only [Interval.sh] at h
  simp only [Sh.ok.eq_5,Sh.oks] at h
  obtain ⟨_,_,rfl,h0,_,_,rfl,h1,rfl⟩:=h
  simp only [Sh.ok] at h0
  obtain ⟨x0,rfl,_⟩:=h0
  simp only [Sh.ok] at h1
  obtain ⟨x1,rfl,_⟩:=h1
  exact ⟨⟨x0,x1⟩,rfl⟩
def Cmd.sh : Sh:=.struct [.int .i64,.int .i64,.int .i64,ID.sh,ID.sh,.int .i64,.int .i64,.int .i64,.int .i64,.int .i64,Val.sh,Pitch.sh,Metre.sh,Interval.sh,.str]
theorem Cmd.opn {as : List AV} (h : Cmd.sh.ok as) : ∃ x : Cmd,as = x.enc.cells:=by
  simp only [Cmd.sh] at h
  simp only [Sh.ok.eq_5,Sh.oks] at h
  obtain ⟨_,_,rfl,h0,_,_,rfl,h1,_,_,rfl,h2,_,_,rfl,h3,_,_,rfl,h4,_,_,rfl,h5,_,_,rfl,h6,_,_,rfl,h7,_,_,rfl,h8,_,_,rfl,h9,_,_,rfl,h10,_,_,rfl,h11,_,_,rfl,h12,_,_,rfl,h13,_,_,rfl,h14,rfl⟩:=h
  simp only [Sh.ok] at h0
  obtain ⟨x0,rfl,_⟩:=h0
  simp only [Sh.ok] at h1
  obtain ⟨x1,rfl,_⟩:=h1
  simp only [Sh.ok] at h2
  obtain ⟨x2,rfl,_⟩:=h2
  obtain ⟨x3,rfl⟩:=ID.opn h3
  obtain ⟨x4,rfl⟩:=ID.opn h4
  simp only [Sh.ok] at h5
  obtain ⟨x5,rfl,_⟩:=h5
  simp only [Sh.ok] at h6
  obtain ⟨x6,rfl,_⟩:=h6
  simp only [Sh.ok] at h7
  obtain ⟨x7,rfl,_⟩:=h7
  simp only [Sh.ok] at h8
  obtain ⟨x8,rfl,_⟩:=h8
  simp only [Sh.ok] at h9
  obtain ⟨x9,rfl,_⟩:=h9
  obtain ⟨x10,rfl⟩:=Val.opn h10
  obtain ⟨x11,rfl⟩:=Pitch.opn h11
  obtain ⟨x12,rfl⟩:=Metre.opn h12
  obtain ⟨x13,rfl⟩:=Interval.opn h13
  simp only [Sh.ok] at h14
  obtain ⟨x14,rfl,_⟩:=h14
  exact ⟨⟨x0,x1,x2,x3,x4,x5,x6,x7,x8,x9,x10,x11,x12,x13,x14⟩,rfl⟩
end Go.Hem
