/-
  Words and walks for DeciderProposes. No condition.
-/
import Derived.Test.YtajehicfjidaiaaGreatDoorRows
import Derived.Test.YtajehicfjidaiaaGreatDoorDeciderProposesX3
set_option linter.unusedSectionVars false
set_option linter.unnecessarySimpa false
set_option linter.unusedSimpArgs false
set_option linter.unusedVariables false
set_option maxRecDepth 100000
namespace Go.RX.L
open Go Go.RX Go.Proofs
def gl_parts:List Int:= [65536,62757,60097,57549,55109,52773,50535,48393,46341,44376,42495,40693,38968,37316,35734,34219]
def gl_deBruijn64tab:List Int:= [0,1,56,2,57,49,28,3,61,58,42,50,38,29,17,4,62,47,59,36,45,43,51,22,53,39,33,30,24,18,12,5,63,55,48,27,60,41,37,16,46,35,44,21,52,32,23,11,54,26,40,15,34,20,31,10,25,14,19,9,13,8,7,6]
def gl_four:List Int:= [0,498536548,997073096,651767980,1994146192,1802195444,1303535960,1342533948,3988292384,4027552580,3604390888,3412177804,2607071920,2262029012,2685067896,3183342108]
def by5:List UInt8:= [0,1,2,2,3,3,3,3,4,4,4,4,4,4,4,4,5,5,5,5,5,5,5,5,5,5,5,5,5,5,5,5,6,6,6,6,6,6,6,6,6,6,6,6,6,6,6,6,6,6,6,6,6,6,6,6,6,6,6,6,6,6,6,6,7,7,7,7,7,7,7,7,7,7,7,7,7,7,7,7,7,7,7,7,7,7,7,7,7,7,7,7,7,7,7,7,7,7,7,7,7,7,7,7,7,7,7,7,7,7,7,7,7,7,7,7,7,7,7,7,7,7,7,7,7,7,7,7,8,8,8,8,8,8,8,8,8,8,8,8,8,8,8,8,8,8,8,8,8,8,8,8,8,8,8,8,8,8,8,8,8,8,8,8,8,8,8,8,8,8,8,8,8,8,8,8,8,8,8,8,8,8,8,8,8,8,8,8,8,8,8,8,8,8,8,8,8,8,8,8,8,8,8,8,8,8,8,8,8,8,8,8,8,8,8,8,8,8,8,8,8,8,8,8,8,8,8,8,8,8,8,8,8,8,8,8,8,8,8,8,8,8,8,8,8,8,8,8,8,8,8,8,8,8,8,8]
noncomputable def E:L6:=⟨Tryz.prog,fun f=>⟨f==8 || f==10 || f==12 || f==13 || f==18 || f==21 || f==23 || f==24 || f==25 || f==28 || f==30 || f==32 || f==37 || f==49 || f==50 || f==51 || f==52 || f==53 || f==55 || f==63 || f==64 || f==66 || f==67 || f==68 || f==86 || f==87 || f==88 || f==93 || f==94 || f==106 || f==110 || f==117 || f==121 || f==123 || f==125 || f==126 || f==140 || f==144 || f==151 || f==152,f==10 || f==12 || f==13 || f==18 || f==21 || f==23 || f==24 || f==25 || f==29 || f==30 || f==32 || f==49 || f==50 || f==51 || f==52 || f==53 || f==55 || f==63 || f==64 || f==66 || f==67 || f==68 || f==85 || f==86 || f==87 || f==88 || f==89 || f==91 || f==93 || f==94 || f==106 || f==109 || f==117 || f==125 || f==126 || f==147 || f==152,f==105 || f==138 || f==146,f==12 || f==13 || f==18 || f==21 || f==23 || f==49 || f==64 || f==68 || f==88 || f==106⟩,fun g=>bif g==2 then .iptr 1 (List.map (d8 .u32) gl_four) 0 0 else bif g==1 then .iptr 1 (List.map (d8 .u8) gl_deBruijn64tab) 0 0 else bif g==0 then .iptr 1 (List.map (d8 .i64) gl_parts) 0 0 else .undef⟩
theorem hm:E.P.follows .mixedOrders=true:=Tryz.checked.mixed
instance:Mix E:=⟨hm⟩
structure d9 where
 F_:Int
 Deciders:Int
 Targets:Int
 Routers:Int
 Observers:Int
 Tiers:List Int
 Every:Int
 Wait:Int
 Rise:Int
 Fall:Int
 Fresh:Int
 L_:Int
 M_:Int
 Dwell:Int
 D_:Int
 W_:Int
 B_:Int
 Hit:Int
 Suppress:Int
 Reuse:Int
 Half:Int
 First:Int
 Step:Int
 StepTime:Int
 S_:Int
 Cap:Int
 Span:Int
 Room:Int
 Tries:Int
 Retry:Int
def d9.enc (x:d9):List D:= [D.int .i64 x.F_,D.int .i64 x.Deciders,D.int .i64 x.Targets,D.int .i64 x.Routers,D.int .i64 x.Observers,D.sl false 1 (List.map (d8 .i64) x.Tiers),D.int .i64 x.Every,D.int .i64 x.Wait,D.int .i64 x.Rise,D.int .i64 x.Fall,D.int .i64 x.Fresh,D.int .i64 x.L_,D.int .i64 x.M_,D.int .i64 x.Dwell,D.int .i64 x.D_,D.int .i64 x.W_,D.int .i64 x.B_,D.int .i64 x.Hit,D.int .i64 x.Suppress,D.int .i64 x.Reuse,D.int .i64 x.Half,D.int .i64 x.First,D.int .i64 x.Step,D.int .i64 x.StepTime,D.int .i64 x.S_,D.int .i64 x.Cap,D.int .i64 x.Span,D.int .i64 x.Room,D.int .i64 x.Tries,D.int .i64 x.Retry]
def d9.encL (x:d9) (r:List D):List D:=D.int .i64 x.F_::D.int .i64 x.Deciders::D.int .i64 x.Targets::D.int .i64 x.Routers::D.int .i64 x.Observers::D.sl false 1 (List.map (d8 .i64) x.Tiers)::D.int .i64 x.Every::D.int .i64 x.Wait::D.int .i64 x.Rise::D.int .i64 x.Fall::D.int .i64 x.Fresh::D.int .i64 x.L_::D.int .i64 x.M_::D.int .i64 x.Dwell::D.int .i64 x.D_::D.int .i64 x.W_::D.int .i64 x.B_::D.int .i64 x.Hit::D.int .i64 x.Suppress::D.int .i64 x.Reuse::D.int .i64 x.Half::D.int .i64 x.First::D.int .i64 x.Step::D.int .i64 x.StepTime::D.int .i64 x.S_::D.int .i64 x.Cap::D.int .i64 x.Span::D.int .i64 x.Room::D.int .i64 x.Tries::D.int .i64 x.Retry::r
def i5 (n:Nat) (l:List (List D)):D:=.msl n 0 l.length l.length false
def d9.l (x:d9) (r:List D):List D:=D.int .i64 x.F_::D.int .i64 x.Deciders::D.int .i64 x.Targets::D.int .i64 x.Routers::D.int .i64 x.Observers::D.sl false 1 (List.map (d8 .i64) x.Tiers)::D.int .i64 x.Every::D.int .i64 x.Wait::D.int .i64 x.Rise::D.int .i64 x.Fall::D.int .i64 x.Fresh::D.int .i64 x.L_::D.int .i64 x.M_::D.int .i64 x.Dwell::D.int .i64 x.D_::D.int .i64 x.W_::D.int .i64 x.B_::D.int .i64 x.Hit::D.int .i64 x.Suppress::D.int .i64 x.Reuse::D.int .i64 x.Half::D.int .i64 x.First::D.int .i64 x.Step::D.int .i64 x.StepTime::D.int .i64 x.S_::D.int .i64 x.Cap::D.int .i64 x.Span::D.int .i64 x.Room::D.int .i64 x.Tries::D.int .i64 x.Retry::r
def d9.Ok (x:d9):Prop:=u0 .i64 x.F_∧u0 .i64 x.Deciders∧u0 .i64 x.Targets∧u0 .i64 x.Routers∧u0 .i64 x.Observers∧(x.Tiers.length*8≤reachBytes∧∀y∈x.Tiers,u0 .i64 y)∧u0 .i64 x.Every∧u0 .i64 x.Wait∧u0 .i64 x.Rise∧u0 .i64 x.Fall∧u0 .i64 x.Fresh∧u0 .i64 x.L_∧u0 .i64 x.M_∧u0 .i64 x.Dwell∧u0 .i64 x.D_∧u0 .i64 x.W_∧u0 .i64 x.B_∧u0 .i64 x.Hit∧u0 .i64 x.Suppress∧u0 .i64 x.Reuse∧u0 .i64 x.Half∧u0 .i64 x.First∧u0 .i64 x.Step∧u0 .i64 x.StepTime∧u0 .i64 x.S_∧u0 .i64 x.Cap∧u0 .i64 x.Span∧u0 .i64 x.Room∧u0 .i64 x.Tries∧u0 .i64 x.Retry
structure Plan where
 Epoch:Int
 Target:Int
 Prev:Int
 Spill:Int
 Percent:Int
 Stamp:Int
 Since:Int
 Ramped:Int
 Up:Int
 Sup:Int
 Pen:List Int
 Changes:List Int
def Plan.enc (x:Plan):List D:= [D.int .i64 x.Epoch,D.int .i64 x.Target,D.int .i64 x.Prev,D.int .i64 x.Spill,D.int .i64 x.Percent,D.int .i64 x.Stamp,D.int .i64 x.Since,D.int .i64 x.Ramped,D.int .u64 x.Up,D.int .u64 x.Sup,D.sl false 1 (List.map (d8 .i64) x.Pen),D.sl false 1 (List.map (d8 .i64) x.Changes)]
def Plan.encL (x:Plan) (r:List D):List D:=D.int .i64 x.Epoch::D.int .i64 x.Target::D.int .i64 x.Prev::D.int .i64 x.Spill::D.int .i64 x.Percent::D.int .i64 x.Stamp::D.int .i64 x.Since::D.int .i64 x.Ramped::D.int .u64 x.Up::D.int .u64 x.Sup::D.sl false 1 (List.map (d8 .i64) x.Pen)::D.sl false 1 (List.map (d8 .i64) x.Changes)::r
def Plan.l (x:Plan) (r:List D):List D:=D.int .i64 x.Epoch::D.int .i64 x.Target::D.int .i64 x.Prev::D.int .i64 x.Spill::D.int .i64 x.Percent::D.int .i64 x.Stamp::D.int .i64 x.Since::D.int .i64 x.Ramped::D.int .u64 x.Up::D.int .u64 x.Sup::D.sl false 1 (List.map (d8 .i64) x.Pen)::D.sl false 1 (List.map (d8 .i64) x.Changes)::r
def Plan.Ok (x:Plan):Prop:=u0 .i64 x.Epoch∧u0 .i64 x.Target∧u0 .i64 x.Prev∧u0 .i64 x.Spill∧u0 .i64 x.Percent∧u0 .i64 x.Stamp∧u0 .i64 x.Since∧u0 .i64 x.Ramped∧u0 .u64 x.Up∧u0 .u64 x.Sup∧(x.Pen.length*8≤reachBytes∧∀y∈x.Pen,u0 .i64 y)∧(x.Changes.length*8≤reachBytes∧∀y∈x.Changes,u0 .i64 y)
structure f5 where
 Kind:Int
 From:Int
 To:Int
 Epoch:Int
 Ballot:Int
 Accepted:Int
 Nonce:Int
 Time:Int
 Up:Int
 Code:Int
 HasPlan:Bool
 Plan:Plan
 ID:List Int
 Session:List Int
 Payload:List Int
def f5.enc (x:f5):List D:= [D.int .i64 x.Kind,D.int .i64 x.From,D.int .i64 x.To,D.int .i64 x.Epoch,D.int .i64 x.Ballot,D.int .i64 x.Accepted,D.int .i64 x.Nonce,D.int .i64 x.Time,D.int .u64 x.Up,D.int .i64 x.Code,D.bool x.HasPlan,D.int .i64 x.Plan.Epoch,D.int .i64 x.Plan.Target,D.int .i64 x.Plan.Prev,D.int .i64 x.Plan.Spill,D.int .i64 x.Plan.Percent,D.int .i64 x.Plan.Stamp,D.int .i64 x.Plan.Since,D.int .i64 x.Plan.Ramped,D.int .u64 x.Plan.Up,D.int .u64 x.Plan.Sup,D.sl false 1 (List.map (d8 .i64) x.Plan.Pen),D.sl false 1 (List.map (d8 .i64) x.Plan.Changes),D.sl false 1 (List.map (d8 .i64) x.ID),D.sl false 1 (List.map (d8 .u8) x.Session),D.sl false 1 (List.map (d8 .u8) x.Payload)]
def f5.l (x:f5) (r:List D):List D:=D.int .i64 x.Kind::D.int .i64 x.From::D.int .i64 x.To::D.int .i64 x.Epoch::D.int .i64 x.Ballot::D.int .i64 x.Accepted::D.int .i64 x.Nonce::D.int .i64 x.Time::D.int .u64 x.Up::D.int .i64 x.Code::D.bool x.HasPlan::D.int .i64 x.Plan.Epoch::D.int .i64 x.Plan.Target::D.int .i64 x.Plan.Prev::D.int .i64 x.Plan.Spill::D.int .i64 x.Plan.Percent::D.int .i64 x.Plan.Stamp::D.int .i64 x.Plan.Since::D.int .i64 x.Plan.Ramped::D.int .u64 x.Plan.Up::D.int .u64 x.Plan.Sup::D.sl false 1 (List.map (d8 .i64) x.Plan.Pen)::D.sl false 1 (List.map (d8 .i64) x.Plan.Changes)::D.sl false 1 (List.map (d8 .i64) x.ID)::D.sl false 1 (List.map (d8 .u8) x.Session)::D.sl false 1 (List.map (d8 .u8) x.Payload)::r
def f5.Ok (x:f5):Prop:=u0 .i64 x.Kind∧u0 .i64 x.From∧u0 .i64 x.To∧u0 .i64 x.Epoch∧u0 .i64 x.Ballot∧u0 .i64 x.Accepted∧u0 .i64 x.Nonce∧u0 .i64 x.Time∧u0 .u64 x.Up∧u0 .i64 x.Code∧True∧x.Plan.Ok∧(x.ID.length*8≤reachBytes∧∀y∈x.ID,u0 .i64 y)∧(x.Session.length*1≤reachBytes∧∀y∈x.Session,u0 .u8 y)∧(x.Payload.length*1≤reachBytes∧∀y∈x.Payload,u0 .u8 y)
structure Op where
 What:Int
 M_:f5
 Now:Int
 N_:Int
def Op.enc (x:Op):List D:= [D.int .i64 x.What,D.int .i64 x.M_.Kind,D.int .i64 x.M_.From,D.int .i64 x.M_.To,D.int .i64 x.M_.Epoch,D.int .i64 x.M_.Ballot,D.int .i64 x.M_.Accepted,D.int .i64 x.M_.Nonce,D.int .i64 x.M_.Time,D.int .u64 x.M_.Up,D.int .i64 x.M_.Code,D.bool x.M_.HasPlan,D.int .i64 x.M_.Plan.Epoch,D.int .i64 x.M_.Plan.Target,D.int .i64 x.M_.Plan.Prev,D.int .i64 x.M_.Plan.Spill,D.int .i64 x.M_.Plan.Percent,D.int .i64 x.M_.Plan.Stamp,D.int .i64 x.M_.Plan.Since,D.int .i64 x.M_.Plan.Ramped,D.int .u64 x.M_.Plan.Up,D.int .u64 x.M_.Plan.Sup,D.sl false 1 (List.map (d8 .i64) x.M_.Plan.Pen),D.sl false 1 (List.map (d8 .i64) x.M_.Plan.Changes),D.sl false 1 (List.map (d8 .i64) x.M_.ID),D.sl false 1 (List.map (d8 .u8) x.M_.Session),D.sl false 1 (List.map (d8 .u8) x.M_.Payload),D.int .i64 x.Now,D.int .i64 x.N_]
def Op.l (x:Op) (r:List D):List D:=D.int .i64 x.What::D.int .i64 x.M_.Kind::D.int .i64 x.M_.From::D.int .i64 x.M_.To::D.int .i64 x.M_.Epoch::D.int .i64 x.M_.Ballot::D.int .i64 x.M_.Accepted::D.int .i64 x.M_.Nonce::D.int .i64 x.M_.Time::D.int .u64 x.M_.Up::D.int .i64 x.M_.Code::D.bool x.M_.HasPlan::D.int .i64 x.M_.Plan.Epoch::D.int .i64 x.M_.Plan.Target::D.int .i64 x.M_.Plan.Prev::D.int .i64 x.M_.Plan.Spill::D.int .i64 x.M_.Plan.Percent::D.int .i64 x.M_.Plan.Stamp::D.int .i64 x.M_.Plan.Since::D.int .i64 x.M_.Plan.Ramped::D.int .u64 x.M_.Plan.Up::D.int .u64 x.M_.Plan.Sup::D.sl false 1 (List.map (d8 .i64) x.M_.Plan.Pen)::D.sl false 1 (List.map (d8 .i64) x.M_.Plan.Changes)::D.sl false 1 (List.map (d8 .i64) x.M_.ID)::D.sl false 1 (List.map (d8 .u8) x.M_.Session)::D.sl false 1 (List.map (d8 .u8) x.M_.Payload)::D.int .i64 x.Now::D.int .i64 x.N_::r
def Op.Ok (x:Op):Prop:=u0 .i64 x.What∧x.M_.Ok∧u0 .i64 x.Now∧u0 .i64 x.N_
structure i8 where
 Observer:Int
 Up:Int
 At:Int
def i8.enc (x:i8):List D:= [D.int .i64 x.Observer,D.int .u64 x.Up,D.int .i64 x.At]
def i8.l (x:i8) (r:List D):List D:=D.int .i64 x.Observer::D.int .u64 x.Up::D.int .i64 x.At::r
def i8.Ok (x:i8):Prop:=u0 .i64 x.Observer∧u0 .u64 x.Up∧u0 .i64 x.At
structure u4 where
 Epoch:Int
 Nonce:Int
 Grants:Int
 Until:Int
def u4.enc (x:u4):List D:= [D.int .i64 x.Epoch,D.int .i64 x.Nonce,D.int .u64 x.Grants,D.int .i64 x.Until]
def u4.l (x:u4) (r:List D):List D:=D.int .i64 x.Epoch::D.int .i64 x.Nonce::D.int .u64 x.Grants::D.int .i64 x.Until::r
def u4.Ok (x:u4):Prop:=u0 .i64 x.Epoch∧u0 .i64 x.Nonce∧u0 .u64 x.Grants∧u0 .i64 x.Until
structure aa3 where
 ever:Bool
 at_:Int
def aa3.enc (x:aa3):List D:= [D.bool x.ever,D.int .i64 x.at_]
def aa3.Ok (x:aa3):Prop:=True∧u0 .i64 x.at_
structure l7 where
 Epoch:Int
 Ballot:Int
 Phase:Int
 Own:Plan
 Best:Int
 Value:Plan
 Promises:Int
 Accepts:Int
def l7.enc (x:l7):List D:= [D.int .i64 x.Epoch,D.int .i64 x.Ballot,D.int .i64 x.Phase,D.int .i64 x.Own.Epoch,D.int .i64 x.Own.Target,D.int .i64 x.Own.Prev,D.int .i64 x.Own.Spill,D.int .i64 x.Own.Percent,D.int .i64 x.Own.Stamp,D.int .i64 x.Own.Since,D.int .i64 x.Own.Ramped,D.int .u64 x.Own.Up,D.int .u64 x.Own.Sup,D.sl false 1 (List.map (d8 .i64) x.Own.Pen),D.sl false 1 (List.map (d8 .i64) x.Own.Changes),D.int .i64 x.Best,D.int .i64 x.Value.Epoch,D.int .i64 x.Value.Target,D.int .i64 x.Value.Prev,D.int .i64 x.Value.Spill,D.int .i64 x.Value.Percent,D.int .i64 x.Value.Stamp,D.int .i64 x.Value.Since,D.int .i64 x.Value.Ramped,D.int .u64 x.Value.Up,D.int .u64 x.Value.Sup,D.sl false 1 (List.map (d8 .i64) x.Value.Pen),D.sl false 1 (List.map (d8 .i64) x.Value.Changes),D.int .u64 x.Promises,D.int .u64 x.Accepts]
def l7.l (x:l7) (r:List D):List D:=D.int .i64 x.Epoch::D.int .i64 x.Ballot::D.int .i64 x.Phase::D.int .i64 x.Own.Epoch::D.int .i64 x.Own.Target::D.int .i64 x.Own.Prev::D.int .i64 x.Own.Spill::D.int .i64 x.Own.Percent::D.int .i64 x.Own.Stamp::D.int .i64 x.Own.Since::D.int .i64 x.Own.Ramped::D.int .u64 x.Own.Up::D.int .u64 x.Own.Sup::D.sl false 1 (List.map (d8 .i64) x.Own.Pen)::D.sl false 1 (List.map (d8 .i64) x.Own.Changes)::D.int .i64 x.Best::D.int .i64 x.Value.Epoch::D.int .i64 x.Value.Target::D.int .i64 x.Value.Prev::D.int .i64 x.Value.Spill::D.int .i64 x.Value.Percent::D.int .i64 x.Value.Stamp::D.int .i64 x.Value.Since::D.int .i64 x.Value.Ramped::D.int .u64 x.Value.Up::D.int .u64 x.Value.Sup::D.sl false 1 (List.map (d8 .i64) x.Value.Pen)::D.sl false 1 (List.map (d8 .i64) x.Value.Changes)::D.int .u64 x.Promises::D.int .u64 x.Accepts::r
def l7.Ok (x:l7):Prop:=u0 .i64 x.Epoch∧u0 .i64 x.Ballot∧u0 .i64 x.Phase∧x.Own.Ok∧u0 .i64 x.Best∧x.Value.Ok∧u0 .u64 x.Promises∧u0 .u64 x.Accepts
structure f3 where
 boot:Int
 known:Plan
 heard:Int
 votes:List i8
 hold:u4
 asked:aa3
 prop:l7
 made:Int
 top:Int
 sealed:Int
 told:aa3
def f3.enc (x:f3):List D:= [D.int .i64 x.boot,D.int .i64 x.known.Epoch,D.int .i64 x.known.Target,D.int .i64 x.known.Prev,D.int .i64 x.known.Spill,D.int .i64 x.known.Percent,D.int .i64 x.known.Stamp,D.int .i64 x.known.Since,D.int .i64 x.known.Ramped,D.int .u64 x.known.Up,D.int .u64 x.known.Sup,D.sl false 1 (List.map (d8 .i64) x.known.Pen),D.sl false 1 (List.map (d8 .i64) x.known.Changes),D.int .i64 x.heard,D.sl false 3 (List.map i8.enc x.votes),D.int .i64 x.hold.Epoch,D.int .i64 x.hold.Nonce,D.int .u64 x.hold.Grants,D.int .i64 x.hold.Until,D.bool x.asked.ever,D.int .i64 x.asked.at_,D.int .i64 x.prop.Epoch,D.int .i64 x.prop.Ballot,D.int .i64 x.prop.Phase,D.int .i64 x.prop.Own.Epoch,D.int .i64 x.prop.Own.Target,D.int .i64 x.prop.Own.Prev,D.int .i64 x.prop.Own.Spill,D.int .i64 x.prop.Own.Percent,D.int .i64 x.prop.Own.Stamp,D.int .i64 x.prop.Own.Since,D.int .i64 x.prop.Own.Ramped,D.int .u64 x.prop.Own.Up,D.int .u64 x.prop.Own.Sup,D.sl false 1 (List.map (d8 .i64) x.prop.Own.Pen),D.sl false 1 (List.map (d8 .i64) x.prop.Own.Changes),D.int .i64 x.prop.Best,D.int .i64 x.prop.Value.Epoch,D.int .i64 x.prop.Value.Target,D.int .i64 x.prop.Value.Prev,D.int .i64 x.prop.Value.Spill,D.int .i64 x.prop.Value.Percent,D.int .i64 x.prop.Value.Stamp,D.int .i64 x.prop.Value.Since,D.int .i64 x.prop.Value.Ramped,D.int .u64 x.prop.Value.Up,D.int .u64 x.prop.Value.Sup,D.sl false 1 (List.map (d8 .i64) x.prop.Value.Pen),D.sl false 1 (List.map (d8 .i64) x.prop.Value.Changes),D.int .u64 x.prop.Promises,D.int .u64 x.prop.Accepts,D.int .i64 x.made,D.int .i64 x.top,D.int .u64 x.sealed,D.bool x.told.ever,D.int .i64 x.told.at_]
def f3.l (x:f3) (r:List D):List D:=D.int .i64 x.boot::D.int .i64 x.known.Epoch::D.int .i64 x.known.Target::D.int .i64 x.known.Prev::D.int .i64 x.known.Spill::D.int .i64 x.known.Percent::D.int .i64 x.known.Stamp::D.int .i64 x.known.Since::D.int .i64 x.known.Ramped::D.int .u64 x.known.Up::D.int .u64 x.known.Sup::D.sl false 1 (List.map (d8 .i64) x.known.Pen)::D.sl false 1 (List.map (d8 .i64) x.known.Changes)::D.int .i64 x.heard::D.sl false 3 (List.map i8.enc x.votes)::D.int .i64 x.hold.Epoch::D.int .i64 x.hold.Nonce::D.int .u64 x.hold.Grants::D.int .i64 x.hold.Until::D.bool x.asked.ever::D.int .i64 x.asked.at_::D.int .i64 x.prop.Epoch::D.int .i64 x.prop.Ballot::D.int .i64 x.prop.Phase::D.int .i64 x.prop.Own.Epoch::D.int .i64 x.prop.Own.Target::D.int .i64 x.prop.Own.Prev::D.int .i64 x.prop.Own.Spill::D.int .i64 x.prop.Own.Percent::D.int .i64 x.prop.Own.Stamp::D.int .i64 x.prop.Own.Since::D.int .i64 x.prop.Own.Ramped::D.int .u64 x.prop.Own.Up::D.int .u64 x.prop.Own.Sup::D.sl false 1 (List.map (d8 .i64) x.prop.Own.Pen)::D.sl false 1 (List.map (d8 .i64) x.prop.Own.Changes)::D.int .i64 x.prop.Best::D.int .i64 x.prop.Value.Epoch::D.int .i64 x.prop.Value.Target::D.int .i64 x.prop.Value.Prev::D.int .i64 x.prop.Value.Spill::D.int .i64 x.prop.Value.Percent::D.int .i64 x.prop.Value.Stamp::D.int .i64 x.prop.Value.Since::D.int .i64 x.prop.Value.Ramped::D.int .u64 x.prop.Value.Up::D.int .u64 x.prop.Value.Sup::D.sl false 1 (List.map (d8 .i64) x.prop.Value.Pen)::D.sl false 1 (List.map (d8 .i64) x.prop.Value.Changes)::D.int .u64 x.prop.Promises::D.int .u64 x.prop.Accepts::D.int .i64 x.made::D.int .i64 x.top::D.int .u64 x.sealed::D.bool x.told.ever::D.int .i64 x.told.at_::r
def f3.Ok (x:f3):Prop:=u0 .i64 x.boot∧x.known.Ok∧u0 .i64 x.heard∧(x.votes.length*24≤reachBytes∧∀y∈x.votes,y.Ok)∧x.hold.Ok∧x.asked.Ok∧x.prop.Ok∧u0 .i64 x.made∧u0 .i64 x.top∧u0 .u64 x.sealed∧x.told.Ok
structure v6 where
 synced:List Int
 tail:List Int
 fuse:Int
 down:Bool
def v6.enc (x:v6):List D:= [D.sl false 1 (List.map (d8 .u8) x.synced),D.sl false 1 (List.map (d8 .u8) x.tail),D.int .i64 x.fuse,D.bool x.down]
def v6.l (x:v6) (r:List D):List D:=D.sl false 1 (List.map (d8 .u8) x.synced)::D.sl false 1 (List.map (d8 .u8) x.tail)::D.int .i64 x.fuse::D.bool x.down::r
def v6.Ok (x:v6):Prop:=(x.synced.length*1≤reachBytes∧∀y∈x.synced,u0 .u8 y)∧(x.tail.length*1≤reachBytes∧∀y∈x.tail,u0 .u8 y)∧u0 .i64 x.fuse∧True
structure u9 where
 bits:Int
 n:Int
 most:Int
def u9.enc (x:u9):List D:= [D.int .i64 x.bits,D.int .i64 x.n,D.int .i64 x.most]
def u9.l (x:u9) (r:List D):List D:=D.int .i64 x.bits::D.int .i64 x.n::D.int .i64 x.most::r
def u9.Ok (x:u9):Prop:=u0 .i64 x.bits∧u0 .i64 x.n∧u0 .i64 x.most
structure ap2 where
 kind:Int
 body:List Int
def ap2.enc (x:ap2):List D:= [D.int .u8 x.kind,D.sl false 1 (List.map (d8 .u8) x.body)]
def ap2.Ok (x:ap2):Prop:=u0 .u8 x.kind∧(x.body.length*1≤reachBytes∧∀y∈x.body,u0 .u8 y)
structure bu3 where
 at_:Int
 e:Int
def bu3.enc (x:bu3):List D:= [D.int .i64 x.at_,D.int .i64 x.e]
def bu3.Ok (x:bu3):Prop:=u0 .i64 x.at_∧u0 .i64 x.e
structure p6 where
 place:bu3
 b:List Int
def p6.enc (x:p6):List D:= [D.int .i64 x.place.at_,D.int .i64 x.place.e,D.sl false 1 (List.map (d8 .u8) x.b)]
def p6.l (x:p6) (r:List D):List D:=D.int .i64 x.place.at_::D.int .i64 x.place.e::D.sl false 1 (List.map (d8 .u8) x.b)::r
def p6.Ok (x:p6):Prop:=x.place.Ok∧(x.b.length*1≤reachBytes∧∀y∈x.b,u0 .u8 y)
structure E6 where
 Ballot:Int
 Plan:Plan
def E6.enc (x:E6):List D:= [D.int .i64 x.Ballot,D.int .i64 x.Plan.Epoch,D.int .i64 x.Plan.Target,D.int .i64 x.Plan.Prev,D.int .i64 x.Plan.Spill,D.int .i64 x.Plan.Percent,D.int .i64 x.Plan.Stamp,D.int .i64 x.Plan.Since,D.int .i64 x.Plan.Ramped,D.int .u64 x.Plan.Up,D.int .u64 x.Plan.Sup,D.sl false 1 (List.map (d8 .i64) x.Plan.Pen),D.sl false 1 (List.map (d8 .i64) x.Plan.Changes)]
def E6.l (x:E6) (r:List D):List D:=D.int .i64 x.Ballot::D.int .i64 x.Plan.Epoch::D.int .i64 x.Plan.Target::D.int .i64 x.Plan.Prev::D.int .i64 x.Plan.Spill::D.int .i64 x.Plan.Percent::D.int .i64 x.Plan.Stamp::D.int .i64 x.Plan.Since::D.int .i64 x.Plan.Ramped::D.int .u64 x.Plan.Up::D.int .u64 x.Plan.Sup::D.sl false 1 (List.map (d8 .i64) x.Plan.Pen)::D.sl false 1 (List.map (d8 .i64) x.Plan.Changes)::r
def E6.Ok (x:E6):Prop:=u0 .i64 x.Ballot∧x.Plan.Ok
end Go.RX.L

set_option maxHeartbeats 4000000
namespace Go.RX.L
open Go Go.RX Go.Proofs
attribute [local irreducible] i4
noncomputable def cA1 (y:List i8):D×i0:=((i5 0 (List.map i8.enc y)),[some ⟨3,false,(List.map i8.enc y)⟩])
noncomputable def ak0 (s_:List i8):Option (List i8):=(bif (decide ((0+(List.map i8.enc s_).length)*24≤l6)) then (some s_) else none)
theorem bw1 {s_ r:List i8} (h:ak0 s_=some r):i7 E 37 [.sl false 3 (List.map i8.enc s_)] [] (Rs cA1 r):=so (fn:=Tryz.f37) (k:=true) (m:=0) h<| by
 intro r h;unfold ak0 at h
 refine n8 hm 9 _ ?_
 refine cQ8 (List.isEmpty (List.map i8.enc s_)) (by kernel_rfl) ?_ (fun h1=> ?_)
 ·--it is not nil
  refine zn 9 h fun h=> ?_
  refine zw 1 (a:=(List.map i8.enc s_)) (b:=(List.map i8.enc s_)) (rfl) ?_
  exact zu 3 h
 ·--nil
  obtain rfl:s_= []:=by simpa using h1
  simp[l6] at h
  subst h
  refine n8 hm 8 _ ?_
  exact aY9 [.mat 0 3] (d:=.msl 0 0 0 0 false) (s:= [some ⟨3,false,[]⟩]) (by kernel_rfl) Cx.fin_of ⟨rfl,rfl⟩
noncomputable def dw8 (y:Bool):D×i0:=(.bool y,[])
noncomputable def bl2 (v:i8) (t:Int):Option Bool:=(some (v.Observer==t))
theorem dn2 {v:i8}{t:Int}{r:Bool} (h:bl2 v t=some r):i7 E 134 [.agg (i8.enc v),.iptr 1 [[.int .i64 t]] 0 0] [] (Rs dw8 r):=so (fn:=Tryz.f134) (k:=false) (m:=0) h<| by
 intro r h;unfold bl2 at h
 exact zu 16 h
noncomputable def aO7:=u5 (u6 Tryz.f101)
noncomputable def aS5 (y:Int):D×i0:=(.int .i64 y,[])
inductive R3 where
 | s0 (s_:List i8) (f:Int)
 | s1 (s_:List i8) (f t7 t8:Int)
noncomputable def aQ7:R3→M
 | .s0 s_ f=>C3 Tryz.f101 [.sl false 3 (List.map i8.enc s_),.fn 134 [] [.iptr 1 [[.int .i64 f]] 0 0]] []
 | .s1 s_ f t7 t8=>⟨[.lpc (aO7 [1,0,1,0,0]) 387,.blk 0,.code (aO7 [1,1])],[(0,.sl false 3 (List.map i8.enc s_)),(1,.fn 134 [] [.iptr 1 [[.int .i64 f]] 0 0]),(7,.int .i64 t7),(8,.int .i64 t8)],[]⟩
abbrev aQ5:=SOk E (Cx.of Tryz.f101 false 0) aS5 aQ7
noncomputable def ab1 (s_:List i8) (f:Int):Option (R3⊕Int):=(some (.inl (.s1 s_ f (((List.map i8.enc s_).length:Nat):Int) 0)))
noncomputable def M7 (s_:List i8) (f t7 t8:Int):Option (R3⊕Int):=(bif (decide (t8<t7)) then (bif ((decide ((0:Int)≤t8))&&(decide (t8<(((List.map i8.enc s_).length:Nat):Int)))) then (((s_)[t8.toNat]?).bind fun y3=>((bl2 y3 f).bind fun y5=>(bif y5 then (some (.inr t8)) else (some (.inl (.s1 s_ f t7 (IntKind.i64.wrap (t8+1)))))))) else none) else (some (.inr (-1))))
noncomputable def J1:R3→Option (R3⊕Int)
 | .s0 s_ f=>ab1 s_ f
 | .s1 s_ f t7 t8=>M7 s_ f t7 t8
theorem bv5 {s_ f}:aQ5 (.s0 s_ f) (ab1 s_ f):=by
 intro r x h ha;unfold ab1 at h
 exact zj 14 h ha
theorem bu6 {s_ f t7 t8}:aQ5 (.s1 s_ f t7 t8) (M7 s_ f t7 t8):=by
 intro r x h ha;unfold M7 at h
 refine zs 7 h (fun h=> ?_) fun h=> ?_
 ·
  refine zn 14 h fun h=> ?_
  refine zr 1 i8.enc h fun y3 h=> ?_
  refine zc 1 [] h (fun _=>dn2) fun y5 h=> ?_
  refine zs 2 h (fun h=> ?_) fun h=> ?_
  ·
   exact zt 6 h ha
  exact zj 7 h ha
 exact zt 6 h ha
noncomputable def ag1 (s_:List i8) (f:Int):Option Int:=T3 J1 (.s0 s_ f)
theorem aN8 {s_:List i8}{f r:Int} (h:ag1 s_ f=some r):i7 E 101 [.sl false 3 (List.map i8.enc s_),.fn 134 [] [.iptr 1 [[.int .i64 f]] 0 0]] [] (Rs aS5 r):=sc (fn:=Tryz.f101) (k:=false) (m:=0) (H9:=aQ7) h fun s=>by
 cases s with
 | s0=>exact bv5
 | s1=>exact bu6
noncomputable def dU8 (bo2:Int) (y:Unit):D×i0:=(.fn 134 [] [.iptr 1 [[.int .i64 bo2]] 0 0],[])
noncomputable def bp3 (bo2:Int):Option Unit:=(some ())
theorem cB1 {bo2:Int}{r:Unit} (h:bp3 bo2=some r):i7 E 102 [.int .i64 bo2] [] (Rs (dU8 bo2) r):=so (fn:=Tryz.f102) (k:=false) (m:=0) h<| by
 intro r h;unfold bp3 at h
 exact zu 11 h
noncomputable def dJ0 (y:List i8):D×i0:=(.sl false 3 (List.map i8.enc y),[])
noncomputable def bv8 (l_:List i8) (v:i8):Option (List i8):=((ak0 l_).bind fun y1=>((bp3 v.Observer).bind fun y2=>((ag1 y1 v.Observer).bind fun y3=>(bif (decide (y3≥0)) then (bif ((decide ((0:Int)≤y3))&&(decide (y3<(((List.map i8.enc y1).length:Nat):Int)))) then (((y1)[(0+y3.toNat)]?).bind fun y6=>(some (List.set y1 (0+y3.toNat) v))) else none) else (bif (decide (((List.map i8.enc y1).length+1)*24≤l6)) then (some (y1++ [v])) else none)))))
theorem dy3 {l_:List i8}{v:i8}{r:List i8} (h:bv8 l_ v=some r):i7 E 60 [.sl false 3 (List.map i8.enc l_),.agg (i8.enc v)] [] (Rs dJ0 r):=so (fn:=Tryz.f60) (k:=false) (m:=0) h<| by
 intro r h;unfold bv8 at h
 refine zc 9 [] h (fun _=>bw1) fun y1 h=> ?_
 refine zc 10 [] h (fun _=>cB1) fun y2 h=> ?_
 refine zm 1 (A7 ((List.map i8.enc y1).length)) ?_
 refine zcE 0 [] (args1:= [.sl false 3 (List.take ((List.map i8.enc y1).length) (List.drop 0 (List.map i8.enc y1))),.fn 134 [] [.iptr 1 [[.int .i64 v.Observer]] 0 0]]) h (fun _=>aN8) ⟨by simp[d9.enc,d9.l,l7.enc,l7.l,u4.enc,u4.l,v6.enc,v6.l,f5.enc,f5.l,Op.enc,Op.l,Plan.enc,Plan.l,E6.enc,E6.l,i8.enc,i8.l,u9.enc,u9.l,p6.enc,p6.l,f3.enc,f3.l,List.take_of_length_le,List.map_take,List.map_drop],rfl⟩ fun y3 h=> ?_
 refine zs 8 h (fun h=> ?_) fun h=> ?_
 ·
  refine zn 7 h fun h=> ?_
  refine zr 1 i8.enc h fun y6 h=> ?_
  refine zw 0 (a:=(List.set (List.map i8.enc y1) (0+y3.toNat) (i8.enc v))) (b:=(List.map i8.enc (List.set y1 (0+y3.toNat) v))) (bJ5 _ _ _ _) ?_
  refine zm 7 (b:=(Nat.ble (0+(List.map i8.enc y1).length) ((List.map i8.enc (List.set y1 (0+y3.toNat) v)).length))) (by simp) ?_
  obtain rfl:=Option.some.inj h
  exact as6 [] (d1:=.sl false 3 (List.take ((List.map i8.enc y1).length) (List.drop 0 (List.map i8.enc (List.set y1 (0+y3.toNat) v))))) (d:=.sl false 3 (List.map i8.enc (List.set y1 (0+y3.toNat) v))) (s1:= []) (s:= []) (by kernel_rfl) ⟨by simp[d9.enc,d9.l,l7.enc,l7.l,u4.enc,u4.l,v6.enc,v6.l,f5.enc,f5.l,Op.enc,Op.l,Plan.enc,Plan.l,E6.enc,E6.l,i8.enc,i8.l,u9.enc,u9.l,p6.enc,p6.l,f3.enc,f3.l,List.take_of_length_le,List.map_take,List.map_drop],rfl⟩ ⟨rfl,rfl⟩ Cx.fin_of
 refine zn 9 h fun h=> ?_
 refine za 0 i8.enc y1 ([v]) ?_
 refine zm 3 (A7 ((List.map i8.enc (y1++ [v])).length)) ?_
 obtain rfl:=Option.some.inj h
 exact as6 [] (d1:=.sl false 3 (List.take ((List.map i8.enc (y1++ [v])).length) (List.drop 0 (List.map i8.enc (y1++ [v]))))) (d:=.sl false 3 (List.map i8.enc (y1++ [v]))) (s1:= []) (s:= []) (by kernel_rfl) ⟨by simp[d9.enc,d9.l,l7.enc,l7.l,u4.enc,u4.l,v6.enc,v6.l,f5.enc,f5.l,Op.enc,Op.l,Plan.enc,Plan.l,E6.enc,E6.l,i8.enc,i8.l,u9.enc,u9.l,p6.enc,p6.l,f3.enc,f3.l,List.take_of_length_le,List.map_take,List.map_drop],rfl⟩ ⟨rfl,rfl⟩ Cx.fin_of
noncomputable def dA1 (y:Bool):D×i0:=(.bool y,[])
noncomputable def aH7 (n:Int):Option Bool:=(bif (decide (n≥0)) then (some (decide (n≤1099511627776))) else (some false))
theorem by1 {n:Int}{r:Bool} (h:aH7 n=some r):i7 E 114 [.int .i64 n] [] (Rs dA1 r):=so (fn:=Tryz.f114) (k:=false) (m:=0) h<| by
 intro r h;unfold aH7 at h
 refine zs 10 h (fun h=> ?_) fun h=> ?_
 ·
  exact zu 7 h
 exact zu 7 h
noncomputable def F8:=u5 (u6 Tryz.f80)
noncomputable def ci5 (y:Int):D×i0:=(.int .u64 y,[])
inductive R8 where
 | s0
 | s1 (t27:Bool)
 | s2 (V7 L2:Int) (D7:List Int)
 | s3 (V7 L2:Int) (t72:Bool) (D7:List Int) (v:i8)
 | s4 (up:Int) (t89:List Int) (t90:Int)
 | s5 (V7 L2 t73:Int) (D7:List Int) (v:i8)
noncomputable def cl3 (l_:List i8) (l4 f4 ah8:Int):R8→M
 | .s0=>C3 Tryz.f80 [.sl false 3 (List.map i8.enc l_),.int .i64 l4,.int .i64 f4,.int .i64 ah8] []
 | .s1 t27=>⟨[.code (F8 [1,1,0,1]),.code (F8 [1,1,1])],[(0,.sl false 3 (List.map i8.enc l_)),(1,.int .i64 l4),(2,.int .i64 f4),(3,.int .i64 ah8),(9,.ptr 0 0 0),(27,.bool t27)],[some ⟨1,false,[[.int .i64 0],[.int .i64 0],[.int .i64 0],[.int .i64 0],[.int .i64 0],[.int .i64 0],[.int .i64 0],[.int .i64 0],[.int .i64 0],[.int .i64 0],[.int .i64 0],[.int .i64 0],[.int .i64 0],[.int .i64 0],[.int .i64 0],[.int .i64 0],[.int .i64 0],[.int .i64 0],[.int .i64 0],[.int .i64 0],[.int .i64 0],[.int .i64 0],[.int .i64 0],[.int .i64 0],[.int .i64 0],[.int .i64 0],[.int .i64 0],[.int .i64 0],[.int .i64 0],[.int .i64 0],[.int .i64 0],[.int .i64 0],[.int .i64 0],[.int .i64 0],[.int .i64 0],[.int .i64 0],[.int .i64 0],[.int .i64 0],[.int .i64 0],[.int .i64 0],[.int .i64 0],[.int .i64 0],[.int .i64 0],[.int .i64 0],[.int .i64 0],[.int .i64 0],[.int .i64 0],[.int .i64 0],[.int .i64 0],[.int .i64 0],[.int .i64 0],[.int .i64 0],[.int .i64 0],[.int .i64 0],[.int .i64 0],[.int .i64 0],[.int .i64 0],[.int .i64 0],[.int .i64 0],[.int .i64 0],[.int .i64 0],[.int .i64 0],[.int .i64 0],[.int .i64 0]]⟩]⟩
 | .s2 V7 L2 D7=>⟨[.lpc (F8 [1,1,1,0,1,0,0]) 1879048719,.blk 0,.code (F8 [1,1,1,1])],[(0,.sl false 3 (List.map i8.enc l_)),(1,.int .i64 l4),(2,.int .i64 f4),(3,.int .i64 ah8),(9,.ptr 0 0 0),(28,.sl false 3 (List.map i8.enc l_)),(29,.int .i64 V7),(30,.int .i64 L2)],[some ⟨1,false,(List.map (d8 .i64) D7)⟩]⟩
 | .s3 V7 L2 t72 D7 v=>⟨[.code (F8 [1,1,1,0,1,0,0,1,1,0,0,1,0,1]),.code (F8 [1,1,1,0,1,0,0,1,1,0,0,1,1]),.blk 1,.code (F8 [1,1,1,0,1,0,0,1,1,1]),.lp (F8 [1,1,1,0,1,0,0]) 1879048719,.blk 0,.code (F8 [1,1,1,1])],[(0,.sl false 3 (List.map i8.enc l_)),(1,.int .i64 l4),(2,.int .i64 f4),(3,.int .i64 ah8),(9,.ptr 0 0 0),(11,.ptr 1 0 0),(28,.sl false 3 (List.map i8.enc l_)),(29,.int .i64 V7),(30,.int .i64 L2),(72,.bool t72)],[some ⟨1,false,(List.map (d8 .i64) D7)⟩,some ⟨3,false,[(i8.enc v)]⟩]⟩
 | .s4 up t89 t90=>⟨[.lpc (F8 [1,1,1,1,1,0,1,0,0]) 1856910058928070412348694530,.blk 4,.code (F8 [1,1,1,1,1,1])],[(1,.int .i64 l4),(13,.int .u64 up),(89,.arr (List.flatten (List.map (d8 .i64) t89))),(90,.int .i64 t90)],[]⟩
 | .s5 V7 L2 t73 D7 v=>⟨[.lpc (F8 [1,1,1,0,1,0,0,1,1,0,0,1,1,1,0,0]) 9444732965741169478159,.blk 2,.blk 1,.code (F8 [1,1,1,0,1,0,0,1,1,1]),.lp (F8 [1,1,1,0,1,0,0]) 1879048719,.blk 0,.code (F8 [1,1,1,1])],[(0,.sl false 3 (List.map i8.enc l_)),(1,.int .i64 l4),(2,.int .i64 f4),(3,.int .i64 ah8),(9,.ptr 0 0 0),(11,.ptr 1 0 0),(28,.sl false 3 (List.map i8.enc l_)),(29,.int .i64 V7),(30,.int .i64 L2),(73,.int .i64 t73)],[some ⟨1,false,(List.map (d8 .i64) D7)⟩,some ⟨3,false,[(i8.enc v)]⟩]⟩
abbrev au3 (l_:List i8) (l4 f4 ah8:Int):=SOk E (Cx.of Tryz.f80 false 0) ci5 (cl3 l_ l4 f4 ah8)
noncomputable def al1 (l_:List i8) (l4 f4 ah8:Int):Option (R8⊕Int):=((aH7 f4).bind fun y1=>(bif (!y1) then (some (.inl (.s1 true))) else ((aH7 ah8).bind fun y3=>(bif (!y3) then (some (.inl (.s1 true))) else (some (.inl (.s1 (decide (l4<1)))))))))
noncomputable def ba1 (l_:List i8) (l4 f4 ah8:Int) (t27:Bool):Option (R8⊕Int):=(bif t27 then (some (.inr 0)) else (some (.inl (.s2 (((List.map i8.enc l_).length:Nat):Int) 0 ([0,0,0,0,0,0,0,0,0,0,0,0,0,0,0,0,0,0,0,0,0,0,0,0,0,0,0,0,0,0,0,0,0,0,0,0,0,0,0,0,0,0,0,0,0,0,0,0,0,0,0,0,0,0,0,0,0,0,0,0,0,0,0,0])))))
noncomputable def aK9 (l_:List i8) (l4 f4:Int) (ah8 V7 L2:Int) (D7:List Int):Option (R8⊕Int):=(bif (decide (L2<V7)) then (bif ((decide ((0:Int)≤L2))&&(decide (L2<(((List.map i8.enc l_).length:Nat):Int)))) then (((l_)[L2.toNat]?).bind fun y3=>(bif (decide (y3.Observer<0)) then (some (.inl (.s3 V7 L2 true D7 y3))) else (bif (decide (y3.Observer≥l4)) then (some (.inl (.s3 V7 L2 true D7 y3))) else ((aH7 y3.At).bind fun y7=>(bif (!y7) then (some (.inl (.s3 V7 L2 true D7 y3))) else (bif (decide (y3.At>f4)) then (some (.inl (.s3 V7 L2 true D7 y3))) else (bif (decide (y3.At<(IntKind.i64.wrap (f4-ah8)))) then (some (.inl (.s3 V7 L2 true D7 y3))) else ((bp3 y3.Observer).bind fun y11=>((ag1 l_ y3.Observer).bind fun y12=>(some (.inl (.s3 V7 L2 (decide (y12<L2)) D7 y3)))))))))))) else none) else (bif (Nat.ble (0+64) ((List.map (d8 .i64) D7).length)) then (some (.inl (.s4 0 (List.take 64 (List.drop 0 D7)) 0))) else none))
noncomputable def aJ9 (l_:List i8) (l4 f4:Int) (ah8 V7 L2:Int) (t72:Bool) (D7:List Int) (v:i8):Option (R8⊕Int):=(bif t72 then (some (.inl (.s2 V7 (IntKind.i64.wrap (L2+1)) D7))) else (some (.inl (.s5 V7 L2 0 D7 v))))
noncomputable def ba8 (l_:List i8) (l4 f4:Int) (ah8 up:Int) (t89:List Int) (t90:Int):Option (R8⊕Int):=(bif (decide (t90<64)) then (bif ((decide ((0:Int)≤t90))&&(decide (t90<((64:Nat):Int)))) then (((t89)[t90.toNat]?).bind fun y3=>(bif (decide (y3>(IntKind.i64.wrap (l4-y3)))) then (bif (!decide (t90<0)) then (some (.inl (.s4 (orI .u64 up (D3 .u64 1 t90)) t89 (IntKind.i64.wrap (t90+1))))) else none) else (some (.inl (.s4 up t89 (IntKind.i64.wrap (t90+1))))))) else none) else (some (.inr up)))
noncomputable def aK3 (l_:List i8) (l4 f4:Int) (ah8 V7:Int) (L2 t73:Int) (D7:List Int) (v:i8):Option (R8⊕Int):=(bif (decide (t73<64)) then (bif ((decide ((0:Int)≤t73))&&(decide (t73<((64:Nat):Int)))) then (((D7)[(0+t73.toNat)]?).bind fun y3=>(bif (!decide (t73<0)) then (bif ((decide ((0:Int)≤t73))&&(decide (t73<((64:Nat):Int)))) then (((D7)[(0+t73.toNat)]?).bind fun y7=>(some (.inl (.s5 V7 L2 (IntKind.i64.wrap (t73+1)) (List.set D7 (0+t73.toNat) (IntKind.i64.wrap (y3+(IntKind.i64.wrap ((m9 .u64 (r5 .u64 v.Up t73) 1)))))) v)))) else none) else none)) else none) else (some (.inl (.s2 V7 (IntKind.i64.wrap (L2+1)) D7))))
noncomputable def z6 (l_:List i8) (l4 f4 ah8:Int):R8→Option (R8⊕Int)
 | .s0=>al1 l_ l4 f4 ah8
 | .s1 t27=>ba1 l_ l4 f4 ah8 t27
 | .s2 V7 L2 D7=>aK9 l_ l4 f4 ah8 V7 L2 D7
 | .s3 V7 L2 t72 D7 v=>aJ9 l_ l4 f4 ah8 V7 L2 t72 D7 v
 | .s4 up t89 t90=>ba8 l_ l4 f4 ah8 up t89 t90
 | .s5 V7 L2 t73 D7 v=>aK3 l_ l4 f4 ah8 V7 L2 t73 D7 v
theorem cM2 {l_ l4 f4 ah8}:au3 l_ l4 f4 ah8 .s0 (al1 l_ l4 f4 ah8):=by
 intro r x h ha;unfold al1 at h
 refine zc 13 [] h (fun _=>by1) fun y1 h=> ?_
 refine zs 3 h (fun h=> ?_) fun h=> ?_
 ·
  exact zk 14 h ha
 refine zc 2 [] h (fun _=>by1) fun y3 h=> ?_
 refine zs 6 h (fun h=> ?_) fun h=> ?_
 ·
  exact zk 5 h ha
 exact zk 5 h ha
theorem cL7 {l_ l4 f4 ah8 t27}:au3 l_ l4 f4 ah8 (.s1 t27) (ba1 l_ l4 f4 ah8 t27):=by
 intro r x h ha;unfold ba1 at h
 refine zs 1 h (fun h=> ?_) fun h=> ?_
 ·
  exact zt 5 h ha
 exact zj 11 h ha
theorem cH2 {l_ l4 f4 ah8 V7 L2 D7}:au3 l_ l4 f4 ah8 (.s2 V7 L2 D7) (aK9 l_ l4 f4 ah8 V7 L2 D7):=by
 intro r x h ha;unfold aK9 at h
 refine zs 7 h (fun h=> ?_) fun h=> ?_
 ·
  refine zn 7 h fun h=> ?_
  refine zr 1 i8.enc h fun y3 h=> ?_
  refine zs 15 h (fun h=> ?_) fun h=> ?_
  ·
   exact zk 63 h ha
  refine zs 11 h (fun h=> ?_) fun h=> ?_
  ·
   exact zk 52 h ha
  refine zc 5 [] h (fun _=>by1) fun y7 h=> ?_
  refine zs 6 h (fun h=> ?_) fun h=> ?_
  ·
   exact zk 41 h ha
  refine zs 11 h (fun h=> ?_) fun h=> ?_
  ·
   exact zk 30 h ha
  refine zs 15 h (fun h=> ?_) fun h=> ?_
  ·
   exact zk 15 h ha
  refine zc 7 [] h (fun _=>cB1) fun y11 h=> ?_
  refine zc 2 [] h (fun _=>aN8) fun y12 h=> ?_
  exact zk 7 h ha
 refine zn 9 h fun h=> ?_
 refine zw 0 (a:=(List.take 64 (List.drop 0 (List.map (d8 .i64) D7)))) (b:=(List.map (d8 .i64) (List.take 64 (List.drop 0 D7)))) (ek9 _ _ _ _) ?_
 refine eH3 89 (cs:=List.flatten (List.map (d8 .i64) (List.take 64 (List.drop 0 D7)))) (by kernel_rfl) (eE8 ev5 _) ?_
 exact zj 5 h ha
theorem cF6 {l_ l4 f4 ah8 V7 L2 t72 D7 v}:au3 l_ l4 f4 ah8 (.s3 V7 L2 t72 D7 v) (aJ9 l_ l4 f4 ah8 V7 L2 t72 D7 v):=by
 intro r x h ha;unfold aJ9 at h
 refine zs 1 h (fun h=> ?_) fun h=> ?_
 ·
  exact zj 6 h ha
 exact zj 8 h ha
theorem cE6 {l_ l4 f4 ah8 up t89 t90}:au3 l_ l4 f4 ah8 (.s4 up t89 t90) (ba8 l_ l4 f4 ah8 up t89 t90):=by
 intro r x h ha;unfold ba8 at h
 refine zs 7 h (fun h=> ?_) fun h=> ?_
 ·
  refine zn 7 h fun h=> ?_
  refine dT8 (Option.map (fun d=> [d]) (List.flatten (List.map (d8 .i64) t89))[t90.toNat*1]?) (d8 .i64) h (by kernel_rfl) (ek8 _ _ (fun _=>rfl) _ _) (fun y3 h4 h=> ?_)
  refine zs 12 h (fun h=> ?_) fun h=> ?_
  ·
   refine zn 4 h fun h=> ?_
   exact zj 9 h ha
  exact zj 7 h ha
 exact zt 7 h ha
theorem cE4 {l_ l4 f4 ah8 V7 L2 t73 D7 v}:au3 l_ l4 f4 ah8 (.s5 V7 L2 t73 D7 v) (aK3 l_ l4 f4 ah8 V7 L2 t73 D7 v):=by
 intro r x h ha;unfold aK3 at h
 refine zs 7 h (fun h=> ?_) fun h=> ?_
 ·
  refine zn 9 h fun h=> ?_
  refine zr 0 (d8 .i64) h fun y3 h=> ?_
  refine zn 1 h fun h=> ?_
  refine zn 0 h fun h=> ?_
  refine zr 0 (d8 .i64) h fun y7 h=> ?_
  refine zw 0 (a:=(List.set (List.map (d8 .i64) D7) (0+t73.toNat) ((d8 .i64) (IntKind.i64.wrap (y3+(IntKind.i64.wrap ((m9 .u64 (r5 .u64 v.Up t73) 1)))))))) (b:=(List.map (d8 .i64) (List.set D7 (0+t73.toNat) (IntKind.i64.wrap (y3+(IntKind.i64.wrap ((m9 .u64 (r5 .u64 v.Up t73) 1)))))))) (bJ5 _ _ _ _) ?_
  exact zj 6 h ha
 exact zj 7 h ha
noncomputable def bt6 (l_:List i8) (l4 f4 ah8:Int):Option Int:=T3 (z6 l_ l4 f4 ah8) (.s0)
theorem db1 {l_:List i8}{l4 f4:Int}{ah8 r:Int} (h:bt6 l_ l4 f4 ah8=some r):i7 E 80 [.sl false 3 (List.map i8.enc l_),.int .i64 l4,.int .i64 f4,.int .i64 ah8] [] (Rs ci5 r):=sc (fn:=Tryz.f80) (k:=false) (m:=0) (H9:=(cl3 l_ l4 f4 ah8)) h fun s=>by
 cases s with
 | s0=>exact cM2
 | s1=>exact cL7
 | s2=>exact cH2
 | s3=>exact cF6
 | s4=>exact cE6
 | s5=>exact cE4
def O8 (n:Int):Bool:=decide (n≥0)&&decide (n≤1099511627776)
theorem bW2 (n:Int):aH7 n=some (O8 n):=by
 unfold aH7 O8
 cases decide (n≥0)<;>rfl
def al5:List i8→Int→Int→Int
 | [],_,_=> -1
 | v::r,n,i=>if v.Observer=n then i else al5 r n (i+1)
def bh3 (u:Int) (b:Nat):Int:=if u.toNat.testBit b then 1 else 0
theorem dg7 (u:Int) (b:Nat):0≤bh3 u b∧bh3 u b≤1:=by unfold bh3;split<;>omega
def J2 (p:Nat→Bool):Nat→Nat
 | 0=>0
 | b+1=>if p b then J2 p b ||| 2^b else J2 p b
theorem aV1 (p:Nat→Bool):∀n,J2 p n<2^n
 | 0=>by simp[J2]
 | n+1=>by
  have ih:=aV1 p n
  have h2:2^n<2^(n+1):=Nat.pow_lt_pow_right (by decide) (by omega)
  simp only[J2]
  split
  ·exact Nat.or_lt_two_pow (by omega) h2
  ·omega
def bk2 (l:List i8) (o n f:Int) (i:Nat) (v:i8):Bool:=
 !(decide (v.Observer<0))&&(!(decide (v.Observer≥o))&&(O8 v.At&&(!(decide (v.At>n))&&(!(decide (v.At<n-f))&& !(decide (al5 l v.Observer 0<i))))))
def C6 (l:List i8) (o n f:Int) (b:Nat):Nat→Int
 | 0=>0
 | i+1=>C6 l o n f b i+(match l[i]? with | some v=>if bk2 l o n f i v then bh3 v.Up b else 0 | none=>0)
theorem bX2 (l:List i8) (o n f:Int) (b:Nat):∀i,0≤C6 l o n f b i∧C6 l o n f b i≤i
 | 0=>by simp[C6]
 | i+1=>by
  have ih:=bX2 l o n f b i
  simp only[C6]
  split
  ·rename_i v _
   have:=dg7 v.Up b
   split<;>omega
  ·omega
def ab2 (l:List i8) (o n f:Int):Nat:=
 if O8 n&&(O8 f&& !(decide (o<1))) then J2 (fun b=>decide (C6 l o n f b l.length>o-C6 l o n f b l.length)) 64 else 0
theorem di8 (l:List i8) (o n f:Int):ab2 l o n f<18446744073709551616:=by
 unfold ab2
 split
 ·exact aV1 _ 64
 ·decide
structure VOk (v:i8):Prop where
 who: -9223372036854775808≤v.Observer∧v.Observer≤9223372036854775807
 up:0≤v.Up∧v.Up≤18446744073709551615
 at_: -9223372036854775808≤v.At∧v.At≤9223372036854775807
theorem wSV {k:Nat} (h:k≤3000000):IntKind.i64.wrap ((k:Int)+1)=((k+1:Nat):Int):=by rw[v9 (by omega) (by omega)];norm_cast
theorem eh4 (l:List i8) (n:Int) (hl:l.length≤300000):∀(j k:Nat),k+j=l.length→Ev J1 (.s1 l n (l.length:Nat) (k:Nat)) (al5 (l.drop k) n k):=by
 intro j
 induction j with
 | zero=>
  intro k hk
  rw[List.drop_eq_nil_of_le (by omega)]
  refine .done ?_
  simp only[J1,M7,geB (show l.length≤k by omega),cond_false,al5]
 | succ j ih=>
  intro k hk
  have hkl:k<l.length:=by omega
  rw[List.drop_eq_getElem_cons hkl,al5]
  by_cases h:l[k].Observer=n
  ·rw[if_pos h]
   refine .done ?_
   simp only[J1,M7,List.length_map,G4 hkl,O9,Bool.and_self,cond_true,Int.toNat_natCast,List.getE hkl,Option.bind_some,bl2,beq_iff_eq.2 h]
  ·rw[if_neg h]
   refine .next (s' :=.s1 l n l.length ((k+1:Nat):Int)) ?_ (by have:=ih (k+1) (by omega);simpa using this)
   simp only[J1,M7,List.length_map,G4 hkl,O9,Bool.and_self,cond_true,Int.toNat_natCast,List.getE hkl,Option.bind_some,bl2,beq_eq_false_iff_ne.2 h,cond_false,wSV (show k≤3000000 by omega)]
theorem ixf (l:List i8) (n:Int) (hl:l.length≤300000):ag1 l n=some (al5 l n 0):=
 z7 (.next (s' :=.s1 l n l.length 0) (by simp[J1,ab1]) (by have:=eh4 l n hl l.length 0 (by omega);simpa using this))
theorem eA0 (l:List i8) (n:Int):∀(i:Int),al5 l n i= -1∨∃j:Nat,j<l.length∧al5 l n i=i+j:=by
 induction l with
 | nil=>intro i;exact .inl rfl
 | cons v l ih=>
  intro i
  by_cases h:v.Observer=n
  ·exact .inr ⟨0,by simp,by rw[al5,if_pos h];simp⟩
  ·rw[al5,if_neg h]
   rcases ih (i+1) with h1 | ⟨j,h1,h2⟩
   ·exact .inl h1
   ·exact .inr ⟨j+1,by simp;omega,by rw[h2];push_cast;omega⟩
def cb6 (l:List i8) (v:i8):List i8:=if al5 l v.Observer 0= -1 then l++ [v] else l.set (al5 l v.Observer 0).toNat v
theorem em2 (l:List i8) (v:i8):(cb6 l v).length≤l.length+1:=by
 unfold cb6;split<;>simp
theorem el9 {l:List i8}{v x:i8} (h:x∈cb6 l v):x∈l∨x=v:=by
 unfold cb6 at h
 split at h
 ·rcases List.mem_append.1 h with h | h
  ·exact .inl h
  ·exact .inr (List.mem_singleton.1 h)
 ·exact List.mem_or_eq_of_mem_set h
theorem ey0 (l:List i8) (v:i8) (hl:l.length≤300000):bv8 l v=some (cb6 l v):=by
 have e0:decide ((0+l.length)*24≤l6)=true:=E0 (by omega)
 have e1:decide ((l.length+1)*24≤l6)=true:=E0 (by omega)
 have e2:bp3 v.Observer=some ():=rfl
 simp only[bv8,ak0,List.length_map,e0,cond_true,Option.bind_some,e2,ixf l v.Observer hl,e1,cb6]
 rcases eA0 l v.Observer 0 with h | ⟨j,h1,h2⟩
 ·rw[h]
  rfl
 ·rw[h2]
  have a:decide ((0:Int)+(j:Int)≥0)=true:=by simp
  have b:(decide ((0:Int)≤0+(j:Int))&&decide ((0:Int)+(j:Int)<((l.length:Nat):Int)))=true:=by simp;omega
  have c:¬((0:Int)+(j:Int)= -1):=by omega
  have d:((0:Int)+(j:Int)).toNat=j:=by omega
  have b2:decide ((0:Int)+(j:Int)<((l.length:Nat):Int))=true:=by simp;omega
  simp only[a,cond_true,b2,Bool.and_self,d,Nat.zero_add,List.getE h1,Option.bind_some,if_neg c]
/-! ### counts -/
def ai9 (g:Nat→Int):List Int:=(List.range 64).map g
theorem cd2 {g:Nat→Int}{b:Nat} (h:b<64):(ai9 g)[b]? =some (g b):=by simp[ai9,h]
theorem bK1 (g:Nat→Int):(ai9 g).length=64:=by simp[ai9]
theorem cf9 {g g' :Nat→Int} (h:∀b,b<64→g b=g' b):ai9 g=ai9 g' :=List.map_congr_left fun b hb=>h b (List.mem_range.1 hb)
theorem ej4 {g:Nat→Int}{b:Nat} (h:b<64) (c:Int):(ai9 g).set b c=ai9 fun j=>if j=b then c else g j:=by
 refine List.ext_getElem? fun j=> ?_
 by_cases hj:j<64
 ·rw[cd2 hj]
  by_cases hjb:b=j
  ·subst hjb
   rw[List.getElem?_set_self (by rw[bK1];exact h)];simp
  ·rw[List.getElem?_set_ne hjb,cd2 hj,if_neg fun e=>hjb e.symm]
 ·rw[List.getElem?_eq_none (by rw[List.length_set,bK1];omega),List.getElem?_eq_none (by rw[bK1];omega)]
section
variable {l : List i8} {o n f : Int}
theorem ef3 {r:Int}{v:i8} (hv:VOk v) {i:Nat} (hi:i≤300000):∀(j b:Nat) (g:Nat→Int),b+j=64→(∀x,0≤g x∧g x≤300001∧(b≤x→g x≤300000))→
  Ev (z6 l o n f) (.s2 (l.length:Nat) ((i+1:Nat):Int) (ai9 fun x=>if b≤x then g x+bh3 v.Up x else g x)) r→Ev (z6 l o n f) (.s5 (l.length:Nat) (i:Nat) (b:Nat) (ai9 g) v) r:=by
 intro j
 induction j with
 | zero=>
  intro b g hb hg hk
  refine .next (s' :=.s2 (l.length:Nat) ((i+1:Nat):Int) (ai9 g)) ?_ ?_
  ·have:decide ((b:Int)<64)=false:=by simp;omega
   simp only[z6,aK3,this,cond_false,wSV (show i≤3000000 by omega)]
  ·rw[cf9 (g' :=g) fun x hx=>if_neg (by omega)] at hk
   exact hk
 | succ j ih=>
  intro b g hb hg hk
  have hlt:b<64:=by omega
  have h1:decide ((b:Int)<64)=true:=by simp;omega
  have h2:decide ((b:Int)<((64:Nat):Int))=true:=by simp;omega
  have h3:(!decide ((b:Int)<0))=true:=nn0 b
  have g1:=hg b
  have hbit:IntKind.i64.wrap (m9 .u64 (r5 .u64 v.Up (b:Int)) 1)=bh3 v.Up b:=by
   obtain⟨m,hm⟩:=Int.eq_ofNat_of_zero_le hv.up.1
   have:=hv.up.2
   rw[hm,dy9 (by omega) (by omega)]
   unfold bh3
   rw[Int.toNat_natCast]
   split<;>rfl
  have b01:=dg7 v.Up b
  have hw:IntKind.i64.wrap (g b+bh3 v.Up b)=g b+bh3 v.Up b:=v9 (by omega) (by omega)
  refine .next (s' :=.s5 (l.length:Nat) (i:Nat) ((b+1:Nat):Int) (ai9 fun x=>if x=b then g b+bh3 v.Up b else g x) v) ?_ (ih (b+1) _ (by omega) ?_ ?_)
  ·simp only[z6,aK3,h1,cond_true,O9,h2,Bool.and_self,Int.toNat_natCast,Nat.zero_add,cd2 hlt,Option.bind_some,h3,hbit,hw,ej4 hlt,wSV (show b≤3000000 by omega)]
  ·intro x
   have g2:=hg x
   by_cases h:x=b
   ·simp only[if_pos h];omega
   ·simp only[if_neg h];omega
  ·rw[cf9 (g' :=fun x=>if b≤x then g x+bh3 v.Up x else g x)]
   ·exact hk
   ·intro x hx
    by_cases h:x=b
    ·subst h;rw[if_neg (by omega),if_pos rfl,if_pos (Nat.le_refl _)]
    ·by_cases h4:b≤x
     ·simp only[if_neg h,if_pos h4,if_pos (show b+1≤x by omega)]
     ·simp only[if_neg h,if_neg h4,if_neg (show ¬b+1≤x by omega)]
theorem ee5 {r:Int} (hl:l.length≤300000) (hv:∀v∈l,VOk v) (tn:O8 n=true) (tf:O8 f=true):∀(j i:Nat),i+j=l.length→
  Ev (z6 l o n f) (.s2 (l.length:Nat) (l.length:Nat) (ai9 fun b=>C6 l o n f b l.length)) r→Ev (z6 l o n f) (.s2 (l.length:Nat) (i:Nat) (ai9 fun b=>C6 l o n f b i)) r:=by
 intro j
 induction j with
 | zero=>
  intro i hi hk
  obtain rfl:i=l.length:=by omega
  exact hk
 | succ j ih=>
  intro i hi hk
  have hlt:i<l.length:=by omega
  have hvi:=hv _ (List.getElem_mem hlt)
  have hnf:IntKind.i64.wrap (n-f)=n-f:=by
   simp only[O8,Bool.and_eq_true,decide_eq_true_eq] at tn tf
   exact v9 (by omega) (by omega)
  have s3:Ev (z6 l o n f) (.s3 (l.length:Nat) (i:Nat) (!(bk2 l o n f i l[i])) (ai9 fun b=>C6 l o n f b i) l[i]) r:=by
   have nx:=ih (i+1) (by omega) hk
   have hc:∀b,C6 l o n f b (i+1)=C6 l o n f b i+if bk2 l o n f i l[i] then bh3 l[i].Up b else 0:=fun b=>by
    simp only[C6,List.getE hlt]
   cases hb:bk2 l o n f i l[i] with
   | false=>
    refine .next (s' :=.s2 (l.length:Nat) ((i+1:Nat):Int) (ai9 fun b=>C6 l o n f b i)) ?_ ?_
    ·simp only[z6,aJ9,Bool.not_false,cond_true,wSV (show i≤3000000 by omega)]
    ·rw[cf9 (g' :=fun b=>C6 l o n f b (i+1)) fun b _=>by rw[hc,hb];simp]
     exact nx
   | true=>
    refine .next (s' :=.s5 (l.length:Nat) (i:Nat) ((0:Nat):Int) (ai9 fun b=>C6 l o n f b i) l[i]) ?_ (ef3 hvi (by omega) 64 0 _ rfl (fun x=> ?_) ?_)
    ·simp only[z6,aJ9,Bool.not_true,cond_false];rfl
    ·have:=bX2 l o n f x i
     omega
    ·rw[cf9 (g' :=fun b=>C6 l o n f b (i+1)) fun b _=>by rw[hc,hb];simp]
     exact nx
  have hbr:∀{b:Bool}{A:Option (R8⊕Int)},(bif b then some (.inl (.s3 (l.length:Nat) (i:Nat) true (ai9 fun b=>C6 l o n f b i) l[i])) else A)=(if b=true then some (.inl (.s3 (l.length:Nat) (i:Nat) true (ai9 fun b=>C6 l o n f b i) l[i])) else A):=fun {b A}=>by cases b<;>rfl
  refine .next (s' :=.s3 (l.length:Nat) (i:Nat) (!(bk2 l o n f i l[i])) (ai9 fun b=>C6 l o n f b i) l[i]) ?_ s3
  have e0:bp3 l[i].Observer=some ():=rfl
  simp only[z6,aK9,G4 hlt,cond_true,List.length_map,O9,Bool.and_self,Int.toNat_natCast,List.getE hlt,Option.bind_some,bW2,hnf,e0,ixf l _ hl,bk2]
  cases decide (l[i].Observer<0) with
  | true=>rfl
  | false=>
   cases decide (l[i].Observer≥o) with
   | true=>rfl
   | false=>
    cases O8 l[i].At with
    | false=>rfl
    | true=>
     cases decide (l[i].At>n) with
     | true=>rfl
     | false=>
      cases decide (l[i].At<n-f) with
      | true=>rfl
      | false=>simp
theorem en3 (g:Nat→Int) (hg:∀b,0≤g b∧g b≤300000) (ho:1≤o∧o≤9223372036854775807):∀(j b:Nat),b+j=64→
  Ev (z6 l o n f) (.s4 (J2 (fun b=>decide (g b>o-g b)) b:Nat) (ai9 g) (b:Nat)) ((J2 (fun b=>decide (g b>o-g b)) 64:Nat):Int):=by
 intro j
 induction j with
 | zero=>
  intro b hb
  obtain rfl:b=64:=by omega
  exact .done rfl
 | succ j ih=>
  intro b hb
  have hlt:b<64:=by omega
  have h1:decide ((b:Int)<64)=true:=by simp;omega
  have h2:decide ((b:Int)<((64:Nat):Int))=true:=by simp;omega
  have g1:=hg b
  have hw:IntKind.i64.wrap (o-g b)=o-g b:=v9 (by omega) (by omega)
  refine .next (s' :=.s4 (J2 (fun b=>decide (g b>o-g b)) (b+1):Nat) (ai9 g) ((b+1:Nat):Int)) ?_ (ih (b+1) (by omega))
  simp only[z6,ba8,h1,cond_true,O9,h2,Bool.and_self,Int.toNat_natCast,cd2 hlt,Option.bind_some,hw,nn0,wSV (show b≤3000000 by omega),J2]
  have hu:=aV1 (fun b=>decide (g b>o-g b)) b
  have hp:(2:Nat)^b≤2^63:=Nat.pow_le_pow_right (by decide) (by omega)
  by_cases h:g b>o-g b
  ·simp only[decide_eq_true h,cond_true,if_true]
   rw[aJ6 hlt,bQ6 (by omega) (by omega)]
  ·simp only[decide_eq_false h,cond_false,if_false,Bool.false_eq_true]
theorem eE9 (hl:l.length≤300000) (hv:∀v∈l,VOk v) (ho:o≤9223372036854775807):bt6 l o n f=some ((ab2 l o n f:Nat):Int):=by
 have i6:∀{s},Ev (z6 l o n f) s 0→z6 l o n f .s0=some (.inl s)→¬((O8 n&&(O8 f&& !(decide (o<1))))=true)→bt6 l o n f=some ((ab2 l o n f:Nat):Int):=fun {s} h1 h2 h3=>by
  unfold ab2
  rw[if_neg h3]
  exact z7 (.next h2 h1)
 have t1:Ev (z6 l o n f) (.s1 true) 0:=.done rfl
 cases tn:O8 n with
 | false=>exact i6 t1 (by simp only[z6,al1,bW2,tn,Option.bind_some,Bool.not_false,cond_true]) (by rw[tn];simp)
 | true=>
  cases tf:O8 f with
  | false=>exact i6 t1 (by simp only[z6,al1,bW2,tn,tf,Option.bind_some,Bool.not_false,Bool.not_true,cond_false,cond_true]) (by rw[tn,tf];simp)
  | true=>
   by_cases h1:o<1
   ·exact i6 t1 (by simp only[z6,al1,bW2,tn,tf,Option.bind_some,Bool.not_true,cond_false,decide_eq_true h1]) (by rw[tn,tf,decide_eq_true h1];simp)
   ·unfold ab2
    rw[if_pos (by rw[tn,tf,decide_eq_false h1];rfl)]
    refine z7 (.next (s' :=.s1 false) (by simp only[z6,al1,bW2,tn,tf,Option.bind_some,Bool.not_true,cond_false,decide_eq_false h1]) (.next (s' :=.s2 (l.length:Nat) ((0:Nat):Int) (ai9 fun b=>C6 l o n f b 0)) ?_ (ee5 hl hv tn tf l.length 0 (by omega) (.next (s' :=.s4 ((J2 (fun b=>decide (C6 l o n f b l.length>o-C6 l o n f b l.length)) 0:Nat):Int) (ai9 fun b=>C6 l o n f b l.length) ((0:Nat):Int)) ?_ (en3 (fun b=>C6 l o n f b l.length) (fun b=> ?_) ⟨by omega,ho⟩ 64 0 rfl)))))
    ·simp only[z6,ba1,cond_false,List.length_map]
     rfl
    ·simp only[z6,aK9,geB (Nat.le_refl _),cond_false,List.length_map,bK1]
     have:List.take 64 (List.drop 0 (ai9 fun b=>C6 l o n f b l.length))=ai9 fun b=>C6 l o n f b l.length:=by
      rw[List.drop_zero,List.take_of_length_le (by rw[bK1];decide)]
     rw[this]
     rfl
    ·have:=bX2 l o n f b l.length
     omega
end
noncomputable def aW9:=u5 (u6 Tryz.f139)
noncomputable def bC0 (y:Int):D×i0:=(.int .i64 y,[])
abbrev aW6:=AOk E (Cx.of Tryz.f139 false 0) bC0
noncomputable def cr0 (x_2 n:Int):M:=⟨[.code (aW9 [1,1,1,1])],[(0,.int .u64 x_2),(2,.int .i64 n)],[]⟩
noncomputable def ac0 (x_2 n:Int):Option Int:=(bif ((decide ((0:Int)≤(IntKind.u8.wrap (x_2))))&&(decide (((IntKind.u8.wrap (x_2)):Int)<((256:Nat):Int)))) then (((by5)[(IntKind.u8.wrap (x_2)).toNat]?).bind fun y2=>(some (IntKind.i64.wrap (n+(IntKind.i64.wrap (((UInt8.toNat y2:Nat):Int))))))) else none)
theorem bi0 {x_2 n}:aW6 (cr0 x_2 n) (ac0 x_2 n):=by
 intro r h;unfold ac0 at h
 refine zn 6 h fun h=> ?_
 refine dT8 (Option.map s8 (by5)[(IntKind.u8.wrap (x_2)).toNat]?) s8 h (by kernel_rfl) rfl (fun y2 h3 h=> ?_)
 exact zu 5 h
noncomputable def cq7 (x_2 n:Int):M:=⟨[.code (aW9 [1,1,1])],[(0,.int .u64 x_2),(2,.int .i64 n)],[]⟩
noncomputable def an7 (x_2 n:Int):Option Int:=(bif (decide (x_2≥256)) then (ac0 (r5 .u64 x_2 8) (IntKind.i64.wrap (n+8))) else (ac0 x_2 n))
theorem bi4 {x_2 n}:aW6 (cq7 x_2 n) (an7 x_2 n):=by
 intro r h;unfold an7 at h
 refine zs 7 h (fun h=> ?_) fun h=> ?_
 ·
  exact zg 12 (bi0 h)
 exact zg 1 (bi0 h)
noncomputable def cu1 (x_2 n:Int):M:=⟨[.code (aW9 [1,1])],[(0,.int .u64 x_2),(2,.int .i64 n)],[]⟩
noncomputable def an6 (x_2 n:Int):Option Int:=(bif (decide (x_2≥65536)) then (an7 (r5 .u64 x_2 16) (IntKind.i64.wrap (n+16))) else (an7 x_2 n))
theorem bi3 {x_2 n}:aW6 (cu1 x_2 n) (an6 x_2 n):=by
 intro r h;unfold an6 at h
 refine zs 7 h (fun h=> ?_) fun h=> ?_
 ·
  exact zg 12 (bi4 h)
 exact zg 1 (bi4 h)
noncomputable def ax5 (x_:Int):Option Int:=(bif (decide (x_≥4294967296)) then (an6 (r5 .u64 x_ 32) 32) else (an6 x_ 0))
theorem cq0 {x_ r:Int} (h:ax5 x_=some r):i7 E 139 [.int .u64 x_] [] (Rs bC0 r):=so (fn:=Tryz.f139) (k:=false) (m:=0) h<| by
 intro r h;unfold ax5 at h
 refine zs 11 h (fun h=> ?_) fun h=> ?_
 ·
  exact zg 10 (bi3 h)
 exact zg 1 (bi3 h)
noncomputable def bw2 (y:Int):D×i0:=(.int .i64 y,[])
noncomputable def Q6 (x_:Int):Option Int:=(bif (x_==0) then (some 64) else (bif ((decide ((0:Int)≤(r5 .u64 (IntKind.u64.wrap ((m9 .u64 x_ (IntKind.u64.wrap ((0:Int)-x_)))*285870213051353865)) 58)))&&(decide (((r5 .u64 (IntKind.u64.wrap ((m9 .u64 x_ (IntKind.u64.wrap ((0:Int)-x_)))*285870213051353865)) 58):Int)<((64:Nat):Int)))) then (((gl_deBruijn64tab)[(0+(r5 .u64 (IntKind.u64.wrap ((m9 .u64 x_ (IntKind.u64.wrap ((0:Int)-x_)))*285870213051353865)) 58).toNat)]?).bind fun y3=>(some (IntKind.i64.wrap (y3)))) else none))
theorem bn4 {x_ r:Int} (h:Q6 x_=some r):i7 E 158 [.int .u64 x_] [] (Rs bw2 r):=so (fn:=Tryz.f158) (k:=false) (m:=0) h<| by
 intro r h;unfold Q6 at h
 refine zs 11 h (fun h=> ?_) fun h=> ?_
 ·
  exact zu 5 h
 refine zn 11 h fun h=> ?_
 refine zr 1 (d8 .u8) h fun y3 h=> ?_
 exact zu 4 h
noncomputable def cp5:=u5 (u6 Tryz.f157)
def L3 (y:Int):List D:= [D.int .i64 y]
inductive N7 where
 | s0 (b0:Int)
 | s1 (b02:Int)
noncomputable def R7 (l:Nat):N7→M
 | .s0 b0=>⟨[.code (u6 Tryz.f157)],[(0,D.yld l),(1,D.ptr 0 0 0)],[some ⟨1,false,[[D.int .u64 b0]]⟩]⟩
 | .s1 b02=>⟨[.lpc (cp5 [0,0]) 3,.blk 0],[(0,D.yld l),(1,D.ptr 0 0 0)],[some ⟨1,false,[[D.int .u64 b02]]⟩]⟩
noncomputable def aO4 (b0:Int):Option (List Int×Option N7):=(some ([],some (.s1 b0)))
noncomputable def aw4 (b02:Int):Option (List Int×Option N7):=(bif (b02 !=0) then ((Q6 b02).bind fun y2=>(Option.map (fun p=>(y2::p.1,p.2)) (some ([],some (.s1 (m9 .u64 b02 (IntKind.u64.wrap (b02-1)))))))) else (some ([],none)))
noncomputable def ae4:N7→i0
 | .s0 b0=> []
 | .s1 b02=> []
noncomputable def Z6:N7→Option (List Int×Option N7)
 | .s0 b0=>aO4 b0
 | .s1 b02=>aw4 b02
theorem bV5 {l:Nat}{ln:i0}{φ0:y0}{J:Option (List (List D))→World→(Nat→Prop)→(Nat→Prop)→Prop}{b0:Int}{x:List Int×Option N7}{Y:List (List D)} (hl:ae4 (.s0 b0)=ln) (h:aO4 b0=some x) (ha:ai2 E ln (Cx.seq Tryz.f157 1 ln l φ0 J) L3 (R7 l) ae4 x Y):i4 E (Cx.seq Tryz.f157 1 ln l φ0 J (some Y)) (fun _ s=>U7 ln s) (.go (R7 l (.s0 b0))):=by
 subst hl
 unfold aO4 at h
 refine n8 hm 3 _ ?_
 obtain rfl:=Option.some.inj h
 exact bc4 (q' :=.go (R7 l (.s1 b0))) (by kernel_rfl) (P8 (by kernel_rfl) ha)
theorem ca1 {l:Nat}{ln:i0}{φ0:y0}{J:Option (List (List D))→World→(Nat→Prop)→(Nat→Prop)→Prop}{b02:Int}{x:List Int×Option N7}{Y:List (List D)} (hl:ae4 (.s1 b02)=ln) (h:aw4 b02=some x) (ha:ai2 E ln (Cx.seq Tryz.f157 1 ln l φ0 J) L3 (R7 l) ae4 x Y):i4 E (Cx.seq Tryz.f157 1 ln l φ0 J (some Y)) (fun _ s=>U7 ln s) (.go (R7 l (.s1 b02))):=by
 subst hl
 unfold aw4 at h
 refine zs 9 h (fun h=> ?_) fun h=> ?_
 ·
  refine zc 9 [] h (fun _=>bn4) fun y2 h=> ?_
  refine n8 hm 1 _ ?_
  refine ca3 (x:=y2) (s:= [some ⟨1,false,[[D.int .u64 b02]]⟩]) h ha (by kernel_rfl) (by kernel_rfl) ?_ (fun p Y h ha=> ?_)
  ·--it is stopped
   refine n8 hm 5 _ ?_
   exact bK9 (d:=D.tup []) (s:= [some ⟨1,false,[[D.int .u64 b02]]⟩]) (by kernel_rfl) (by kernel_rfl)
  ·--it goes on
   refine n8 hm 18 _ ?_
   obtain rfl:=Option.some.inj h
   exact bc4 (q' :=.go (R7 l (.s1 (m9 .u64 b02 (IntKind.u64.wrap (b02-1)))))) (by kernel_rfl) (P8 (by kernel_rfl) ha)
 refine n8 hm 2 _ ?_
 obtain rfl:=Option.some.inj h
 exact bZ5 (d:=D.tup []) (s:= [some ⟨1,false,[[D.int .u64 b02]]⟩]) (by kernel_rfl) (by kernel_rfl) ha
noncomputable def aH1 (b0:Int):Option (List Int):=evl Z6 (.s0 b0)
theorem cm1 {b0:Int}{r:List Int} (h:aH1 b0=some r):as3 E 157 [D.ptr 0 0 0] [some ⟨1,false,[[D.int .u64 b0]]⟩] [] (List.map L3 r):=
 bX7 (m:=fun l=>R7 l (.s0 b0)) (fn:=Tryz.f157) (by kernel_rfl) (fun l=>by kernel_rfl) (show List.take _ _=_ by kernel_rfl) (show F5 _ _=_ by kernel_rfl) (fun l φ0 J=>bH3 (step:=Z6) (lnS:=ae4) (fun s x Y hl hs ha=>by
  cases s with
  | s0=>exact bV5 hl hs ha
  | s1=>exact ca1 hl hs ha) (by kernel_rfl) (bT9 h))
noncomputable def dI4 (y:Bool):D×i0:=(.bool y,[])
noncomputable def aq0 (r8 i:Int):Option Bool:=(bif (decide (i≥0)) then (bif (!decide (i<0)) then (some (((m9 .u64 r8 (D3 .u64 1 i)):Int) !=0)) else none) else (some false))
theorem bJ0 {r8 i:Int}{r:Bool} (h:aq0 r8 i=some r):i7 E 112 [.int .u64 r8,.int .i64 i] [] (Rs dI4 r):=so (fn:=Tryz.f112) (k:=false) (m:=0) h<| by
 intro r h;unfold aq0 at h
 refine zs 10 h (fun h=> ?_) fun h=> ?_
 ·
  refine zn 4 h fun h=> ?_
  exact zu 9 h
 exact zu 13 h
/-! ### how long -/
def co9 (x:Nat):Nat:=match by5[x]? with | some y=>y.toNat | none=>0
noncomputable def dV9:Bool:=decide (by5.length=256)&&by5.zipIdx.all fun p=>(List.range 9).all fun t=>Nat.ble p.1.toNat t==Nat.blt p.2 (2^t)
theorem ed9:dV9=true:=by kernel_rfl
theorem dO5 {x:Nat} (h:x<256):(∃y,by5[x]? =some y∧y.toNat=co9 x)∧∀t,t≤8→(co9 x≤t↔x<2^t):=by
 have h0:=ed9
 simp only[dV9,Bool.and_eq_true,decide_eq_true_eq] at h0
 obtain⟨h1,h2⟩:=h0
 have hx:x<by5.length:=by omega
 have he:by5[x]? =some by5[x]:=List.getE hx
 have hl:co9 x=(by5[x]).toNat:=by simp only[co9,he]
 refine⟨⟨_,he,hl.symm⟩,fun t ht=> ?_⟩
 have h3:=List.all_eq_true.1 h2 (by5[x],x) (by rw[List.mem_zipIdx_iff_getElem?];exact he)
 have h4:=List.all_eq_true.1 h3 t (List.mem_range.2 (by omega))
 simp only[beq_iff_eq] at h4
 rw[hl]
 constructor
 ·intro h5
  have:Nat.blt x (2^t)=true:=by rw[←h4];exact Nat.ble_eq_true_of_le h5
  exact Nat.le_of_ble_eq_true this
 ·intro h5
  have:Nat.ble (by5[x]).toNat t=true:=by rw[h4];exact Nat.ble_eq_true_of_le h5
  exact Nat.le_of_ble_eq_true this
theorem ej6 {x:Nat} (h:x<65536):∃n:Nat,ax5 x=some (n:Int)∧∀t,t≤16→(n≤t↔x<2^t):=by
 have a1:decide ((x:Int)≥4294967296)=false:=by simp;omega
 have a2:decide ((x:Int)≥65536)=false:=by simp;omega
 unfold ax5
 simp only[a1,cond_false,an6,a2,an7]
 by_cases h2:x<256
 ·have a3:decide ((x:Int)≥256)=false:=by simp;omega
  obtain⟨⟨y,y1,y2⟩,hl⟩:=dO5 h2
  have hw:IntKind.u8.wrap (x:Int)=x:=wU8 (by omega) (by omega)
  have hy:y.toNat<256:=y.toNat_lt
  have a4:(decide ((0:Int)≤x)&&decide ((x:Int)<((256:Nat):Int)))=true:=by simp;omega
  refine⟨co9 x,?_,fun t ht=> ?_⟩
  ·simp only[a3,cond_false,ac0,hw,a4,cond_true,Int.toNat_natCast,y1,Option.bind_some,y2]
   rw[v9 (n:=((co9 x:Nat):Int)) (by omega) (by omega),v9 (by omega) (by omega)];simp
  ·by_cases h8:t≤8
   ·exact hl t h8
   ·have:x<2^t:=Nat.lt_of_lt_of_le h2 (by have:(2:Nat)^8≤2^t:=Nat.pow_le_pow_right (by decide) (by omega);exact this)
    have:=(hl 8 (by omega)).2 h2
    omega
 ·have a3:decide ((x:Int)≥256)=true:=by simp;omega
  have e1:r5 .u64 (x:Int) 8=((x/2^8:Nat):Int):=bN0 (by decide)
  have hq:x/2^8<256:=by omega
  obtain⟨⟨y,y1,y2⟩,hl⟩:=dO5 hq
  have hw:IntKind.u8.wrap ((x/2^8:Nat):Int)=((x/2^8:Nat):Int):=wU8 (by omega) (by omega)
  have hy:y.toNat<256:=y.toNat_lt
  have a4:(decide ((0:Int)≤((x/2^8:Nat):Int))&&decide (((x/2^8:Nat):Int)<((256:Nat):Int)))=true:=by simp;omega
  refine⟨co9 (x/2^8)+8,?_,fun t ht=> ?_⟩
  ·simp only[a3,cond_true,ac0,e1,hw,a4,Int.toNat_natCast,y1,Option.bind_some,y2]
   rw[v9 (n:=((co9 (x/2^8):Nat):Int)) (by omega) (by omega),v9 (n:=(0:Int)+8) (by omega) (by omega),v9 (by omega) (by omega)]
   congr 1;push_cast;omega
  ·by_cases h8:t<8
   ·have p:(2:Nat)^t≤2^8:=Nat.pow_le_pow_right (by decide) (by omega)
    omega
   ·have:=hl (t-8) (by omega)
    have e:(2:Nat)^t=2^(t-8)*2^8:=by rw[←Nat.pow_add];congr 1;omega
    rw[e,←Nat.div_lt_iff_lt_mul (by decide)]
    omega
/-! ### the lowest -/
theorem ez4:∀(m:Nat),m≠0→∃k a,m=2^k*(2*a+1):=by
 intro m
 induction m using Nat.strongRecOn with
 | _ m ih=>
  intro h
  rcases Nat.mod_two_eq_zero_or_one m with h2 | h2
  ·obtain⟨k,a,e⟩:=ih (m/2) (by omega) (by omega)
   refine⟨k+1,a,?_⟩
   have:m=2*(m/2):=by omega
   rw[this,e,Nat.pow_succ,←Nat.mul_assoc,Nat.mul_comm 2]
  ·exact⟨0,m/2,by omega⟩
theorem bH2 {k a j:Nat}:(2^k*(2*a+1)).testBit j=(if j<k then false else if j=k then true else a.testBit (j-k-1)):=by
 rw[Nat.testBit_two_pow_mul]
 by_cases h:j<k
 ·have:¬j≥k:=by omega
  rw[if_pos h,decide_eq_false this,Bool.false_and]
 ·rw[if_neg h,decide_eq_true (by omega:j≥k),Bool.true_and]
  by_cases h2:j=k
  ·subst h2;simp
  ·rw[if_neg h2,show j-k=(j-k-1)+1 by omega,Nat.testBit_succ]
   congr 1
   omega
theorem ek4 {k a:Nat}:(2^k*(2*a+1))&&&(2^k*(2*a+1)-1)=2^k*(2*a+1)-2^k:=by
 have e1:2^k*(2*a+1)-1=2^k*(2*a)+(2^k-1):=by
  have:0<2^k:=Nat.pow_pos (by decide)
  rw[Nat.mul_add];omega
 have e2:2^k*(2*a+1)-2^k=2^k*(2*a):=by rw[Nat.mul_add];omega
 rw[e1,e2]
 refine Nat.eq_of_testBit_eq fun j=> ?_
 have hp:2^k-1<2^k:=Nat.sub_lt (Nat.pow_pos (by decide)) (by decide)
 rw[Nat.testBit_and,bH2,Nat.testBit_two_pow_mul_add _ hp,Nat.testBit_two_pow_mul]
 by_cases h:j<k
 ·have:¬j≥k:=by omega
  rw[if_pos h,decide_eq_false this];rfl
 ·rw[if_neg h,if_neg h,decide_eq_true (by omega:j≥k),Bool.true_and]
  by_cases h2:j=k
  ·subst h2;simp
  ·rw[if_neg h2,show j-k=(j-k-1)+1 by omega,Nat.testBit_succ]
   have:2*a/2=a:=by omega
   rw[this,Nat.add_sub_cancel,Bool.and_self]
theorem et6 {k a n:Nat} (hk:k+n+1=64) (ha:a<2^n):(2^k*(2*a+1))&&&(18446744073709551616-2^k*(2*a+1))=2^k:=by
 have e1:18446744073709551616-2^k*(2*a+1)=2^k*(2*(2^n-(a+1))+1):=by
  have p:(18446744073709551616:Nat)=2^k*(2*2^n):=by
   rw[show(2:Nat)*2^n=2^(n+1) by rw[Nat.pow_succ,Nat.mul_comm],←Nat.pow_add,show k+(n+1)=64 by omega]
  rw[p,←Nat.mul_sub]
  congr 1
  omega
 rw[e1]
 refine Nat.eq_of_testBit_eq fun j=> ?_
 rw[Nat.testBit_and,bH2,bH2,Nat.testBit_two_pow]
 by_cases h:j<k
 ·rw[if_pos h]
  simp;omega
 ·rw[if_neg h,if_neg h]
  by_cases h2:j=k
  ·subst h2;simp
  ·rw[if_neg h2,if_neg h2,Nat.testBit_two_pow_sub_succ ha]
   have:¬k=j:=fun e=>h2 e.symm
   rw[decide_eq_false this]
   cases a.testBit (j-k-1)<;>simp
noncomputable def eH1:Bool:=(List.range 64).all fun k=>match (gl_deBruijn64tab)[(2^k*285870213051353865%18446744073709551616)/2^58]? with | some y=>decide (y=(k:Int)) | none=>false
theorem ei3:eH1=true:=by kernel_rfl
theorem eJ5 {m:Nat} (h0:0<m) (h:m<18446744073709551616):IntKind.u64.wrap ((0:Int)-m)=((18446744073709551616-m:Nat):Int):=by
 simp only[IntKind.wrap,IntKind.signed,IntKind.bits]
 simp
 omega
theorem eK2 (n:Nat):IntKind.u64.wrap (n:Int)=((n%18446744073709551616:Nat):Int):=by
 simp only[IntKind.wrap,IntKind.signed,IntKind.bits]
 simp
theorem eG5 {k a n:Nat} (hk:k+n+1=64) (ha:a<2^n):2^k*(2*a+1)<18446744073709551616:=by
 have p:2^k*(2*2^n)=2^64:=by
  rw[show(2:Nat)*2^n=2^(n+1) by rw[Nat.pow_succ,Nat.mul_comm],←Nat.pow_add,show k+(n+1)=64 by omega]
 have:2^k*(2*a+1)<2^k*(2*2^n):=Nat.mul_lt_mul_of_pos_left (by omega) (Nat.pow_pos (by decide))
 omega
theorem eC0 {k:Nat} (hk:k<64):∃x:Nat,x<18446744073709551616∧x=2^k*285870213051353865%18446744073709551616∧(gl_deBruijn64tab)[x/2^58]? =some (k:Int):=by
 have ht:=List.all_eq_true.1 ei3 k (List.mem_range.2 hk)
 refine⟨_,Nat.mod_lt _ (by omega),rfl,?_⟩
 revert ht
 generalize 2^k*285870213051353865%18446744073709551616=x
 intro ht
 cases hy:(gl_deBruijn64tab)[x/2^58]? with
 | none=>simp only[hy] at ht;cases ht
 | some y=>
  simp only[hy] at ht
  rw[of_decide_eq_true ht]
theorem eI0 {k a n:Nat} (hk:k+n+1=64) (ha:a<2^n):Q6 ((2^k*(2*a+1):Nat):Int)=some (k:Int):=by
 have hlt:=eG5 hk ha
 have hpos:0<2^k*(2*a+1):=Nat.mul_pos (Nat.pow_pos (by decide)) (by omega)
 have hand:=et6 hk ha
 revert hlt hpos hand
 generalize 2^k*(2*a+1)=m
 intro hlt hpos hand
 have e0:((m:Int)==0)=false:=beq_eq_false_iff_ne.2 (by omega)
 have e2:m9 .u64 (m:Int) ((18446744073709551616-m:Nat):Int)=((2^k:Nat):Int):=by
  rw[bv6 hlt (by omega),hand]
 have hk64:k<64:=by omega
 obtain⟨x,hx,hxe,ht⟩:=eC0 hk64
 have e3:IntKind.u64.wrap (((2^k:Nat):Int)*285870213051353865)=(x:Int):=by
  have hc:((2^k:Nat):Int)*285870213051353865=((2^k*285870213051353865:Nat):Int):=(Int.natCast_mul _ _).symm
  rw[hc,eK2,←hxe]
 have e4:r5 .u64 (x:Int) 58=((x/2^58:Nat):Int):=bN0 (by decide)
 have hq:x/2^58<64:=by omega
 revert e4 ht hq
 generalize x/2^58=z
 intro ht e4 hq
 have a4:(decide ((0:Int)≤(z:Int))&&decide ((z:Int)<((64:Nat):Int)))=true:=by simp;omega
 unfold Q6
 simp only[e0,cond_false,eJ5 hpos hlt,e2,e3,e4,a4,cond_true,Int.toNat_natCast,Nat.zero_add,ht,Option.bind_some]
 rw[v9 (by omega) (by omega)]
/-! ### members -/
def aN6 (m:Nat):List Int:=((List.range 16).filter fun i=>m.testBit i).map fun(i:Nat)=>(i:Int)
theorem dU3 {k a:Nat} (hk:k<16):(List.range 16).filter (fun i=>(2^k*(2*a+1)).testBit i)=k::(List.range 16).filter (fun i=>(2^k*(2*a+1)-2^k).testBit i):=by
 have e2:2^k*(2*a+1)-2^k=2^k*(2*a):=by rw[Nat.mul_add];omega
 rw[e2]
 have sp:List.range 16=List.range k++k::(List.range' (k+1) (15-k)):=by
  rw[List.range_eq_range',List.range_eq_range']
  have h1:=List.range'_append_1 (s:=0) (m:=k) (n:=16-k)
  rw[show k+(16-k)=16 by omega] at h1
  rw[←h1,Nat.zero_add,show 16-k=(15-k)+1 by omega,List.range'_succ]
 have b1:∀i,(2^k*(2*a)).testBit i=(decide (k<i)&&a.testBit (i-k-1)):=fun i=>by
  rw[Nat.testBit_two_pow_mul]
  by_cases h:i≤k
  ·rw[decide_eq_false (by omega:¬k<i),Bool.false_and]
   by_cases h2:i=k
   ·subst h2;simp
   ·rw[decide_eq_false (by omega:¬i≥k),Bool.false_and]
  ·rw[decide_eq_true (by omega:i≥k),decide_eq_true (by omega:k<i),Bool.true_and,Bool.true_and,show i-k=(i-k-1)+1 by omega,Nat.testBit_succ]
   congr 1
   omega
 rw[sp,List.filter_append,List.filter_append]
 have z1:(List.range k).filter (fun i=>(2^k*(2*a+1)).testBit i)= []:=List.filter_eq_nil_iff.2 fun i hi=>by
  rw[bH2,if_pos (List.mem_range.1 hi)];simp
 have z2:(List.range k).filter (fun i=>(2^k*(2*a)).testBit i)= []:=List.filter_eq_nil_iff.2 fun i hi=>by
  rw[b1,decide_eq_false (by have:=List.mem_range.1 hi;omega)];simp
 rw[z1,z2,List.nil_append,List.nil_append,List.filter_cons,List.filter_cons]
 have c1:(2^k*(2*a+1)).testBit k=true:=by rw[bH2];simp
 have c2:(2^k*(2*a)).testBit k=false:=by rw[b1];simp
 rw[c1,c2]
 simp only[if_true,Bool.false_eq_true,if_false]
 congr 1
 refine List.filter_congr fun i hi=> ?_
 have:=(List.mem_range'_1.1 hi).1
 rw[bH2,b1,if_neg (by omega),if_neg (by omega),decide_eq_true (by omega:k<i),Bool.true_and]
theorem dU2 {m:Nat} (hm:m<65536):aH1 (m:Int)=some (aN6 m):=by
 have key:∀(m:Nat),m<65536→EvL Z6 (.s1 (m:Int)) (aN6 m):=by
  intro m
  induction m using Nat.strongRecOn with
  | _ m ih=>
   intro hm
   by_cases h0:m=0
   ·subst h0
    exact .done (l:= []) rfl
   ·obtain⟨k,a,e⟩:=ez4 m h0
    have hk:k<16:=by
     rcases Nat.lt_or_ge k 16 with h | h
     ·exact h
     ·have h1:(2:Nat)^16≤2^k:=Nat.pow_le_pow_right (by decide) h
      have h2:2^k*1≤2^k*(2*a+1):=Nat.mul_le_mul_left _ (by omega)
      omega
    have ha:a<2^(63-k):=by
     have h1:(2:Nat)^16≤2^(63-k):=Nat.pow_le_pow_right (by decide) (by omega)
     have h2:1*(2*a+1)≤2^k*(2*a+1):=Nat.mul_le_mul_right _ (Nat.pow_pos (by decide))
     omega
    have htz:=eI0 (k:=k) (a:=a) (n:=63-k) (by omega) ha
    have hf:=dU3 (a:=a) hk
    have hap:=ek4 (k:=k) (a:=a)
    have hp:0<2^k:=Nat.pow_pos (by decide)
    rw[←e] at htz hf hap
    have e0:((m:Int) !=0)=true:=by
     rw[bne_iff_ne];omega
    have e1:IntKind.u64.wrap ((m:Int)-1)=((m-1:Nat):Int):=by
     rw[db2 (by omega) (by omega)];omega
    have e2:m9 .u64 (m:Int) ((m-1:Nat):Int)=((m-2^k:Nat):Int):=by
     rw[bv6 (by omega) (by omega),hap]
    have hb:aN6 m= [(k:Int)]++aN6 (m-2^k):=by
     unfold aN6
     rw[hf];rfl
    rw[hb]
    refine .next (s' :=.s1 ((m-2^k:Nat):Int)) ?_ (ih (m-2^k) (by omega) (by omega))
    simp only[Z6,aw4,e0,cond_true,htz,Option.bind_some,e1,e2,Option.map_some]
 have:=EvL.next (step:=Z6) (s:=.s0 (m:Int)) (s' :=.s1 (m:Int)) (l:= []) rfl (key m hm)
 exact bX3 this
theorem dm9 {m:Nat}{x:Int}:x∈aN6 m↔∃i:Nat,i<16∧m.testBit i=true∧x=i:=by
 simp only[aN6,List.mem_map,List.mem_filter,List.mem_range]
 constructor
 ·rintro ⟨i,⟨h1,h2⟩,rfl⟩;exact⟨i,h1,h2,rfl⟩
 ·rintro ⟨i,h1,h2,rfl⟩;exact⟨i,⟨h1,h2⟩,rfl⟩
def at9 (m:Nat) (i:Int):Bool:=decide (0≤i)&&m.testBit i.toNat
theorem dE2 {m:Nat}{i:Int} (hm:m<18446744073709551616) (hi:i<64):aq0 (m:Int) i=some (at9 m i):=by
 unfold aq0 at9
 by_cases h:i≥0
 ·obtain⟨k,rfl⟩:=Int.eq_ofNat_of_zero_le h
  have hp:(2:Nat)^k<2^64:=Nat.pow_lt_pow_right (by decide) (by omega)
  rw[decide_eq_true h,nn0]
  simp only[cond_true,Bool.true_and,Int.toNat_natCast]
  rw[aJ6 (by omega),bv6 hm (by omega)]
  congr 1
  cases hb:m.testBit k with
  | false=>
   rw[cV4.2 hb];rfl
  | true=>
   rw[bne_iff_ne]
   intro he
   have:m&&&2^k=0:=by exact_mod_cast he
   rw[cV4.1 this] at hb;cases hb
 ·rw[decide_eq_false h]
  rfl
noncomputable def U9:=u5 (u6 Tryz.f145)
noncomputable def bB4 (y:Int×Bool):D×i0:=(.tup [.int .i64 y.1,.bool y.2],[])
inductive ab8 where
 | s0
 | s1 (b t8 t9:Int)
 | s2 (b t8 t9:Int) (V1:Bool) (p_:u9)
noncomputable def bC9 (l_:List u9):ab8→M
 | .s0=>C3 Tryz.f145 [.sl false 3 (List.map u9.enc l_)] []
 | .s1 b t8 t9=>⟨[.lpc (U9 [1,1,0,1,0,0]) 912,.blk 0,.code (U9 [1,1,1])],[(4,.int .i64 b),(7,.sl false 3 (List.map u9.enc l_)),(8,.int .i64 t8),(9,.int .i64 t9)],[]⟩
 | .s2 b t8 t9 V1 p_=>⟨[.code (U9 [1,1,0,1,0,0,1,1,0,0,1,0,1]),.code (U9 [1,1,0,1,0,0,1,1,0,0,1,1]),.blk 1,.code (U9 [1,1,0,1,0,0,1,1,1]),.lp (U9 [1,1,0,1,0,0]) 912,.blk 0,.code (U9 [1,1,1])],[(4,.int .i64 b),(6,.ptr 0 0 0),(7,.sl false 3 (List.map u9.enc l_)),(8,.int .i64 t8),(9,.int .i64 t9),(22,.bool V1)],[some ⟨3,false,[(u9.enc p_)]⟩]⟩
abbrev aW7 (l_:List u9):=SOk E (Cx.of Tryz.f145 false 0) bB4 (bC9 l_)
noncomputable def aW5 (l_:List u9):Option (ab8⊕(Int×Bool)):=(some (.inl (.s1 0 (((List.map u9.enc l_).length:Nat):Int) 0)))
noncomputable def am9 (l_:List u9) (b t8 t9:Int):Option (ab8⊕(Int×Bool)):=(bif (decide (t9<t8)) then (bif ((decide ((0:Int)≤t9))&&(decide (t9<(((List.map u9.enc l_).length:Nat):Int)))) then (((l_)[t9.toNat]?).bind fun y3=>(bif (decide (y3.n<0)) then (some (.inl (.s2 b t8 t9 true y3))) else (some (.inl (.s2 b t8 t9 (decide (y3.n>y3.most)) y3))))) else none) else (some (.inr (b,true))))
noncomputable def aA9 (l_:List u9) (b t8 t9:Int) (V1:Bool) (p_:u9):Option (ab8⊕(Int×Bool)):=(bif V1 then (some (.inr (0,false))) else (bif (!decide (p_.bits<0)) then (some (.inl (.s1 (orI .i64 (D3 .i64 b p_.bits) p_.n) t8 (IntKind.i64.wrap (t9+1))))) else none))
noncomputable def S8 (l_:List u9):ab8→Option (ab8⊕(Int×Bool))
 | .s0=>aW5 l_
 | .s1 b t8 t9=>am9 l_ b t8 t9
 | .s2 b t8 t9 V1 p_=>aA9 l_ b t8 t9 V1 p_
theorem ca9 {l_}:aW7 l_ .s0 (aW5 l_):=by
 intro r x h ha;unfold aW5 at h
 exact zj 19 h ha
theorem ch2 {l_ b t8 t9}:aW7 l_ (.s1 b t8 t9) (am9 l_ b t8 t9):=by
 intro r x h ha;unfold am9 at h
 refine zs 7 h (fun h=> ?_) fun h=> ?_
 ·
  refine zn 6 h fun h=> ?_
  refine zr 1 u9.enc h fun y3 h=> ?_
  refine zs 14 h (fun h=> ?_) fun h=> ?_
  ·
   exact zk 11 h ha
  exact zk 13 h ha
 exact zt 8 h ha
theorem ch0 {l_ b t8 t9 V1 p_}:aW7 l_ (.s2 b t8 t9 V1 p_) (aA9 l_ b t8 t9 V1 p_):=by
 intro r x h ha;unfold aA9 at h
 refine zs 1 h (fun h=> ?_) fun h=> ?_
 ·
  exact zt 6 h ha
 refine zn 3 h fun h=> ?_
 exact zj 7 h ha
noncomputable def bl6 (l_:List u9):Option (Int×Bool):=T3 (S8 l_) (.s0)
theorem cq4 {l_:List u9}{r:Int×Bool} (h:bl6 l_=some r):i7 E 145 [.sl false 3 (List.map u9.enc l_)] [] (Rs bB4 r):=sc (fn:=Tryz.f145) (k:=false) (m:=0) (H9:=(bC9 l_)) h fun s=>by
 cases s with
 | s0=>exact ca9
 | s1=>exact ch2
 | s2=>exact ch0
noncomputable def dn4 (y:Int×Int):D×i0:=(.tup [.int .i64 y.1,.int .i64 y.2],[])
noncomputable def aX2 (cB5 ap7 ac9:Int):Option (Int×Int):=((bl6 ([(⟨30,cB5,1073741823⟩:u9),(⟨20,ap7,1048575⟩:u9),(⟨4,ac9,15⟩:u9)])).bind fun y1=>(bif (!y1.2) then (some (0,1)) else (some (y1.1,0))))
theorem dg4 {cB5 ap7 ac9:Int}{r:Int×Int} (h:aX2 cB5 ap7 ac9=some r):i7 E 115 [.int .i64 cB5,.int .i64 ap7,.int .i64 ac9] [] (Rs dn4 r):=so (fn:=Tryz.f115) (k:=false) (m:=0) h<| by
 intro r h;unfold aX2 at h
 refine zc 16 [] h (fun _=>cq4) fun y1 h=> ?_
 refine zs 13 h (fun h=> ?_) fun h=> ?_
 ·
  exact zu 6 h
 exact zu 8 h
noncomputable def du2:=u5 (u6 Tryz.f81)
noncomputable def cl4 (y:Int×Int):D×i0:=(.tup [.int .i64 y.1,.int .i64 y.2],[])
abbrev do4:=AOk E (Cx.of Tryz.f81 false 0) cl4
noncomputable def df3 (n:Int):M:=⟨[.code (du2 [1,1,1,1])],[(8,.int .i64 n)],[]⟩
noncomputable def av8 (n:Int):Option (Int×Int):=(bif (decide (n≥18014398509481984)) then (some (0,2)) else (some (n,0)))
theorem bK0 {n}:do4 (df3 n) (av8 n):=by
 intro r h;unfold av8 at h
 refine zs 7 h (fun h=> ?_) fun h=> ?_
 ·
  exact zu 6 h
 exact zu 8 h
noncomputable def aY4 (b ap7 ac9:Int):Option (Int×Int):=((aX2 0 ap7 ac9).bind fun y1=>(bif ((y1.2:Int) !=0) then (some (0,y1.2)) else (bif (decide (b<y1.1)) then (some (y1.1,0)) else (bif (decide (b≥18014398509481984)) then (some (0,2)) else (bif (decide (((IntKind.i64.wrap (y1.1+(D3 .i64 (r5 .i64 b 24) 24))):Int)≤b)) then (av8 (IntKind.i64.wrap ((IntKind.i64.wrap (y1.1+(D3 .i64 (r5 .i64 b 24) 24)))+16777216))) else (av8 (IntKind.i64.wrap (y1.1+(D3 .i64 (r5 .i64 b 24) 24)))))))))
theorem dd8 {b ap7 ac9:Int}{r:Int×Int} (h:aY4 b ap7 ac9=some r):i7 E 81 [.int .i64 b,.int .i64 ap7,.int .i64 ac9] [] (Rs cl4 r):=so (fn:=Tryz.f81) (k:=false) (m:=0) h<| by
 intro r h;unfold aY4 at h
 refine zc 10 [] h (fun _=>dg4) fun y1 h=> ?_
 refine zs 15 h (fun h=> ?_) fun h=> ?_
 ·
  exact zu 7 h
 refine zs 8 h (fun h=> ?_) fun h=> ?_
 ·
  exact zu 7 h
 refine zs 7 h (fun h=> ?_) fun h=> ?_
 ·
  exact zu 6 h
 refine zs 21 h (fun h=> ?_) fun h=> ?_
 ·
  exact zg 5 (bK0 h)
 exact zg 1 (bK0 h)
theorem ep7 {n:Nat} (h:n<9223372036854775808):(BitVec.ofInt IntKind.i64.bits (n:Int)).toNat=n:=by
 rw[BitVec.ofInt_natCast,BitVec.toNat_ofNat]
 exact Nat.mod_eq_of_lt (by show n<2^64;omega)
theorem eq3 {a b:Nat} (ha:a<9223372036854775808) (hb:b<9223372036854775808):orI .i64 a b=((a ||| b:Nat):Int):=by
 have:=Nat.or_lt_two_pow (n:=63) (x:=a) (y:=b) (by omega) (by omega)
 unfold orI
 rw[BitVec.toNat_or,ep7 ha,ep7 hb,v9 (by omega) (by omega)]
theorem eF2 {a b k:Nat} (h:b<2^k):(a*2^k ||| b)=a*2^k+b:=by
 have:=Nat.two_pow_add_eq_or_of_lt h a
 rw[Nat.mul_comm a];exact this.symm
theorem eq0 {a k:Nat} (hk:k<64) (h:a*2^k<9223372036854775808):D3 .i64 a k=((a*2^k:Nat):Int):=by
 unfold D3
 rw[show min ((k:Int)).toNat IntKind.i64.bits=k by simp[IntKind.bits];omega]
 have:(a:Int)*2^k=((a*2^k:Nat):Int):=by push_cast;rfl
 rw[this,v9 (by omega) (by omega)]
theorem dQ1 {a k:Nat} (hk:k≤64):r5 .i64 a k=((a/2^k:Nat):Int):=by
 unfold r5
 rw[show min ((k:Int)).toNat IntKind.i64.bits=k by simp[IntKind.bits];omega]
 rw[Int.fdiv_eq_ediv_of_nonneg _ (by exact Int.le_of_lt (Int.pow_pos (by decide)))]
 norm_cast
theorem es5 {boot index:Int} (hb:0≤boot∧boot≤1048575) (hi:0≤index∧index≤15):aX2 0 boot index=some (boot*16+index,0):=by
 obtain⟨b,rfl⟩:=Int.eq_ofNat_of_zero_le hb.1
 obtain⟨i,rfl⟩:=Int.eq_ofNat_of_zero_le hi.1
 have hb2:b≤1048575:=by omega
 have hi2:i≤15:=by omega
 have t:bl6 [(⟨30,0,1073741823⟩:u9),(⟨20,(b:Int),1048575⟩:u9),(⟨4,(i:Int),15⟩:u9)]=some ((b:Int)*16+i,true):=by
  have s:∀(x:u9) (k:Nat) (a a' :Nat) (r:Int×Bool),k≤2→ [(⟨30,0,1073741823⟩:u9),(⟨20,(b:Int),1048575⟩:u9),(⟨4,(i:Int),15⟩:u9)][k]? =some x→0≤x.n∧x.n≤x.most→0≤x.bits→orI .i64 (D3 .i64 a x.bits) x.n=(a' :Nat)→
    Ev (S8 [(⟨30,0,1073741823⟩:u9),(⟨20,(b:Int),1048575⟩:u9),(⟨4,(i:Int),15⟩:u9)]) (.s1 (a' :Nat) 3 ((k+1:Nat):Int)) r→
    Ev (S8 [(⟨30,0,1073741823⟩:u9),(⟨20,(b:Int),1048575⟩:u9),(⟨4,(i:Int),15⟩:u9)]) (.s1 (a:Nat) 3 (k:Nat)) r:=fun x k a a' r hk hx hn hbits ho h=>by
   have h1:decide ((k:Int)<3)=true:=by simp;omega
   have h2:decide ((k:Int)<((3:Nat):Int))=true:=by simp;omega
   have h3:decide (x.n<0)=false:=by simp;omega
   have h4:decide (x.n>x.most)=false:=by simp;omega
   have h5:(!decide (x.bits<0))=true:=by simp;omega
   refine .next (s' :=.s2 (a:Nat) 3 (k:Nat) false x) ?_ (.next (s' :=.s1 (a' :Nat) 3 ((k+1:Nat):Int)) ?_ h)
   ·simp only[S8,am9,h1,cond_true,O9,List.length_map,List.length_cons,List.length_nil,h2,Bool.and_self,Int.toNat_natCast,hx,Option.bind_some,h3,cond_false,h4]
   ·simp only[S8,aA9,cond_false,h5,cond_true,ho]
    rw[v9 (by omega) (by omega)];norm_cast
  refine z7 (.next (s' :=.s1 ((0:Nat):Int) 3 ((0:Nat):Int)) rfl (s _ 0 0 0 _ (by decide) rfl (by simp) (by simp) rfl (s _ 1 0 b _ (by decide) rfl ⟨by simp,by simp;omega⟩ (by simp) ?_ (s _ 2 b (b*16+i) _ (by decide) rfl ⟨by simp,by simp;omega⟩ (by simp) ?_ ?_))))
  ·have:=eq3 (a:=0) (b:=b) (by decide) (by omega)
   rw[show D3 .i64 ((0:Nat):Int) 20=((0:Nat):Int) from rfl,this,Nat.zero_or]
  ·have h1:=eq0 (a:=b) (k:=4) (by decide) (by omega)
   have h2:=eq3 (a:=b*2^4) (b:=i) (by omega) (by omega)
   rw[eF2 (by omega)] at h2
   simp only at h1 h2 ⊢
   rw[show((4:Int))=((4:Nat):Int) from rfl,h1,h2]
  ·refine .done ?_
   simp only[S8,am9]
   rfl
 unfold aX2
 rw[t]
 rfl
theorem er8 {b boot index:Int} (h0:0≤b) (hb:0≤boot∧boot≤1048575) (hi:0≤index∧index≤15):
  ∃r,aY4 b boot index=some r∧(r.2=0→b<r.1∧r.1%16777216=boot*16+index∧r.1<18014398509481984):=by
 unfold aY4
 rw[es5 hb hi]
 simp only[Option.bind_some,bne_self_eq_false,cond_false]
 by_cases h1:b<boot*16+index
 ·exact⟨_,by rw[decide_eq_true h1];rfl,fun _=>⟨h1,by simp only;omega,by simp only;omega⟩⟩
 rw[decide_eq_false h1]
 simp only[cond_false]
 by_cases h2:b≥18014398509481984
 ·exact⟨_,by rw[decide_eq_true h2];rfl,fun h=>by simp at h⟩
 rw[decide_eq_false h2]
 simp only[cond_false]
 obtain⟨m,rfl⟩:=Int.eq_ofNat_of_zero_le h0
 have e1:r5 .i64 (m:Int) 24=((m/2^24:Nat):Int):=dQ1 (by decide)
 have hd:m/2^24*2^24≤m:=Nat.div_mul_le_self _ _
 have hd9:m/2^24*2^24<9223372036854775808:=by omega
 have e2:D3 .i64 ((m/2^24:Nat):Int) 24=((m/2^24*2^24:Nat):Int):=eq0 (by decide) hd9
 have hlt:m<m/2^24*2^24+2^24:=by omega
 rw[e1,e2]
 have hq:(m/2^24*2^24:Nat)=16777216*(m/16777216):=by omega
 rw[hq] at hd hlt ⊢
 rw[v9 (n:=boot*16+index+((16777216*(m/16777216):Nat):Int)) (by omega) (by omega)]
 have fin:∀x:Int,(m:Int)<x→x%16777216=boot*16+index→∃r,av8 x=some r∧(r.2=0→(m:Int)<r.1∧r.1%16777216=boot*16+index∧r.1<18014398509481984):=fun x h3 h4=>by
  unfold av8
  by_cases h5:x≥18014398509481984
  ·exact⟨_,by rw[decide_eq_true h5];rfl,fun h=>by simp at h⟩
  ·exact⟨_,by rw[decide_eq_false h5];rfl,fun _=>⟨h3,h4,by simp only;omega⟩⟩
 by_cases h3:boot*16+index+((16777216*(m/16777216):Nat):Int)≤m
 ·rw[decide_eq_true h3,v9 (by omega) (by omega)]
  simp only[cond_true]
  exact fin _ (by omega) (by omega)
 ·rw[decide_eq_false h3]
  simp only[cond_false]
  exact fin _ (by omega) (by omega)
noncomputable def cZ8 (y:Bool):D×i0:=(.bool y,[])
noncomputable def aC9 (n t t2:Int):Option Bool:=(bif (decide (n<t)) then (some true) else (some (decide (n>t2))))
theorem cT2 {n t t2:Int}{r:Bool} (h:aC9 n t t2=some r):i7 E 96 [.int .i64 n,.iptr 1 [[.int .i64 t]] 0 0,.iptr 1 [[.int .i64 t2]] 0 0] [] (Rs cZ8 r):=so (fn:=Tryz.f96) (k:=false) (m:=0) h<| by
 intro r h;unfold aC9 at h
 refine zs 12 h (fun h=> ?_) fun h=> ?_
 ·
  exact zu 9 h
 exact zu 10 h
noncomputable def ar5:=u5 (u6 Tryz.f127)
noncomputable def at5 (y:Int):D×i0:=(.int .i64 y,[])
inductive I5 where
 | s0 (s_:List Int) (f f2:Int)
 | s1 (s_:List Int) (f f2:Int) (t7 t8:Int)
noncomputable def as4:I5→M
 | .s0 s_ f f2=>C3 Tryz.f127 [.sl false 1 (List.map (d8 .i64) s_),.fn 96 [] [.iptr 1 [[.int .i64 f]] 0 0,.iptr 1 [[.int .i64 f2]] 0 0]] []
 | .s1 s_ f f2 t7 t8=>⟨[.lpc (ar5 [1,0,1,0,0]) 387,.blk 0,.code (ar5 [1,1])],[(0,.sl false 1 (List.map (d8 .i64) s_)),(1,.fn 96 [] [.iptr 1 [[.int .i64 f]] 0 0,.iptr 1 [[.int .i64 f2]] 0 0]),(7,.int .i64 t7),(8,.int .i64 t8)],[]⟩
abbrev ar2:=SOk E (Cx.of Tryz.f127 false 0) at5 as4
noncomputable def O5 (s_:List Int) (f f2:Int):Option (I5⊕Int):=(some (.inl (.s1 s_ f f2 (((List.map (d8 .i64) s_).length:Nat):Int) 0)))
noncomputable def E2 (s_:List Int) (f f2:Int) (t7 t8:Int):Option (I5⊕Int):=(bif (decide (t8<t7)) then (bif ((decide ((0:Int)≤t8))&&(decide (t8<(((List.map (d8 .i64) s_).length:Nat):Int)))) then (((s_)[t8.toNat]?).bind fun y3=>((aC9 y3 f f2).bind fun y5=>(bif y5 then (some (.inr t8)) else (some (.inl (.s1 s_ f f2 t7 (IntKind.i64.wrap (t8+1)))))))) else none) else (some (.inr (-1))))
noncomputable def C8:I5→Option (I5⊕Int)
 | .s0 s_ f f2=>O5 s_ f f2
 | .s1 s_ f f2 t7 t8=>E2 s_ f f2 t7 t8
theorem aV4 {s_ f f2}:ar2 (.s0 s_ f f2) (O5 s_ f f2):=by
 intro r x h ha;unfold O5 at h
 exact zj 14 h ha
theorem aV3 {s_ f f2 t7 t8}:ar2 (.s1 s_ f f2 t7 t8) (E2 s_ f f2 t7 t8):=by
 intro r x h ha;unfold E2 at h
 refine zs 7 h (fun h=> ?_) fun h=> ?_
 ·
  refine zn 14 h fun h=> ?_
  refine zr 1 (d8 .i64) h fun y3 h=> ?_
  refine zc 1 [] h (fun _=>cT2) fun y5 h=> ?_
  refine zs 2 h (fun h=> ?_) fun h=> ?_
  ·
   exact zt 6 h ha
  exact zj 7 h ha
 exact zt 6 h ha
noncomputable def aa6 (s_:List Int) (f f2:Int):Option Int:=T3 C8 (.s0 s_ f f2)
theorem aX5 {s_:List Int}{f f2 r:Int} (h:aa6 s_ f f2=some r):i7 E 127 [.sl false 1 (List.map (d8 .i64) s_),.fn 96 [] [.iptr 1 [[.int .i64 f]] 0 0,.iptr 1 [[.int .i64 f2]] 0 0]] [] (Rs at5 r):=sc (fn:=Tryz.f127) (k:=false) (m:=0) (H9:=as4) h fun s=>by
 cases s with
 | s0=>exact aV4
 | s1=>exact aV3
noncomputable def aV6 (y:Bool):D×i0:=(.bool y,[])
noncomputable def N0 (s_:List Int) (f f2:Int):Option Bool:=((aa6 s_ f f2).bind fun y1=>(some (decide (y1≥0))))
theorem aR8 {s_:List Int}{f f2:Int}{r:Bool} (h:N0 s_ f f2=some r):i7 E 95 [.sl false 1 (List.map (d8 .i64) s_),.fn 96 [] [.iptr 1 [[.int .i64 f]] 0 0,.iptr 1 [[.int .i64 f2]] 0 0]] [] (Rs aV6 r):=so (fn:=Tryz.f95) (k:=false) (m:=0) h<| by
 intro r h;unfold N0 at h
 refine zc 9 [] h (fun _=>aX5) fun y1 h=> ?_
 exact zu 4 h
noncomputable def dC3 (y:Bool):D×i0:=(.bool y,[])
noncomputable def I9 (low aa9:Int) (l_:List Int):Option Bool:=((N0 l_ low aa9).bind fun y1=>(some (!y1)))
theorem J4 {low aa9:Int}{l_:List Int}{r:Bool} (h:I9 low aa9 l_=some r):i7 E 56 [.int .i64 low,.int .i64 aa9,.sl false 1 (List.map (d8 .i64) l_)] [] (Rs dC3 r):=so (fn:=Tryz.f56) (k:=false) (m:=0) h<| by
 intro r h;unfold I9 at h
 refine zc 11 [] h (fun _=>aR8) fun y1 h=> ?_
 exact zu 4 h
noncomputable def cy1 (y:Bool):D×i0:=(.bool y,[])
noncomputable def aj1 (n t t2:Int):Option Bool:=(bif (decide (n<t)) then (some true) else (some (decide (n>t2))))
theorem cu7 {n t t2:Int}{r:Bool} (h:aj1 n t t2=some r):i7 E 98 [.int .i64 n,.iptr 1 [[.int .i64 t]] 0 0,.iptr 1 [[.int .i64 t2]] 0 0] [] (Rs cy1 r):=so (fn:=Tryz.f98) (k:=false) (m:=0) h<| by
 intro r h;unfold aj1 at h
 refine zs 12 h (fun h=> ?_) fun h=> ?_
 ·
  exact zu 9 h
 exact zu 10 h
noncomputable def aj6:=u5 (u6 Tryz.f128)
noncomputable def ak1 (y:Int):D×i0:=(.int .i64 y,[])
inductive F4 where
 | s0 (s_:List Int) (f f2:Int)
 | s1 (s_:List Int) (f f2:Int) (t7 t8:Int)
noncomputable def ak3:F4→M
 | .s0 s_ f f2=>C3 Tryz.f128 [.sl false 1 (List.map (d8 .i64) s_),.fn 98 [] [.iptr 1 [[.int .i64 f]] 0 0,.iptr 1 [[.int .i64 f2]] 0 0]] []
 | .s1 s_ f f2 t7 t8=>⟨[.lpc (aj6 [1,0,1,0,0]) 387,.blk 0,.code (aj6 [1,1])],[(0,.sl false 1 (List.map (d8 .i64) s_)),(1,.fn 98 [] [.iptr 1 [[.int .i64 f]] 0 0,.iptr 1 [[.int .i64 f2]] 0 0]),(7,.int .i64 t7),(8,.int .i64 t8)],[]⟩
abbrev ak6:=SOk E (Cx.of Tryz.f128 false 0) ak1 ak3
noncomputable def K5 (s_:List Int) (f f2:Int):Option (F4⊕Int):=(some (.inl (.s1 s_ f f2 (((List.map (d8 .i64) s_).length:Nat):Int) 0)))
noncomputable def C9 (s_:List Int) (f f2:Int) (t7 t8:Int):Option (F4⊕Int):=(bif (decide (t8<t7)) then (bif ((decide ((0:Int)≤t8))&&(decide (t8<(((List.map (d8 .i64) s_).length:Nat):Int)))) then (((s_)[t8.toNat]?).bind fun y3=>((aj1 y3 f f2).bind fun y5=>(bif y5 then (some (.inr t8)) else (some (.inl (.s1 s_ f f2 t7 (IntKind.i64.wrap (t8+1)))))))) else none) else (some (.inr (-1))))
noncomputable def B8:F4→Option (F4⊕Int)
 | .s0 s_ f f2=>K5 s_ f f2
 | .s1 s_ f f2 t7 t8=>C9 s_ f f2 t7 t8
theorem aN0 {s_ f f2}:ak6 (.s0 s_ f f2) (K5 s_ f f2):=by
 intro r x h ha;unfold K5 at h
 exact zj 14 h ha
theorem aN3 {s_ f f2 t7 t8}:ak6 (.s1 s_ f f2 t7 t8) (C9 s_ f f2 t7 t8):=by
 intro r x h ha;unfold C9 at h
 refine zs 7 h (fun h=> ?_) fun h=> ?_
 ·
  refine zn 14 h fun h=> ?_
  refine zr 1 (d8 .i64) h fun y3 h=> ?_
  refine zc 1 [] h (fun _=>cu7) fun y5 h=> ?_
  refine zs 2 h (fun h=> ?_) fun h=> ?_
  ·
   exact zt 6 h ha
  exact zj 7 h ha
 exact zt 6 h ha
noncomputable def W9 (s_:List Int) (f f2:Int):Option Int:=T3 B8 (.s0 s_ f f2)
theorem aT0 {s_:List Int}{f f2 r:Int} (h:W9 s_ f f2=some r):i7 E 128 [.sl false 1 (List.map (d8 .i64) s_),.fn 98 [] [.iptr 1 [[.int .i64 f]] 0 0,.iptr 1 [[.int .i64 f2]] 0 0]] [] (Rs ak1 r):=sc (fn:=Tryz.f128) (k:=false) (m:=0) (H9:=ak3) h fun s=>by
 cases s with
 | s0=>exact aN0
 | s1=>exact aN3
noncomputable def aN1 (y:Bool):D×i0:=(.bool y,[])
noncomputable def J8 (s_:List Int) (f f2:Int):Option Bool:=((W9 s_ f f2).bind fun y1=>(some (decide (y1≥0))))
theorem aL2 {s_:List Int}{f f2:Int}{r:Bool} (h:J8 s_ f f2=some r):i7 E 97 [.sl false 1 (List.map (d8 .i64) s_),.fn 98 [] [.iptr 1 [[.int .i64 f]] 0 0,.iptr 1 [[.int .i64 f2]] 0 0]] [] (Rs aN1 r):=so (fn:=Tryz.f97) (k:=false) (m:=0) h<| by
 intro r h;unfold J8 at h
 refine zc 9 [] h (fun _=>aT0) fun y1 h=> ?_
 exact zu 4 h
noncomputable def cT5 (y:Bool):D×i0:=(.bool y,[])
noncomputable def am4 (low aa9:Int) (l_:List Int):Option Bool:=((J8 l_ low aa9).bind fun y1=>(some (!y1)))
theorem bH8 {low aa9:Int}{l_:List Int}{r:Bool} (h:am4 low aa9 l_=some r):i7 E 57 [.int .i64 low,.int .i64 aa9,.sl false 1 (List.map (d8 .i64) l_)] [] (Rs cT5 r):=so (fn:=Tryz.f57) (k:=false) (m:=0) h<| by
 intro r h;unfold am4 at h
 refine zc 11 [] h (fun _=>aL2) fun y1 h=> ?_
 exact zu 4 h
noncomputable def dK9 (y:Bool):D×i0:=(.bool y,[])
noncomputable def bv7 (x_:Int):Option Bool:=(some (x_ !=x_))
theorem cv4 {x_:Int}{r:Bool} (h:bv7 x_=some r):i7 E 162 [.int .i64 x_] [] (Rs dK9 r):=so (fn:=Tryz.f162) (k:=false) (m:=0) h<| by
 intro r h;unfold bv7 at h
 exact zu 12 h
noncomputable def dS1 (y:Bool):D×i0:=(.bool y,[])
noncomputable def bL6 (x_ y_:Int):Option Bool:=((bv7 x_).bind fun y1=>(bif y1 then ((bv7 y_).bind fun y3=>(bif (!y3) then (some true) else (some (decide (x_<y_))))) else (some (decide (x_<y_)))))
theorem dK4 {x_ y_:Int}{r:Bool} (h:bL6 x_ y_=some r):i7 E 155 [.int .i64 x_,.int .i64 y_] [] (Rs dS1 r):=so (fn:=Tryz.f155) (k:=false) (m:=0) h<| by
 intro r h;unfold bL6 at h
 refine zc 8 [] h (fun _=>cv4) fun y1 h=> ?_
 refine zs 2 h (fun h=> ?_) fun h=> ?_
 ·
  refine zc 2 [] h (fun _=>cv4) fun y3 h=> ?_
  refine zs 6 h (fun h=> ?_) fun h=> ?_
  ·
   exact zu 9 h
  exact zu 9 h
 exact zu 18 h
noncomputable def dE0 (y:Bool):D×i0:=(.bool y,[])
noncomputable def aT4 (n t t2:Int):Option Bool:=(bif (decide (n<t)) then (some true) else (some (decide (n>t2))))
theorem dt0 {n t t2:Int}{r:Bool} (h:aT4 n t t2=some r):i7 E 150 [.int .i64 n,.iptr 1 [[.int .i64 t]] 0 0,.iptr 1 [[.int .i64 t2]] 0 0] [] (Rs dE0 r):=so (fn:=Tryz.f150) (k:=false) (m:=0) h<| by
 intro r h;unfold aT4 at h
 refine zs 12 h (fun h=> ?_) fun h=> ?_
 ·
  exact zu 9 h
 exact zu 10 h
noncomputable def aO1:=u5 (u6 Tryz.f128)
noncomputable def aN7 (y:Int):D×i0:=(.int .i64 y,[])
inductive Q5 where
 | s0 (s_:List Int) (f f2:Int)
 | s1 (s_:List Int) (f f2:Int) (t7 t8:Int)
noncomputable def aN9:Q5→M
 | .s0 s_ f f2=>C3 Tryz.f128 [.sl false 1 (List.map (d8 .i64) s_),.fn 150 [] [.iptr 1 [[.int .i64 f]] 0 0,.iptr 1 [[.int .i64 f2]] 0 0]] []
 | .s1 s_ f f2 t7 t8=>⟨[.lpc (aO1 [1,0,1,0,0]) 387,.blk 0,.code (aO1 [1,1])],[(0,.sl false 1 (List.map (d8 .i64) s_)),(1,.fn 150 [] [.iptr 1 [[.int .i64 f]] 0 0,.iptr 1 [[.int .i64 f2]] 0 0]),(7,.int .i64 t7),(8,.int .i64 t8)],[]⟩
abbrev aO0:=SOk E (Cx.of Tryz.f128 false 0) aN7 aN9
noncomputable def aa0 (s_:List Int) (f f2:Int):Option (Q5⊕Int):=(some (.inl (.s1 s_ f f2 (((List.map (d8 .i64) s_).length:Nat):Int) 0)))
noncomputable def K6 (s_:List Int) (f f2:Int) (t7 t8:Int):Option (Q5⊕Int):=(bif (decide (t8<t7)) then (bif ((decide ((0:Int)≤t8))&&(decide (t8<(((List.map (d8 .i64) s_).length:Nat):Int)))) then (((s_)[t8.toNat]?).bind fun y3=>((aT4 y3 f f2).bind fun y5=>(bif y5 then (some (.inr t8)) else (some (.inl (.s1 s_ f f2 t7 (IntKind.i64.wrap (t8+1)))))))) else none) else (some (.inr (-1))))
noncomputable def H3:Q5→Option (Q5⊕Int)
 | .s0 s_ f f2=>aa0 s_ f f2
 | .s1 s_ f f2 t7 t8=>K6 s_ f f2 t7 t8
theorem bn8 {s_ f f2}:aO0 (.s0 s_ f f2) (aa0 s_ f f2):=by
 intro r x h ha;unfold aa0 at h
 exact zj 14 h ha
theorem bo8 {s_ f f2 t7 t8}:aO0 (.s1 s_ f f2 t7 t8) (K6 s_ f f2 t7 t8):=by
 intro r x h ha;unfold K6 at h
 refine zs 7 h (fun h=> ?_) fun h=> ?_
 ·
  refine zn 14 h fun h=> ?_
  refine zr 1 (d8 .i64) h fun y3 h=> ?_
  refine zc 1 [] h (fun _=>dt0) fun y5 h=> ?_
  refine zs 2 h (fun h=> ?_) fun h=> ?_
  ·
   exact zt 6 h ha
  exact zj 7 h ha
 exact zt 6 h ha
noncomputable def au0 (s_:List Int) (f f2:Int):Option Int:=T3 H3 (.s0 s_ f f2)
theorem bA2 {s_:List Int}{f f2 r:Int} (h:au0 s_ f f2=some r):i7 E 128 [.sl false 1 (List.map (d8 .i64) s_),.fn 150 [] [.iptr 1 [[.int .i64 f]] 0 0,.iptr 1 [[.int .i64 f2]] 0 0]] [] (Rs aN7 r):=sc (fn:=Tryz.f128) (k:=false) (m:=0) (H9:=aN9) h fun s=>by
 cases s with
 | s0=>exact bn8
 | s1=>exact bo8
noncomputable def br5 (y:Bool):D×i0:=(.bool y,[])
noncomputable def X9 (s_:List Int) (f f2:Int):Option Bool:=((au0 s_ f f2).bind fun y1=>(some (decide (y1≥0))))
theorem bm2 {s_:List Int}{f f2:Int}{r:Bool} (h:X9 s_ f f2=some r):i7 E 97 [.sl false 1 (List.map (d8 .i64) s_),.fn 150 [] [.iptr 1 [[.int .i64 f]] 0 0,.iptr 1 [[.int .i64 f2]] 0 0]] [] (Rs br5 r):=so (fn:=Tryz.f97) (k:=false) (m:=0) h<| by
 intro r h;unfold X9 at h
 refine zc 9 [] h (fun _=>bA2) fun y1 h=> ?_
 exact zu 4 h
noncomputable def dS8 (y:Bool):D×i0:=(.bool y,[])
noncomputable def aH4 (low aa9:Int) (l_:List Int):Option Bool:=((X9 l_ low aa9).bind fun y1=>(some (!y1)))
theorem aY0 {low aa9:Int}{l_:List Int}{r:Bool} (h:aH4 low aa9 l_=some r):i7 E 119 [.int .i64 low,.int .i64 aa9,.sl false 1 (List.map (d8 .i64) l_)] [] (Rs dS8 r):=so (fn:=Tryz.f119) (k:=false) (m:=0) h<| by
 intro r h;unfold aH4 at h
 refine zc 11 [] h (fun _=>bm2) fun y1 h=> ?_
 exact zu 4 h
noncomputable def cP5 (y:Bool):D×i0:=(.bool y,[])
noncomputable def av6 (n t t2:Int):Option Bool:=(bif (decide (n<t)) then (some true) else (some (decide (n>t2))))
theorem cE3 {n t t2:Int}{r:Bool} (h:av6 n t t2=some r):i7 E 154 [.int .i64 n,.iptr 1 [[.int .i64 t]] 0 0,.iptr 1 [[.int .i64 t2]] 0 0] [] (Rs cP5 r):=so (fn:=Tryz.f154) (k:=false) (m:=0) h<| by
 intro r h;unfold av6 at h
 refine zs 12 h (fun h=> ?_) fun h=> ?_
 ·
  exact zu 9 h
 exact zu 10 h
noncomputable def aB3:=u5 (u6 Tryz.f127)
noncomputable def aD2 (y:Int):D×i0:=(.int .i64 y,[])
inductive M2 where
 | s0 (s_:List Int) (f f2:Int)
 | s1 (s_:List Int) (f f2:Int) (t7 t8:Int)
noncomputable def aE5:M2→M
 | .s0 s_ f f2=>C3 Tryz.f127 [.sl false 1 (List.map (d8 .i64) s_),.fn 154 [] [.iptr 1 [[.int .i64 f]] 0 0,.iptr 1 [[.int .i64 f2]] 0 0]] []
 | .s1 s_ f f2 t7 t8=>⟨[.lpc (aB3 [1,0,1,0,0]) 387,.blk 0,.code (aB3 [1,1])],[(0,.sl false 1 (List.map (d8 .i64) s_)),(1,.fn 154 [] [.iptr 1 [[.int .i64 f]] 0 0,.iptr 1 [[.int .i64 f2]] 0 0]),(7,.int .i64 t7),(8,.int .i64 t8)],[]⟩
abbrev aC7:=SOk E (Cx.of Tryz.f127 false 0) aD2 aE5
noncomputable def S6 (s_:List Int) (f f2:Int):Option (M2⊕Int):=(some (.inl (.s1 s_ f f2 (((List.map (d8 .i64) s_).length:Nat):Int) 0)))
noncomputable def H5 (s_:List Int) (f f2:Int) (t7 t8:Int):Option (M2⊕Int):=(bif (decide (t8<t7)) then (bif ((decide ((0:Int)≤t8))&&(decide (t8<(((List.map (d8 .i64) s_).length:Nat):Int)))) then (((s_)[t8.toNat]?).bind fun y3=>((av6 y3 f f2).bind fun y5=>(bif y5 then (some (.inr t8)) else (some (.inl (.s1 s_ f f2 t7 (IntKind.i64.wrap (t8+1)))))))) else none) else (some (.inr (-1))))
noncomputable def F1:M2→Option (M2⊕Int)
 | .s0 s_ f f2=>S6 s_ f f2
 | .s1 s_ f f2 t7 t8=>H5 s_ f f2 t7 t8
theorem bf3 {s_ f f2}:aC7 (.s0 s_ f f2) (S6 s_ f f2):=by
 intro r x h ha;unfold S6 at h
 exact zj 14 h ha
theorem bf4 {s_ f f2 t7 t8}:aC7 (.s1 s_ f f2 t7 t8) (H5 s_ f f2 t7 t8):=by
 intro r x h ha;unfold H5 at h
 refine zs 7 h (fun h=> ?_) fun h=> ?_
 ·
  refine zn 14 h fun h=> ?_
  refine zr 1 (d8 .i64) h fun y3 h=> ?_
  refine zc 1 [] h (fun _=>cE3) fun y5 h=> ?_
  refine zs 2 h (fun h=> ?_) fun h=> ?_
  ·
   exact zt 6 h ha
  exact zj 7 h ha
 exact zt 6 h ha
noncomputable def am3 (s_:List Int) (f f2:Int):Option Int:=T3 F1 (.s0 s_ f f2)
theorem bm1 {s_:List Int}{f f2 r:Int} (h:am3 s_ f f2=some r):i7 E 127 [.sl false 1 (List.map (d8 .i64) s_),.fn 154 [] [.iptr 1 [[.int .i64 f]] 0 0,.iptr 1 [[.int .i64 f2]] 0 0]] [] (Rs aD2 r):=sc (fn:=Tryz.f127) (k:=false) (m:=0) (H9:=aE5) h fun s=>by
 cases s with
 | s0=>exact bf3
 | s1=>exact bf4
noncomputable def bf2 (y:Bool):D×i0:=(.bool y,[])
noncomputable def R0 (s_:List Int) (f f2:Int):Option Bool:=((am3 s_ f f2).bind fun y1=>(some (decide (y1≥0))))
theorem bb8 {s_:List Int}{f f2:Int}{r:Bool} (h:R0 s_ f f2=some r):i7 E 95 [.sl false 1 (List.map (d8 .i64) s_),.fn 154 [] [.iptr 1 [[.int .i64 f]] 0 0,.iptr 1 [[.int .i64 f2]] 0 0]] [] (Rs bf2 r):=so (fn:=Tryz.f95) (k:=false) (m:=0) h<| by
 intro r h;unfold R0 at h
 refine zc 9 [] h (fun _=>bm1) fun y1 h=> ?_
 exact zu 4 h
noncomputable def do3 (y:Bool):D×i0:=(.bool y,[])
noncomputable def az6 (low aa9:Int) (l_:List Int):Option Bool:=((R0 l_ low aa9).bind fun y1=>(some (!y1)))
theorem bq9 {low aa9:Int}{l_:List Int}{r:Bool} (h:az6 low aa9 l_=some r):i7 E 129 [.int .i64 low,.int .i64 aa9,.sl false 1 (List.map (d8 .i64) l_)] [] (Rs do3 r):=so (fn:=Tryz.f129) (k:=false) (m:=0) h<| by
 intro r h;unfold az6 at h
 refine zc 11 [] h (fun _=>bb8) fun y1 h=> ?_
 exact zu 4 h
noncomputable def bB6:=u5 (u6 Tryz.f130)
noncomputable def bA9 (y:Bool):D×i0:=(.bool y,[])
inductive an9 where
 | s0 (x_:List Int)
 | s1 (x_:List Int) (i:Int)
noncomputable def bC6:an9→M
 | .s0 x_=>C3 Tryz.f130 [.sl false 1 (List.map (d8 .i64) x_)] []
 | .s1 x_ i=>⟨[.lpc (bB6 [1,0,1,0,0]) 9,.blk 0,.code (bB6 [1,1])],[(0,.sl false 1 (List.map (d8 .i64) x_)),(3,.int .i64 i)],[]⟩
abbrev bC2:=SOk E (Cx.of Tryz.f130 false 0) bA9 bC6
noncomputable def ao1 (x_:List Int):Option (an9⊕Bool):=(some (.inl (.s1 x_ (IntKind.i64.wrap ((((List.map (d8 .i64) x_).length:Nat):Int)-1)))))
noncomputable def V0 (x_:List Int) (i:Int):Option (an9⊕Bool):=(bif (decide (i>0)) then (bif ((decide ((0:Int)≤i))&&(decide (i<(((List.map (d8 .i64) x_).length:Nat):Int)))) then (((x_)[i.toNat]?).bind fun y3=>(bif ((decide ((0:Int)≤(IntKind.i64.wrap (i-1))))&&(decide (((IntKind.i64.wrap (i-1)):Int)<(((List.map (d8 .i64) x_).length:Nat):Int)))) then (((x_)[(IntKind.i64.wrap (i-1)).toNat]?).bind fun y6=>((bL6 y3 y6).bind fun y8=>(bif y8 then (some (.inr false)) else (some (.inl (.s1 x_ (IntKind.i64.wrap (i-1)))))))) else none)) else none) else (some (.inr true)))
noncomputable def J9:an9→Option (an9⊕Bool)
 | .s0 x_=>ao1 x_
 | .s1 x_ i=>V0 x_ i
theorem cb8 {x_}:bC2 (.s0 x_) (ao1 x_):=by
 intro r x h ha;unfold ao1 at h
 exact zj 15 h ha
theorem ca5 {x_ i}:bC2 (.s1 x_ i) (V0 x_ i):=by
 intro r x h ha;unfold V0 at h
 refine zs 8 h (fun h=> ?_) fun h=> ?_
 ·
  refine zn 5 h fun h=> ?_
  refine zr 0 (d8 .i64) h fun y3 h=> ?_
  refine zn 0 h fun h=> ?_
  refine zr 0 (d8 .i64) h fun y6 h=> ?_
  refine zd 0 [] h (fun _=>dK4) fun y8 h=> ?_
  refine zs 1 h (fun h=> ?_) fun h=> ?_
  ·
   exact zt 5 h ha
  exact zj 8 h ha
 exact zt 6 h ha
noncomputable def bg6 (x_:List Int):Option Bool:=T3 J9 (.s0 x_)
theorem cm4 {x_:List Int}{r:Bool} (h:bg6 x_=some r):i7 E 130 [.sl false 1 (List.map (d8 .i64) x_)] [] (Rs bA9 r):=sc (fn:=Tryz.f130) (k:=false) (m:=0) (H9:=bC6) h fun s=>by
 cases s with
 | s0=>exact cb8
 | s1=>exact ca5
noncomputable def aD3:=u5 (u6 Tryz.f99)
noncomputable def cp1 (y:Bool):D×i0:=(.bool y,[])
abbrev bH9:=AOk E (Cx.of Tryz.f99 false 0) cp1
noncomputable def dt2 (t37:Bool) (p_:Plan):M:=⟨[.code (aD3 [1,0,0,1,1,1,1,1]),.blk 0,.code (aD3 [1,1])],[(1,.ptr 0 0 0),(37,.bool t37)],[some ⟨12,false,[(Plan.enc p_)]⟩]⟩
noncomputable def aD8 (t37:Bool) (p_:Plan):Option Bool:=(bif t37 then (some false) else ((az6 0 1000000 p_.Pen).bind fun y2=>(bif y2 then ((aH4 0 1099511627776 p_.Changes).bind fun y4=>(bif y4 then ((bg6 p_.Changes).bind fun y6=>(some y6)) else (some false))) else (some false))))
theorem bR8 {t37 p_}:bH9 (dt2 t37 p_) (aD8 t37 p_):=by
 intro r h;unfold aD8 at h
 refine zs 1 h (fun h=> ?_) fun h=> ?_
 ·
  exact zu 5 h
 refine zc 8 [] h (fun _=>bq9) fun y2 h=> ?_
 refine zs 2 h (fun h=> ?_) fun h=> ?_
 ·
  refine zc 5 [] h (fun _=>aY0) fun y4 h=> ?_
  refine zs 4 h (fun h=> ?_) fun h=> ?_
  ·
   refine zc 5 [] h (fun _=>cm4) fun y6 h=> ?_
   exact zu 5 h
  exact zu 9 h
 exact zu 18 h
noncomputable def do1 (E9:Bool) (p_:Plan):M:=⟨[.code (aD3 [1,0,0,1,1,1]),.blk 0,.code (aD3 [1,1])],[(1,.ptr 0 0 0),(21,.bool E9)],[some ⟨12,false,[(Plan.enc p_)]⟩]⟩
noncomputable def aC0 (E9:Bool) (p_:Plan):Option Bool:=(bif E9 then (some false) else (bif (decide (((((List.map (d8 .i64) p_.Pen).length:Nat):Int):Int)>16)) then (aD8 (decide (((((List.map (d8 .i64) p_.Pen).length:Nat):Int):Int)>16)) p_) else (aD8 (decide (((((List.map (d8 .i64) p_.Changes).length:Nat):Int):Int)>8)) p_)))
theorem bO3 {E9 p_}:bH9 (do1 E9 p_) (aC0 E9 p_):=by
 intro r h;unfold aC0 at h
 refine zs 1 h (fun h=> ?_) fun h=> ?_
 ·
  exact zu 5 h
 refine zs 11 h (fun h=> ?_) fun h=> ?_
 ·
  exact zg 1 (bR8 h)
 exact zg 8 (bR8 h)
noncomputable def du3 (t3:Bool) (p_:Plan):M:=⟨[.code (aD3 [1,0,0,1]),.blk 0,.code (aD3 [1,1])],[(1,.ptr 0 0 0),(3,.bool t3)],[some ⟨12,false,[(Plan.enc p_)]⟩]⟩
noncomputable def at3 (t3:Bool) (p_:Plan):Option Bool:=(bif t3 then (some false) else ((aH4 0 1099511627776 ([p_.Stamp,p_.Since,p_.Ramped])).bind fun y2=>(bif (!y2) then (aC0 (!y2) p_) else (aC0 (decide (((A0 p_.Up p_.Sup):Int)≥65536)) p_))))
theorem bi2 {t3 p_}:bH9 (du3 t3 p_) (at3 t3 p_):=by
 intro r h;unfold at3 at h
 refine zs 1 h (fun h=> ?_) fun h=> ?_
 ·
  exact zu 5 h
 refine zc 15 [] h (fun _=>aY0) fun y2 h=> ?_
 refine zs 4 h (fun h=> ?_) fun h=> ?_
 ·
  exact zg 1 (bO3 h)
 exact zg 11 (bO3 h)
noncomputable def ap4 (p_:Plan):Option Bool:=(bif (decide (p_.Epoch<0)) then (at3 (decide (p_.Epoch<0)) p_) else ((az6 (-1) 15 ([p_.Target,p_.Prev,p_.Spill])).bind fun y2=>(bif (!y2) then (at3 (!y2) p_) else ((az6 0 100 ([p_.Percent])).bind fun y4=>(at3 (!y4) p_)))))
theorem aK0 {p_:Plan}{r:Bool} (h:ap4 p_=some r):i7 E 99 [.agg (Plan.enc p_)] [] (Rs cp1 r):=so (fn:=Tryz.f99) (k:=false) (m:=0) h<| by
 intro r h;unfold ap4 at h
 refine zs 17 h (fun h=> ?_) fun h=> ?_
 ·
  exact zg 1 (bi2 h)
 refine zc 14 [] h (fun _=>bq9) fun y2 h=> ?_
 refine zs 4 h (fun h=> ?_) fun h=> ?_
 ·
  exact zg 1 (bi2 h)
 refine zc 7 [] h (fun _=>bq9) fun y4 h=> ?_
 exact zg 3 (bi2 h)
noncomputable def dS3 (y:Bool):D×i0:=(.bool y,[])
noncomputable def aA4 (n low aa9:Int):Option Bool:=(bif (decide (n≥low)) then (some (decide (n≤aa9))) else (some false))
theorem bs0 {n low aa9:Int}{r:Bool} (h:aA4 n low aa9=some r):i7 E 70 [.int .i64 n,.int .i64 low,.int .i64 aa9] [] (Rs dS3 r):=so (fn:=Tryz.f70) (k:=false) (m:=0) h<| by
 intro r h;unfold aA4 at h
 refine zs 11 h (fun h=> ?_) fun h=> ?_
 ·
  exact zu 9 h
 exact zu 9 h
noncomputable def ad6:=u5 (u6 Tryz.f35)
noncomputable def ci9 (y:Bool):D×i0:=(.bool y,[])
inductive ac7 where
 | s0 (p_:Plan)
 | s1 (t47:Bool) (p_:Plan)
 | s2 (t85:Bool) (p_:Plan)
 | s3 (i:Int) (p_:Plan)
 | s4 (i:Int) (p_:Plan)
noncomputable def ci7:ac7→M
 | .s0 p_=>C3 Tryz.f35 [.agg (Plan.enc p_)] []
 | .s1 t47 p_=>⟨[.code (ad6 [1,0,1]),.code (ad6 [1,1])],[(1,.ptr 0 0 0),(47,.bool t47)],[some ⟨12,false,[(Plan.enc p_)]⟩]⟩
 | .s2 t85 p_=>⟨[.code (ad6 [1,1,0,1]),.code (ad6 [1,1,1])],[(1,.ptr 0 0 0),(85,.bool t85)],[some ⟨12,false,[(Plan.enc p_)]⟩]⟩
 | .s3 i p_=>⟨[.lpc (ad6 [1,1,1,0,1,0,0]) 10,.blk 0,.code (ad6 [1,1,1,1])],[(1,.ptr 0 0 0),(3,.int .i64 i)],[some ⟨12,false,[(Plan.enc p_)]⟩]⟩
 | .s4 i p_=>⟨[.lpc (ad6 [1,1,1,1,0,1,0,0]) 18,.blk 2,.code (ad6 [1,1,1,1,1])],[(1,.ptr 0 0 0),(4,.int .i64 i)],[some ⟨12,false,[(Plan.enc p_)]⟩]⟩
abbrev aJ1:=SOk E (Cx.of Tryz.f35 false 0) ci9 ci7
noncomputable def bb5 (p_:Plan):Option (ac7⊕Bool):=(bif (decide (p_.Epoch<0)) then (some (.inl (.s1 true p_))) else (bif (decide (p_.Target<(-1))) then (some (.inl (.s1 true p_))) else (bif (decide (p_.Target≥16)) then (some (.inl (.s1 true p_))) else (bif (decide (p_.Prev<(-1))) then (some (.inl (.s1 true p_))) else (bif (decide (p_.Prev≥16)) then (some (.inl (.s1 true p_))) else (bif (decide (p_.Spill<(-1))) then (some (.inl (.s1 true p_))) else (bif (decide (p_.Spill≥16)) then (some (.inl (.s1 true p_))) else (bif (decide (p_.Percent<0)) then (some (.inl (.s1 true p_))) else (some (.inl (.s1 (decide (p_.Percent>100)) p_)))))))))))
noncomputable def X6 (t47:Bool) (p_:Plan):Option (ac7⊕Bool):=(bif t47 then (some (.inr false)) else ((aA4 p_.Stamp 0 1099511627776).bind fun y2=>(bif (!y2) then (some (.inl (.s2 true p_))) else ((aA4 p_.Since 0 1099511627776).bind fun y4=>(bif (!y4) then (some (.inl (.s2 true p_))) else ((aA4 p_.Ramped 0 1099511627776).bind fun y6=>(bif (!y6) then (some (.inl (.s2 true p_))) else (bif (decide (p_.Up>65535)) then (some (.inl (.s2 true p_))) else (bif (decide (p_.Sup>65535)) then (some (.inl (.s2 true p_))) else (bif (decide (((((List.map (d8 .i64) p_.Pen).length:Nat):Int):Int)>16)) then (some (.inl (.s2 true p_))) else (some (.inl (.s2 (decide (((((List.map (d8 .i64) p_.Changes).length:Nat):Int):Int)>8)) p_)))))))))))))
noncomputable def by9 (t85:Bool) (p_:Plan):Option (ac7⊕Bool):=(bif t85 then (some (.inr false)) else (some (.inl (.s3 0 p_))))
noncomputable def al3 (i:Int) (p_:Plan):Option (ac7⊕Bool):=(bif (decide (i<(((List.map (d8 .i64) p_.Pen).length:Nat):Int))) then (bif ((decide ((0:Int)≤i))&&(decide (i<(((List.map (d8 .i64) p_.Pen).length:Nat):Int)))) then (((p_.Pen)[i.toNat]?).bind fun y3=>(bif (decide (y3<0)) then (some (.inr false)) else (bif ((decide ((0:Int)≤i))&&(decide (i<(((List.map (d8 .i64) p_.Pen).length:Nat):Int)))) then (((p_.Pen)[i.toNat]?).bind fun y7=>(bif (decide (y7>1000000)) then (some (.inr false)) else (some (.inl (.s3 (IntKind.i64.wrap (i+1)) p_))))) else none))) else none) else (some (.inl (.s4 0 p_))))
noncomputable def ac3 (i:Int) (p_:Plan):Option (ac7⊕Bool):=(bif (decide (i<(((List.map (d8 .i64) p_.Changes).length:Nat):Int))) then (bif ((decide ((0:Int)≤i))&&(decide (i<(((List.map (d8 .i64) p_.Changes).length:Nat):Int)))) then (((p_.Changes)[i.toNat]?).bind fun y3=>((aA4 y3 0 1099511627776).bind fun y5=>(bif (!y5) then (some (.inr false)) else (bif (decide (i>0)) then (bif ((decide ((0:Int)≤(IntKind.i64.wrap (i-1))))&&(decide (((IntKind.i64.wrap (i-1)):Int)<(((List.map (d8 .i64) p_.Changes).length:Nat):Int)))) then (((p_.Changes)[(IntKind.i64.wrap (i-1)).toNat]?).bind fun y9=>(bif ((decide ((0:Int)≤i))&&(decide (i<(((List.map (d8 .i64) p_.Changes).length:Nat):Int)))) then (((p_.Changes)[i.toNat]?).bind fun y12=>(bif (decide (y9>y12)) then (some (.inr false)) else (some (.inl (.s4 (IntKind.i64.wrap (i+1)) p_))))) else none)) else none) else (some (.inl (.s4 (IntKind.i64.wrap (i+1)) p_))))))) else none) else (some (.inr true)))
noncomputable def v7:ac7→Option (ac7⊕Bool)
 | .s0 p_=>bb5 p_
 | .s1 t47 p_=>X6 t47 p_
 | .s2 t85 p_=>by9 t85 p_
 | .s3 i p_=>al3 i p_
 | .s4 i p_=>ac3 i p_
theorem cG6 {p_}:aJ1 (.s0 p_) (bb5 p_):=by
 intro r x h ha;unfold bb5 at h
 refine zs 14 h (fun h=> ?_) fun h=> ?_
 ·
  exact zk 70 h ha
 refine zs 9 h (fun h=> ?_) fun h=> ?_
 ·
  exact zk 61 h ha
 refine zs 9 h (fun h=> ?_) fun h=> ?_
 ·
  exact zk 52 h ha
 refine zs 9 h (fun h=> ?_) fun h=> ?_
 ·
  exact zk 43 h ha
 refine zs 9 h (fun h=> ?_) fun h=> ?_
 ·
  exact zk 34 h ha
 refine zs 9 h (fun h=> ?_) fun h=> ?_
 ·
  exact zk 25 h ha
 refine zs 9 h (fun h=> ?_) fun h=> ?_
 ·
  exact zk 16 h ha
 refine zs 9 h (fun h=> ?_) fun h=> ?_
 ·
  exact zk 7 h ha
 exact zk 8 h ha
theorem cI9 {t47 p_}:aJ1 (.s1 t47 p_) (X6 t47 p_):=by
 intro r x h ha;unfold X6 at h
 refine zs 1 h (fun h=> ?_) fun h=> ?_
 ·
  exact zt 5 h ha
 refine zc 8 [] h (fun _=>bs0) fun y2 h=> ?_
 refine zs 3 h (fun h=> ?_) fun h=> ?_
 ·
  exact zk 60 h ha
 refine zc 5 [] h (fun _=>bs0) fun y4 h=> ?_
 refine zs 6 h (fun h=> ?_) fun h=> ?_
 ·
  exact zk 49 h ha
 refine zc 5 [] h (fun _=>bs0) fun y6 h=> ?_
 refine zs 6 h (fun h=> ?_) fun h=> ?_
 ·
  exact zk 38 h ha
 refine zs 9 h (fun h=> ?_) fun h=> ?_
 ·
  exact zk 29 h ha
 refine zs 9 h (fun h=> ?_) fun h=> ?_
 ·
  exact zk 20 h ha
 refine zs 11 h (fun h=> ?_) fun h=> ?_
 ·
  exact zk 9 h ha
 exact zk 10 h ha
theorem cG1 {t85 p_}:aJ1 (.s2 t85 p_) (by9 t85 p_):=by
 intro r x h ha;unfold by9 at h
 refine zs 1 h (fun h=> ?_) fun h=> ?_
 ·
  exact zt 5 h ha
 exact zj 9 h ha
theorem cJ3 {i p_}:aJ1 (.s3 i p_) (al3 i p_):=by
 intro r x h ha;unfold al3 at h
 refine zs 12 h (fun h=> ?_) fun h=> ?_
 ·
  refine zn 10 h fun h=> ?_
  refine zr 1 (d8 .i64) h fun y3 h=> ?_
  refine zs 3 h (fun h=> ?_) fun h=> ?_
  ·
   exact zt 20 h ha
  refine zn 7 h fun h=> ?_
  refine zr 2 (d8 .i64) h fun y7 h=> ?_
  refine zs 6 h (fun h=> ?_) fun h=> ?_
  ·
   exact zt 5 h ha
  exact zj 8 h ha
 exact zj 9 h ha
theorem cK4 {i p_}:aJ1 (.s4 i p_) (ac3 i p_):=by
 intro r x h ha;unfold ac3 at h
 refine zs 12 h (fun h=> ?_) fun h=> ?_
 ·
  refine zn 6 h fun h=> ?_
  refine zr 0 (d8 .i64) h fun y3 h=> ?_
  refine zd 0 [] h (fun _=>bs0) fun y5 h=> ?_
  refine zs 0 h (fun h=> ?_) fun h=> ?_
  ·
   exact zt 11 h ha
  refine zs 2 h (fun h=> ?_) fun h=> ?_
  ·
   refine zn 5 h fun h=> ?_
   refine zr 1 (d8 .i64) h fun y9 h=> ?_
   refine zn 5 h fun h=> ?_
   refine zr 1 (d8 .i64) h fun y12 h=> ?_
   refine zs 5 h (fun h=> ?_) fun h=> ?_
   ·
    exact zt 5 h ha
   exact zj 8 h ha
  exact zj 24 h ha
 exact zt 6 h ha
noncomputable def bS0 (p_:Plan):Option Bool:=T3 v7 (.s0 p_)
theorem cY5 {p_:Plan}{r:Bool} (h:bS0 p_=some r):i7 E 35 [.agg (Plan.enc p_)] [] (Rs ci9 r):=sc (fn:=Tryz.f35) (k:=false) (m:=0) (H9:=ci7) h fun s=>by
 cases s with
 | s0=>exact cG6
 | s1=>exact cI9
 | s2=>exact cG1
 | s3=>exact cJ3
 | s4=>exact cK4
noncomputable def bV3:=u5 (u6 Tryz.f132)
noncomputable def bX1 (y:Bool):D×i0:=(.bool y,[])
inductive aC5 where
 | s0 (s1 s2:List Int)
 | s1 (s1 s2:List Int) (P1 P0:Int)
noncomputable def bU5:aC5→M
 | .s0 s1 s2=>C3 Tryz.f132 [.sl false 1 (List.map (d8 .i64) s1),.sl false 1 (List.map (d8 .i64) s2)] []
 | .s1 s1 s2 P1 P0=>⟨[.lpc (bV3 [1,1,0,1,0,0]) 12291,.blk 0,.code (bV3 [1,1,1])],[(0,.sl false 1 (List.map (d8 .i64) s1)),(1,.sl false 1 (List.map (d8 .i64) s2)),(12,.int .i64 P1),(13,.int .i64 P0)],[]⟩
abbrev bU7:=SOk E (Cx.of Tryz.f132 false 0) bX1 bU5
noncomputable def aF4 (s1 s2:List Int):Option (aC5⊕Bool):=(bif (((((List.map (d8 .i64) s1).length:Nat):Int):Int) !=(((List.map (d8 .i64) s2).length:Nat):Int)) then (some (.inr false)) else (some (.inl (.s1 s1 s2 (((List.map (d8 .i64) s1).length:Nat):Int) 0))))
noncomputable def aq7 (s1 s2:List Int) (P1 P0:Int):Option (aC5⊕Bool):=(bif (decide (P0<P1)) then (bif ((decide ((0:Int)≤P0))&&(decide (P0<(((List.map (d8 .i64) s1).length:Nat):Int)))) then (((s1)[P0.toNat]?).bind fun y3=>(bif ((decide ((0:Int)≤P0))&&(decide (P0<(((List.map (d8 .i64) s2).length:Nat):Int)))) then (((s2)[P0.toNat]?).bind fun y6=>(bif (y3 !=y6) then (some (.inr false)) else (some (.inl (.s1 s1 s2 P1 (IntKind.i64.wrap (P0+1))))))) else none)) else none) else (some (.inr true)))
noncomputable def U6:aC5→Option (aC5⊕Bool)
 | .s0 s1 s2=>aF4 s1 s2
 | .s1 s1 s2 P1 P0=>aq7 s1 s2 P1 P0
theorem cz5 {s1 s2}:bU7 (.s0 s1 s2) (aF4 s1 s2):=by
 intro r x h ha;unfold aF4 at h
 refine zs 14 h (fun h=> ?_) fun h=> ?_
 ·
  exact zt 5 h ha
 exact zj 11 h ha
theorem cy9 {s1 s2 P1 P0}:bU7 (.s1 s1 s2 P1 P0) (aq7 s1 s2 P1 P0):=by
 intro r x h ha;unfold aq7 at h
 refine zs 7 h (fun h=> ?_) fun h=> ?_
 ·
  refine zn 10 h fun h=> ?_
  refine zr 0 (d8 .i64) h fun y3 h=> ?_
  refine zn 0 h fun h=> ?_
  refine zr 0 (d8 .i64) h fun y6 h=> ?_
  refine zs 1 h (fun h=> ?_) fun h=> ?_
  ·
   exact zt 5 h ha
  exact zj 7 h ha
 exact zt 6 h ha
noncomputable def bI0 (s1 s2:List Int):Option Bool:=T3 U6 (.s0 s1 s2)
theorem cV7 {s1 s2:List Int}{r:Bool} (h:bI0 s1 s2=some r):i7 E 132 [.sl false 1 (List.map (d8 .i64) s1),.sl false 1 (List.map (d8 .i64) s2)] [] (Rs bX1 r):=sc (fn:=Tryz.f132) (k:=false) (m:=0) (H9:=bU5) h fun s=>by
 cases s with
 | s0=>exact cz5
 | s1=>exact cy9
noncomputable def bB0:=u5 (u6 Tryz.f133)
noncomputable def bC8 (y:Bool):D×i0:=(.bool y,[])
inductive am8 where
 | s0 (s1 s2:List Int)
 | s1 (s1 s2:List Int) (P1 P0:Int)
noncomputable def bB3:am8→M
 | .s0 s1 s2=>C3 Tryz.f133 [.sl false 1 (List.map (d8 .i64) s1),.sl false 1 (List.map (d8 .i64) s2)] []
 | .s1 s1 s2 P1 P0=>⟨[.lpc (bB0 [1,1,0,1,0,0]) 12291,.blk 0,.code (bB0 [1,1,1])],[(0,.sl false 1 (List.map (d8 .i64) s1)),(1,.sl false 1 (List.map (d8 .i64) s2)),(12,.int .i64 P1),(13,.int .i64 P0)],[]⟩
abbrev bA8:=SOk E (Cx.of Tryz.f133 false 0) bC8 bB3
noncomputable def am6 (s1 s2:List Int):Option (am8⊕Bool):=(bif (((((List.map (d8 .i64) s1).length:Nat):Int):Int) !=(((List.map (d8 .i64) s2).length:Nat):Int)) then (some (.inr false)) else (some (.inl (.s1 s1 s2 (((List.map (d8 .i64) s1).length:Nat):Int) 0))))
noncomputable def ab9 (s1 s2:List Int) (P1 P0:Int):Option (am8⊕Bool):=(bif (decide (P0<P1)) then (bif ((decide ((0:Int)≤P0))&&(decide (P0<(((List.map (d8 .i64) s1).length:Nat):Int)))) then (((s1)[P0.toNat]?).bind fun y3=>(bif ((decide ((0:Int)≤P0))&&(decide (P0<(((List.map (d8 .i64) s2).length:Nat):Int)))) then (((s2)[P0.toNat]?).bind fun y6=>(bif (y3 !=y6) then (some (.inr false)) else (some (.inl (.s1 s1 s2 P1 (IntKind.i64.wrap (P0+1))))))) else none)) else none) else (some (.inr true)))
noncomputable def O1:am8→Option (am8⊕Bool)
 | .s0 s1 s2=>am6 s1 s2
 | .s1 s1 s2 P1 P0=>ab9 s1 s2 P1 P0
theorem cc2 {s1 s2}:bA8 (.s0 s1 s2) (am6 s1 s2):=by
 intro r x h ha;unfold am6 at h
 refine zs 14 h (fun h=> ?_) fun h=> ?_
 ·
  exact zt 5 h ha
 exact zj 11 h ha
theorem cd7 {s1 s2 P1 P0}:bA8 (.s1 s1 s2 P1 P0) (ab9 s1 s2 P1 P0):=by
 intro r x h ha;unfold ab9 at h
 refine zs 7 h (fun h=> ?_) fun h=> ?_
 ·
  refine zn 10 h fun h=> ?_
  refine zr 0 (d8 .i64) h fun y3 h=> ?_
  refine zn 0 h fun h=> ?_
  refine zr 0 (d8 .i64) h fun y6 h=> ?_
  refine zs 1 h (fun h=> ?_) fun h=> ?_
  ·
   exact zt 5 h ha
  exact zj 7 h ha
 exact zt 6 h ha
noncomputable def bg9 (s1 s2:List Int):Option Bool:=T3 O1 (.s0 s1 s2)
theorem cn0 {s1 s2:List Int}{r:Bool} (h:bg9 s1 s2=some r):i7 E 133 [.sl false 1 (List.map (d8 .i64) s1),.sl false 1 (List.map (d8 .i64) s2)] [] (Rs bC8 r):=sc (fn:=Tryz.f133) (k:=false) (m:=0) (H9:=bB3) h fun s=>by
 cases s with
 | s0=>exact cc2
 | s1=>exact cd7
noncomputable def du1 (y:Int):D×i0:=(.fn 163 [] [.iptr 1 [[.int .i64 y]] 0 0],[])
noncomputable def aM2 (n:Int):Option Int:=(some n)
theorem bV6 {n r:Int} (h:aM2 n=some r):i7 E 160 [.int .i64 n] [] (Rs du1 r):=so (fn:=Tryz.f160) (k:=false) (m:=0) h<| by
 intro r h;unfold aM2 at h
 exact zu 11 h
noncomputable def bQ5:=u5 (u6 Tryz.f163)
def E1 (y:Int):List D:= [D.int .u8 y]
inductive V4 where
 | s0 (t:Int)
 | s1 (u:Int)
noncomputable def aa8 (l:Nat):V4→M
 | .s0 t=>⟨[.code (u6 Tryz.f163)],[(0,D.yld l),(1,D.iptr 1 [[D.int .i64 t]] 0 0)],[]⟩
 | .s1 u=>⟨[.lpc (bQ5 [1,0,0,0]) 9,.blk 0,.code (bQ5 [1,1])],[(0,D.yld l),(3,D.int .u64 u)],[]⟩
noncomputable def bk5 (t:Int):Option (List Int×Option V4):=(some ([],some (.s1 (U0 .u64 (IntKind.u64.wrap ((D3 .i64 t 1))) (IntKind.u64.wrap ((r5 .i64 t 63)))))))
noncomputable def aw8 (u:Int):Option (List Int×Option V4):=(bif (decide (u>127)) then (Option.map (fun p=>((orI .u8 (IntKind.u8.wrap (u)) 128)::p.1,p.2)) (some ([],some (.s1 (r5 .u64 u 7))))) else (Option.map (fun p=>((IntKind.u8.wrap (u))::p.1,p.2)) (some ([],none))))
noncomputable def as0:V4→i0
 | .s0 t=> []
 | .s1 u=> []
noncomputable def ai0:V4→Option (List Int×Option V4)
 | .s0 t=>bk5 t
 | .s1 u=>aw8 u
theorem cu0 {l:Nat}{ln:i0}{φ0:y0}{J:Option (List (List D))→World→(Nat→Prop)→(Nat→Prop)→Prop}{t:Int}{x:List Int×Option V4}{Y:List (List D)} (hl:as0 (.s0 t)=ln) (h:bk5 t=some x) (ha:ai2 E ln (Cx.seq Tryz.f163 0 ln l φ0 J) E1 (aa8 l) as0 x Y):i4 E (Cx.seq Tryz.f163 0 ln l φ0 J (some Y)) (fun _ s=>U7 ln s) (.go (aa8 l (.s0 t))):=by
 subst hl
 unfold bk5 at h
 refine n8 hm 19 _ ?_
 obtain rfl:=Option.some.inj h
 exact bc4 (q' :=.go (aa8 l (.s1 (U0 .u64 (IntKind.u64.wrap ((D3 .i64 t 1))) (IntKind.u64.wrap ((r5 .i64 t 63))))))) (by kernel_rfl) (P8 (by kernel_rfl) ha)
theorem ct4 {l:Nat}{ln:i0}{φ0:y0}{J:Option (List (List D))→World→(Nat→Prop)→(Nat→Prop)→Prop}{u:Int}{x:List Int×Option V4}{Y:List (List D)} (hl:as0 (.s1 u)=ln) (h:aw8 u=some x) (ha:ai2 E ln (Cx.seq Tryz.f163 0 ln l φ0 J) E1 (aa8 l) as0 x Y):i4 E (Cx.seq Tryz.f163 0 ln l φ0 J (some Y)) (fun _ s=>U7 ln s) (.go (aa8 l (.s1 u))):=by
 subst hl
 unfold aw8 at h
 refine zs 8 h (fun h=> ?_) fun h=> ?_
 ·
  refine n8 hm 10 _ ?_
  refine ca3 (x:=(orI .u8 (IntKind.u8.wrap (u)) 128)) (s:= []) h ha (by kernel_rfl) (by kernel_rfl) ?_ (fun p Y h ha=> ?_)
  · --it is stopped
    refine n8 hm 5 _ ?_
    exact bK9 (d:=D.tup []) (s:= []) (by kernel_rfl) (by kernel_rfl)
  · --it goes on
    refine n8 hm 13 _ ?_
    obtain rfl:=Option.some.inj h
    exact bc4 (q' :=.go (aa8 l (.s1 (r5 .u64 u 7)))) (by kernel_rfl) (P8 (by kernel_rfl) ha)
 refine n8 hm 6 _ ?_
 refine ca3 (x:=(IntKind.u8.wrap (u))) (s:= []) h ha (by kernel_rfl) (by kernel_rfl) ?_ (fun p Y h ha=> ?_)
 · --it is stopped
   refine n8 hm 2 _ ?_
   exact bK9 (d:=D.tup []) (s:= []) (by kernel_rfl) (by kernel_rfl)
 · --it goes on
   refine n8 hm 2 _ ?_
   obtain rfl:=Option.some.inj h
   exact bZ5 (d:=D.tup []) (s:= []) (by kernel_rfl) (by kernel_rfl) ha
noncomputable def au5 (t:Int):Option (List Int):=evl ai0 (.s0 t)
theorem bL5 {t:Int}{r:List Int} (h:au5 t=some r):as3 E 163 [D.iptr 1 [[D.int .i64 t]] 0 0] [] [] (List.map E1 r):=
 bX7 (m:=fun l=>aa8 l (.s0 t)) (fn:=Tryz.f163) (by kernel_rfl) (fun l=>by kernel_rfl) (show List.take _ _=_ by kernel_rfl) (show F5 _ _=_ by kernel_rfl) (fun l φ0 J=>bH3 (step:=ai0) (lnS:=as0) (fun s x Y hl hs ha=>by
  cases s with
  | s0=>exact cu0 hl hs ha
  | s1=>exact ct4 hl hs ha) (by kernel_rfl) (bT9 h))
noncomputable def O6:=u5 (u6 Tryz.f149)
noncomputable def cS6 (y:Int×Int×Int):D×i0:=(.tup [.int .i64 y.1,.int .i64 y.2.1,.int .i64 y.2.2],[])
inductive aw5 where
 | s0 (b:List Int) (at_:Int)
 | s1 (b:List Int) (at_:Int) (P5:Bool)
 | s2 (at_ u an0:Int) (V1:List Int) (t23 D6:Int)
 | s4 (at_ u:Int) (an0 i c:Int) (V1:List Int) (t23 D6:Int) (N4:Bool)
 | s3 (at_ u:Int) (an0 i c:Int) (V1:List Int) (t23 D6:Int) (N4:Bool)
noncomputable def cW3:aw5→M
 | .s0 b at_=>C3 Tryz.f149 [.sl false 1 (List.map (d8 .u8) b),.int .i64 at_] []
 | .s1 b at_ P5=>⟨[.code (O6 [1,0,0,1]),.code (O6 [1,0,1]),.sc],[(0,.sl false 1 (List.map (d8 .u8) b)),(1,.int .i64 at_),(19,.bool P5)],[]⟩
 | .s2 at_ u an0 V1 t23 D6=>⟨[.lpc (O6 [1,0,1,1,1,1,0,1,0,0]) 29361026,.blk 0,.code (O6 [1,0,1,1,1,1,1]),.sc],[(1,.int .i64 at_),(7,.int .i64 11),(8,.int .u64 u),(9,.int .i64 an0),(22,.sl false 1 (List.map (d8 .u8) V1)),(23,.int .i64 t23),(24,.int .i64 D6)],[]⟩
 | .s4 at_ u an0 i c V1 t23 D6 N4=>⟨[.code (O6 [1,0,1,1,1,1,0,1,0,0,1,1,0,0,1,1,0,0,0,1]),.code (O6 [1,0,1,1,1,1,0,1,0,0,1,1,0,0,1,1,0,0,1]),.blk 2,.code (O6 [1,0,1,1,1,1,0,1,0,0,1,1,0,0,1,1,1]),.blk 1,.code (O6 [1,0,1,1,1,1,0,1,0,0,1,1,1]),.lp (O6 [1,0,1,1,1,1,0,1,0,0]) 29361026,.blk 0,.code (O6 [1,0,1,1,1,1,1]),.sc],[(1,.int .i64 at_),(7,.int .i64 11),(8,.int .u64 u),(9,.int .i64 an0),(10,.int .i64 i),(11,.int .u8 c),(22,.sl false 1 (List.map (d8 .u8) V1)),(23,.int .i64 t23),(24,.int .i64 D6),(36,.bool N4)],[]⟩
 | .s3 at_ u an0 i c V1 t23 D6 N4=>⟨[.code (O6 [1,0,1,1,1,1,0,1,0,0,1,1,0,0,1,1,0,0,1]),.blk 2,.code (O6 [1,0,1,1,1,1,0,1,0,0,1,1,0,0,1,1,1]),.blk 1,.code (O6 [1,0,1,1,1,1,0,1,0,0,1,1,1]),.lp (O6 [1,0,1,1,1,1,0,1,0,0]) 29361026,.blk 0,.code (O6 [1,0,1,1,1,1,1]),.sc],[(1,.int .i64 at_),(7,.int .i64 11),(8,.int .u64 u),(9,.int .i64 an0),(10,.int .i64 i),(11,.int .u8 c),(22,.sl false 1 (List.map (d8 .u8) V1)),(23,.int .i64 t23),(24,.int .i64 D6),(36,.bool N4)],[]⟩
abbrev bf9:=SOk E (Cx.of Tryz.f149 false 0) cS6 cW3
noncomputable def bE4 (b:List Int) (at_:Int):Option (aw5⊕(Int×Int×Int)):=(bif (decide (at_<0)) then (some (.inl (.s1 b at_ true))) else (some (.inl (.s1 b at_ (decide (at_>(((List.map (d8 .u8) b).length:Nat):Int)))))))
noncomputable def bF4 (b:List Int) (at_:Int) (P5:Bool):Option (aw5⊕(Int×Int×Int)):=(bif P5 then (some (.inr (0,0,1))) else (bif ((decide (((0:Nat):Int)≤at_))&&(decide (at_≤(((List.map (d8 .u8) b).length:Nat):Int)))) then (some (.inl (.s2 at_ 0 0 (List.drop at_.toNat (List.take ((List.map (d8 .u8) b).length) b)) (((List.map (d8 .u8) (List.drop at_.toNat (List.take ((List.map (d8 .u8) b).length) b))).length:Nat):Int) 0))) else none))
noncomputable def bh0 (at_ u an0:Int) (V1:List Int) (t23 D6:Int):Option (aw5⊕(Int×Int×Int)):=(bif (decide (D6<t23)) then (bif ((decide ((0:Int)≤D6))&&(decide (D6<(((List.map (d8 .u8) V1).length:Nat):Int)))) then (((V1)[D6.toNat]?).bind fun y3=>(bif (!decide (an0<0)) then (bif (an0==63) then (some (.inl (.s4 at_ (orI .u64 u (D3 .u64 (IntKind.u64.wrap ((m9 .u8 y3 127))) an0)) an0 D6 y3 V1 t23 D6 (decide (y3>1))))) else (some (.inl (.s4 at_ (orI .u64 u (D3 .u64 (IntKind.u64.wrap ((m9 .u8 y3 127))) an0)) an0 D6 y3 V1 t23 D6 false)))) else none)) else none) else (some (.inr (0,0,11))))
noncomputable def aG9 (at_ u:Int) (an0 i c:Int) (V1:List Int) (t23 D6:Int) (N4:Bool):Option (aw5⊕(Int×Int×Int)):=(bif N4 then (some (.inl (.s3 at_ u an0 i c V1 t23 D6 N4))) else (bif (c==0) then (some (.inl (.s3 at_ u an0 i c V1 t23 D6 (decide (i>0))))) else (some (.inl (.s3 at_ u an0 i c V1 t23 D6 false)))))
noncomputable def aU0 (at_ u:Int) (an0 i c:Int) (V1:List Int) (t23 D6:Int) (N4:Bool):Option (aw5⊕(Int×Int×Int)):=(bif N4 then (some (.inr (0,0,12))) else (bif (decide (c<128)) then (some (.inr ((U0 .i64 (IntKind.i64.wrap ((r5 .u64 u 1))) (IntKind.i64.wrap ((0:Int)-(IntKind.i64.wrap ((m9 .u64 u 1)))))),(IntKind.i64.wrap ((IntKind.i64.wrap (at_+i))+1)),0))) else (some (.inl (.s2 at_ u (IntKind.i64.wrap (an0+7)) V1 t23 (IntKind.i64.wrap (D6+1)))))))
noncomputable def H8:aw5→Option (aw5⊕(Int×Int×Int))
 | .s0 b at_=>bE4 b at_
 | .s1 b at_ P5=>bF4 b at_ P5
 | .s2 at_ u an0 V1 t23 D6=>bh0 at_ u an0 V1 t23 D6
 | .s4 at_ u an0 i c V1 t23 D6 N4=>aG9 at_ u an0 i c V1 t23 D6 N4
 | .s3 at_ u an0 i c V1 t23 D6 N4=>aU0 at_ u an0 i c V1 t23 D6 N4
theorem ds1 {b at_}:bf9 (.s0 b at_) (bE4 b at_):=by
 intro r x h ha;unfold bE4 at h
 refine zs 14 h (fun h=> ?_) fun h=> ?_
 ·
  exact zk 9 h ha
 exact zk 9 h ha
theorem dq5 {b at_ P5}:bf9 (.s1 b at_ P5) (bF4 b at_ P5):=by
 intro r x h ha;unfold bF4 at h
 refine zs 1 h (fun h=> ?_) fun h=> ?_
 ·
  exact zt 7 h ha
 refine zn 18 h fun h=> ?_
 refine zw 0 (a:=(List.drop at_.toNat (List.take ((List.map (d8 .u8) b).length) (List.map (d8 .u8) b)))) (b:=(List.map (d8 .u8) (List.drop at_.toNat (List.take ((List.map (d8 .u8) b).length) b)))) (cK2 _ _ _ _) ?_
 exact zj 6 h ha
theorem do6 {at_ u an0 V1 t23 D6}:bf9 (.s2 at_ u an0 V1 t23 D6) (bh0 at_ u an0 V1 t23 D6):=by
 intro r x h ha;unfold bh0 at h
 refine zs 7 h (fun h=> ?_) fun h=> ?_
 ·
  refine zn 7 h fun h=> ?_
  refine zr 1 (d8 .u8) h fun y3 h=> ?_
  refine zn 11 h fun h=> ?_
  refine zs 12 h (fun h=> ?_) fun h=> ?_
  ·
   exact zk 6 h ha
  exact zk 6 h ha
 exact zt 9 h ha
theorem du5 {at_ u an0 i c V1 t23 D6 N4}:bf9 (.s4 at_ u an0 i c V1 t23 D6 N4) (aG9 at_ u an0 i c V1 t23 D6 N4):=by
 intro r x h ha;unfold aG9 at h
 refine zs 1 h (fun h=> ?_) fun h=> ?_
 ·
  exact zk 1 h ha
 refine zs 5 h (fun h=> ?_) fun h=> ?_
 ·
  exact zk 6 h ha
 exact zk 6 h ha
theorem dt5 {at_ u an0 i c V1 t23 D6 N4}:bf9 (.s3 at_ u an0 i c V1 t23 D6 N4) (aU0 at_ u an0 i c V1 t23 D6 N4):=by
 intro r x h ha;unfold aU0 at h
 refine zs 1 h (fun h=> ?_) fun h=> ?_
 ·
  exact zt 13 h ha
 refine zs 7 h (fun h=> ?_) fun h=> ?_
 ·
  exact zt 20 h ha
 exact zj 13 h ha
noncomputable def cg8 (b:List Int) (at_:Int):Option (Int×Int×Int):=T3 H8 (.s0 b at_)
theorem cB8 {b:List Int}{at_:Int}{r:Int×Int×Int} (h:cg8 b at_=some r):i7 E 149 [.sl false 1 (List.map (d8 .u8) b),.int .i64 at_] [] (Rs cS6 r):=sc (fn:=Tryz.f149) (k:=false) (m:=0) (H9:=cW3) h fun s=>by
 cases s with
 | s0=>exact ds1
 | s1=>exact dq5
 | s2=>exact do6
 | s4=>exact du5
 | s3=>exact dt5
noncomputable def K0:=u5 (u6 Tryz.f152)
noncomputable def ah1 (y:List Int):D×i0:=((i5 0 (List.map (d8 .u8) y)),[some ⟨1,false,(List.map (d8 .u8) y)⟩])
inductive Q3 where
 | s0 (n:Int)
 | s1 (t7:Int) (b1:List Int)
 | s2 (t7:Int) (b1 Y:List Int)
noncomputable def bg1:Q3→M
 | .s0 n=>C3 Tryz.f152 [.sl true 0 [],.int .i64 n] []
 | .s1 t7 b1=>⟨[.code (K0 [1,0,1,0]),.blk 0,.code (K0 [1,1])],[(2,.ptr 0 0 0),(7,.fn 163 [] [.iptr 1 [[.int .i64 t7]] 0 0])],[some ⟨1,true,[[(i5 1 (List.map (d8 .u8) b1))]]⟩,some ⟨1,false,(List.map (d8 .u8) b1)⟩]⟩
 | .s2 t7 b1 Y=>⟨[.blk 0,.code (K0 [1,1])],[(2,.ptr 0 0 0),(7,.fn 163 [] [.iptr 1 [[.int .i64 t7]] 0 0])],[some ⟨1,true,[[(i5 1 (List.map (d8 .u8) b1))]]⟩,some ⟨1,false,(List.map (d8 .u8) b1)⟩]⟩
noncomputable def aM3:Q3→(List Int)→Prop
 | .s0 n,r_=>i4 E (Cx.of Tryz.f152 true 0) (QW (Rs ah1 r_)) (.go (bg1 (.s0 n)))
 | .s1 t7 b1,r_=>i4 E (Cx.of Tryz.f152 true 0) (QW (Rs ah1 r_)) (.go (bg1 (.s1 t7 b1)))
 | .s2 t7 b1 Y,r_=>Q8 E (Cx.of Tryz.f152 true 0) (QW (Rs ah1 r_)) 1 (K0 [1,0,1,0]) [.blk 0,.code (K0 [1,1])] [(2,.ptr 0 0 0),(7,.fn 163 [] [.iptr 1 [[.int .i64 t7]] 0 0])] [] [] (List.map E1 Y) [some ⟨1,true,[[(i5 1 (List.map (d8 .u8) b1))]]⟩,some ⟨1,false,(List.map (d8 .u8) b1)⟩]
noncomputable def bD7 (n:Int):Option (Q3⊕(List Int)):=((aM2 n).bind fun y1=>(some (.inl (.s1 y1 ([])))))
noncomputable def bF7 (t7:Int) (b1:List Int):Option (Q3⊕(List Int)):=((au5 t7).bind fun y1=>(some (.inl (.s2 t7 b1 y1))))
noncomputable def br7 (t7:Int) (b1:List Int):Option (Q3⊕(List Int)):=(some (.inr b1))
noncomputable def br8 (t7:Int) (b1:List Int) (y:Int) (Y:List Int):Option (Q3⊕(List Int)):=(bif (decide (((List.map (d8 .u8) b1).length+1)*1≤l6)) then (some (.inl (.s2 t7 (b1++ [y]) Y))) else none)
noncomputable def bG0 (t7:Int) (b1:List Int):List Int→Option (Q3⊕(List Int))
 | []=>br7 t7 b1
 | y::Y=>br8 t7 b1 y Y
noncomputable def am1:Q3→Option (Q3⊕(List Int))
 | .s0 n=>bD7 n
 | .s1 t7 b1=>bF7 t7 b1
 | .s2 t7 b1 Y=>bG0 t7 b1 Y
theorem dq6 {n:Int}{r:List Int}{x:Q3⊕(List Int)} (h:bD7 n=some x) (ha:D2 aM3 r x):i4 E (Cx.of Tryz.f152 true 0) (QW (Rs ah1 r)) (.go (bg1 (.s0 n))):=by
 unfold bD7 at h
 refine zc 10 [] h (fun _=>bV6) fun y1 h=> ?_
 refine n8 hm 2 _ ?_
 obtain rfl:=Option.some.inj h
 refine ay5 388 [.matc 0 0 0 1] (m' :=⟨[.code (K0 [1,0,1,0]),.blk 0,.code (K0 [1,1])],[(2,.ptr 0 0 0),(7,.fn 163 [] [.iptr 1 [[.int .i64 y1]] 0 0])],[some ⟨1,true,[[.msl 1 0 0 0 false]]⟩,some ⟨1,false,[]⟩]⟩) (by kernel_rfl) ?_
 refine ah4 (n1:=0) (n2:=(List.map (d8 .u8) ([])).length) (fun n_len=> .go ⟨[.code (K0 [1,0,1,0]),.blk 0,.code (K0 [1,1])],[(2,.ptr 0 0 0),(7,.fn 163 [] [.iptr 1 [[.int .i64 y1]] 0 0])],[some ⟨1,true,[[.msl 1 0 n_len n_len false]]⟩,some ⟨1,false,[]⟩]⟩) (by simp) ?_
 exact ha
theorem dt1 {t7:Int}{b1 r:List Int}{x:Q3⊕(List Int)} (h:bF7 t7 b1=some x) (ha:D2 aM3 r x):i4 E (Cx.of Tryz.f152 true 0) (QW (Rs ah1 r)) (.go (bg1 (.s1 t7 b1))):=by
 unfold bF7 at h
 refine n8 hm 1 _ ?_
 have ok1:=fun(y:List Int) (hy:au5 t7=some y)=>bL5 hy
 refine du8 (m:=1) (c:=K0 [1,0,1,0]) (t:= [.blk 0,.code (K0 [1,1])]) (fr:= [(2,.ptr 0 0 0),(7,.fn 163 [] [.iptr 1 [[.int .i64 t7]] 0 0])]) (σ:= [some ⟨1,true,[[(i5 1 (List.map (d8 .u8) b1))]]⟩,some ⟨1,false,(List.map (d8 .u8) b1)⟩]) (caps1:= [.iptr 1 [[.int .i64 t7]] 0 0]) (caps:= [.iptr 1 [[.int .i64 t7]] 0 0]) (sub1:= []) (sub:= []) E1 h (by kernel_rfl) ⟨rfl,rfl⟩ (by kernel_rfl) (by kernel_rfl) ok1 (fun y1 h1 h=> ?_)
 obtain rfl:=Option.some.inj h
 exact ha
theorem db0 {t7:Int}{b1 r:List Int}{x:Q3⊕(List Int)} (h:br7 t7 b1=some x) (ha:D2 aM3 r x):Q8 E (Cx.of Tryz.f152 true 0) (QW (Rs ah1 r)) 1 (K0 [1,0,1,0]) [.blk 0,.code (K0 [1,1])] [(2,.ptr 0 0 0),(7,.fn 163 [] [.iptr 1 [[.int .i64 t7]] 0 0])] [] [] ([]) [some ⟨1,true,[[(i5 1 (List.map (d8 .u8) b1))]]⟩,some ⟨1,false,(List.map (d8 .u8) b1)⟩]:=by
 unfold br7 at h
 refine bo0 ?_
 exact ztP 8 h ha
theorem cZ5 {t7:Int}{b1:List Int}{y:Int}{Y r:List Int}{x:Q3⊕(List Int)} (h:br8 t7 b1 y Y=some x) (ha:D2 aM3 r x):Q8 E (Cx.of Tryz.f152 true 0) (QW (Rs ah1 r)) 1 (K0 [1,0,1,0]) [.blk 0,.code (K0 [1,1])] [(2,.ptr 0 0 0),(7,.fn 163 [] [.iptr 1 [[.int .i64 t7]] 0 0])] [] [] (E1 y::List.map E1 Y) [some ⟨1,true,[[(i5 1 (List.map (d8 .u8) b1))]]⟩,some ⟨1,false,(List.map (d8 .u8) b1)⟩]:=by
 unfold br8 at h
 refine bc3 ?_
 refine zn 8 h fun h=> ?_
 refine za 0 (d8 .u8) b1 ([y]) ?_
 refine n8 hm 6 _ ?_
 obtain rfl:=Option.some.inj h
 exact aT6 [] (s1:= [some ⟨1,true,[[.msl 1 0 ((List.map (d8 .u8) (b1++ [y])).length) ((List.map (d8 .u8) (b1++ [y])).length) false]]⟩,some ⟨1,false,(List.map (d8 .u8) (b1++ [y]))⟩]) (s:= [some ⟨1,true,[[.msl 1 0 ((List.map (d8 .u8) (b1++ [y])).length) ((List.map (d8 .u8) (b1++ [y])).length) false]]⟩,some ⟨1,false,(List.map (d8 .u8) (b1++ [y]))⟩]) (by kernel_rfl) (rfl) (by kernel_rfl) ha
theorem dq3 {t7:Int}{b1 Y r:List Int}{x:Q3⊕(List Int)} (h:bG0 t7 b1 Y=some x) (ha:D2 aM3 r x):Q8 E (Cx.of Tryz.f152 true 0) (QW (Rs ah1 r)) 1 (K0 [1,0,1,0]) [.blk 0,.code (K0 [1,1])] [(2,.ptr 0 0 0),(7,.fn 163 [] [.iptr 1 [[.int .i64 t7]] 0 0])] [] [] (List.map E1 Y) [some ⟨1,true,[[(i5 1 (List.map (d8 .u8) b1))]]⟩,some ⟨1,false,(List.map (d8 .u8) b1)⟩]:=by
 cases Y with
 | nil=>exact db0 h ha
 | cons y Y=>exact cZ5 h ha
noncomputable def cL8 (n:Int):Option (List Int):=T3 am1 (.s0 n)
theorem dK3 {n:Int}{r:List Int} (h:Ev am1 (.s0 n) r):i7 E 152 [.sl true 0 [],.int .i64 n] [] (Rs ah1 r):=
 ay0 (m:=bg1 (.s0 n)) (fn:=Tryz.f152) (by kernel_rfl) (by kernel_rfl) (bo5 (Pd:=aM3) (fun s x r hs ha=>by
  cases s with
  | s0=>exact dq6 hs ha
  | s1=>exact dt1 hs ha
  | s2=>exact dq3 hs ha) h)
theorem dI7 {n:Int}{r:List Int} (h:cL8 n=some r):i7 E 152 [.sl true 0 [],.int .i64 n] [] (Rs ah1 r):=dK3 (bu5 h)
noncomputable def J6:=u5 (u6 Tryz.f152)
noncomputable def S2 (y:List Int):D×i0:=((i5 1 (List.map (d8 .u8) y)),[none,some ⟨1,false,(List.map (d8 .u8) y)⟩])
inductive H7 where
 | s0 (n:Int) (b0:List Int)
 | s1 (t7:Int) (b2:List Int)
 | s2 (t7:Int) (b2 Y:List Int)
noncomputable def aK1:H7→M
 | .s0 n b0=>C3 Tryz.f152 [(i5 0 (List.map (d8 .u8) b0)),.int .i64 n] [some ⟨1,false,(List.map (d8 .u8) b0)⟩]
 | .s1 t7 b2=>⟨[.code (J6 [1,0,1,0]),.blk 0,.code (J6 [1,1])],[(2,.ptr 1 0 0),(7,.fn 163 [] [.iptr 1 [[.int .i64 t7]] 0 0])],[none,some ⟨1,true,[[(i5 2 (List.map (d8 .u8) b2))]]⟩,some ⟨1,false,(List.map (d8 .u8) b2)⟩]⟩
 | .s2 t7 b2 Y=>⟨[.blk 0,.code (J6 [1,1])],[(2,.ptr 1 0 0),(7,.fn 163 [] [.iptr 1 [[.int .i64 t7]] 0 0])],[none,some ⟨1,true,[[(i5 2 (List.map (d8 .u8) b2))]]⟩,some ⟨1,false,(List.map (d8 .u8) b2)⟩]⟩
noncomputable def aq5:H7→(List Int)→Prop
 | .s0 n b0,r_=>i4 E (Cx.of Tryz.f152 true 1) (QW (Rs S2 r_)) (.go (aK1 (.s0 n b0)))
 | .s1 t7 b2,r_=>i4 E (Cx.of Tryz.f152 true 1) (QW (Rs S2 r_)) (.go (aK1 (.s1 t7 b2)))
 | .s2 t7 b2 Y,r_=>Q8 E (Cx.of Tryz.f152 true 1) (QW (Rs S2 r_)) 2 (J6 [1,0,1,0]) [.blk 0,.code (J6 [1,1])] [(2,.ptr 1 0 0),(7,.fn 163 [] [.iptr 1 [[.int .i64 t7]] 0 0])] [] [] (List.map E1 Y) [none,some ⟨1,true,[[(i5 2 (List.map (d8 .u8) b2))]]⟩,some ⟨1,false,(List.map (d8 .u8) b2)⟩]
noncomputable def aZ5 (n:Int) (b0:List Int):Option (H7⊕(List Int)):=((aM2 n).bind fun y1=>(some (.inl (.s1 y1 b0))))
noncomputable def ba3 (t7:Int) (b2:List Int):Option (H7⊕(List Int)):=((au5 t7).bind fun y1=>(some (.inl (.s2 t7 b2 y1))))
noncomputable def aV8 (t7:Int) (b2:List Int):Option (H7⊕(List Int)):=(some (.inr b2))
noncomputable def aT5 (t7:Int) (b2:List Int) (y:Int) (Y:List Int):Option (H7⊕(List Int)):=(bif (decide (((List.map (d8 .u8) b2).length+1)*1≤l6)) then (some (.inl (.s2 t7 (b2++ [y]) Y))) else none)
noncomputable def bb1 (t7:Int) (b2:List Int):List Int→Option (H7⊕(List Int))
 | []=>aV8 t7 b2
 | y::Y=>aT5 t7 b2 y Y
noncomputable def Y7:H7→Option (H7⊕(List Int))
 | .s0 n b0=>aZ5 n b0
 | .s1 t7 b2=>ba3 t7 b2
 | .s2 t7 b2 Y=>bb1 t7 b2 Y
theorem cL6 {n:Int}{b0 r:List Int}{x:H7⊕(List Int)} (h:aZ5 n b0=some x) (ha:D2 aq5 r x):i4 E (Cx.of Tryz.f152 true 1) (QW (Rs S2 r)) (.go (aK1 (.s0 n b0))):=by
 unfold aZ5 at h
 refine zc 10 [] h (fun _=>bV6) fun y1 h=> ?_
 exact zkP 2 h ha id [.mv 0]
theorem cJ4 {t7:Int}{b2 r:List Int}{x:H7⊕(List Int)} (h:ba3 t7 b2=some x) (ha:D2 aq5 r x):i4 E (Cx.of Tryz.f152 true 1) (QW (Rs S2 r)) (.go (aK1 (.s1 t7 b2))):=by
 unfold ba3 at h
 refine n8 hm 1 _ ?_
 have ok1:=fun(y:List Int) (hy:au5 t7=some y)=>bL5 hy
 refine du8 (m:=2) (c:=J6 [1,0,1,0]) (t:= [.blk 0,.code (J6 [1,1])]) (fr:= [(2,.ptr 1 0 0),(7,.fn 163 [] [.iptr 1 [[.int .i64 t7]] 0 0])]) (σ:= [none,some ⟨1,true,[[(i5 2 (List.map (d8 .u8) b2))]]⟩,some ⟨1,false,(List.map (d8 .u8) b2)⟩]) (caps1:= [.iptr 1 [[.int .i64 t7]] 0 0]) (caps:= [.iptr 1 [[.int .i64 t7]] 0 0]) (sub1:= []) (sub:= []) E1 h (by kernel_rfl) ⟨rfl,rfl⟩ (by kernel_rfl) (by kernel_rfl) ok1 (fun y1 h1 h=> ?_)
 obtain rfl:=Option.some.inj h
 exact ha
theorem cz4 {t7:Int}{b2 r:List Int}{x:H7⊕(List Int)} (h:aV8 t7 b2=some x) (ha:D2 aq5 r x):Q8 E (Cx.of Tryz.f152 true 1) (QW (Rs S2 r)) 2 (J6 [1,0,1,0]) [.blk 0,.code (J6 [1,1])] [(2,.ptr 1 0 0),(7,.fn 163 [] [.iptr 1 [[.int .i64 t7]] 0 0])] [] [] ([]) [none,some ⟨1,true,[[(i5 2 (List.map (d8 .u8) b2))]]⟩,some ⟨1,false,(List.map (d8 .u8) b2)⟩]:=by
 unfold aV8 at h
 refine bo0 ?_
 exact ztP 8 h ha
theorem cA5 {t7:Int}{b2:List Int}{y:Int}{Y r:List Int}{x:H7⊕(List Int)} (h:aT5 t7 b2 y Y=some x) (ha:D2 aq5 r x):Q8 E (Cx.of Tryz.f152 true 1) (QW (Rs S2 r)) 2 (J6 [1,0,1,0]) [.blk 0,.code (J6 [1,1])] [(2,.ptr 1 0 0),(7,.fn 163 [] [.iptr 1 [[.int .i64 t7]] 0 0])] [] [] (E1 y::List.map E1 Y) [none,some ⟨1,true,[[(i5 2 (List.map (d8 .u8) b2))]]⟩,some ⟨1,false,(List.map (d8 .u8) b2)⟩]:=by
 unfold aT5 at h
 refine bc3 ?_
 refine zn 8 h fun h=> ?_
 refine za 0 (d8 .u8) b2 ([y]) ?_
 refine n8 hm 6 _ ?_
 obtain rfl:=Option.some.inj h
 exact aT6 [] (s1:= [none,some ⟨1,true,[[.msl 2 0 ((List.map (d8 .u8) (b2++ [y])).length) ((List.map (d8 .u8) (b2++ [y])).length) false]]⟩,some ⟨1,false,(List.map (d8 .u8) (b2++ [y]))⟩]) (s:= [none,some ⟨1,true,[[.msl 2 0 ((List.map (d8 .u8) (b2++ [y])).length) ((List.map (d8 .u8) (b2++ [y])).length) false]]⟩,some ⟨1,false,(List.map (d8 .u8) (b2++ [y]))⟩]) (by kernel_rfl) (rfl) (by kernel_rfl) ha
theorem cG2 {t7:Int}{b2 Y r:List Int}{x:H7⊕(List Int)} (h:bb1 t7 b2 Y=some x) (ha:D2 aq5 r x):Q8 E (Cx.of Tryz.f152 true 1) (QW (Rs S2 r)) 2 (J6 [1,0,1,0]) [.blk 0,.code (J6 [1,1])] [(2,.ptr 1 0 0),(7,.fn 163 [] [.iptr 1 [[.int .i64 t7]] 0 0])] [] [] (List.map E1 Y) [none,some ⟨1,true,[[(i5 2 (List.map (d8 .u8) b2))]]⟩,some ⟨1,false,(List.map (d8 .u8) b2)⟩]:=by
 cases Y with
 | nil=>exact cz4 h ha
 | cons y Y=>exact cA5 h ha
noncomputable def br9 (n:Int) (b0:List Int):Option (List Int):=T3 Y7 (.s0 n b0)
theorem de9 {n:Int}{b0 r:List Int} (h:Ev Y7 (.s0 n b0) r):i7 E 152 [(i5 0 (List.map (d8 .u8) b0)),.int .i64 n] [some ⟨1,false,(List.map (d8 .u8) b0)⟩] (Rs S2 r):=
 ay0 (m:=aK1 (.s0 n b0)) (fn:=Tryz.f152) (by kernel_rfl) (by kernel_rfl) (bo5 (Pd:=aq5) (fun s x r hs ha=>by
  cases s with
  | s0=>exact cL6 hs ha
  | s1=>exact cJ4 hs ha
  | s2=>exact cG2 hs ha) h)
theorem dc7 {n:Int}{b0 r:List Int} (h:br9 n b0=some r):i7 E 152 [(i5 0 (List.map (d8 .u8) b0)),.int .i64 n] [some ⟨1,false,(List.map (d8 .u8) b0)⟩] (Rs S2 r):=de9 (bu5 h)
noncomputable def ds6 (y:List Int):D×i0:=((i5 0 (List.map (d8 .u8) y)),[some ⟨1,false,(List.map (d8 .u8) y)⟩])
noncomputable def aM5 (n:Int):Option (List Int):=((cL8 n).bind fun y1=>(some y1))
theorem bZ1 {n:Int}{r:List Int} (h:aM5 n=some r):i7 E 151 [.int .i64 n] [] (Rs ds6 r):=so (fn:=Tryz.f151) (k:=true) (m:=0) h<| by
 intro r h;unfold aM5 at h
 refine zc 8 [none] h (fun _=>dI7) fun y1 h=> ?_
 exact zu 3 h
noncomputable def cq3:=u5 (u6 Tryz.f148)
noncomputable def cu6 (y:Int×Int×Int):D×i0:=(.tup [.int .i64 y.1,.int .i64 y.2.1,.int .i64 y.2.2],[])
abbrev dx8:=AOk E (Cx.of Tryz.f148 false 0) cu6
noncomputable def dr2 (n next:Int) (t23:Bool):M:=⟨[.code (cq3 [1,1,0,0,1,1,1]),.blk 0,.code (cq3 [1,1,1])],[(9,.int .i64 n),(10,.int .i64 next),(23,.bool t23)],[]⟩
noncomputable def R6 (n next:Int) (t23:Bool):Option (Int×Int×Int):=(bif t23 then (some (0,0,2)) else (some (n,next,0)))
theorem bP7 {n next t23}:dx8 (dr2 n next t23) (R6 n next t23):=by
 intro r h;unfold R6 at h
 refine zs 1 h (fun h=> ?_) fun h=> ?_
 ·
  exact zu 7 h
 exact zu 11 h
noncomputable def O2 (b:List Int) (at_ cB6:Int):Option (Int×Int×Int):=((cg8 b at_).bind fun y1=>(bif ((y1.2.2:Int) !=0) then (some (0,0,y1.2.2)) else (bif (decide ((y1.1:Int)<0)) then (R6 y1.1 y1.2.1 (decide ((y1.1:Int)<0))) else (R6 y1.1 y1.2.1 (decide ((y1.1:Int)>cB6))))))
theorem ck3 {b:List Int}{at_ cB6:Int}{r:Int×Int×Int} (h:O2 b at_ cB6=some r):i7 E 148 [.sl false 1 (List.map (d8 .u8) b),.int .i64 at_,.int .i64 cB6] [] (Rs cu6 r):=so (fn:=Tryz.f148) (k:=false) (m:=0) h<| by
 intro r h;unfold O2 at h
 refine zc 11 [] h (fun _=>cB8) fun y1 h=> ?_
 refine zs 17 h (fun h=> ?_) fun h=> ?_
 ·
  exact zu 8 h
 refine zs 8 h (fun h=> ?_) fun h=> ?_
 ·
  exact zg 1 (bP7 h)
 exact zg 6 (bP7 h)
end Go.RX.L

namespace Go.RX
open Go
/-! ### zigzag -/
def zz (n:Int):Nat:=if 0≤n then 2*n.toNat else 2*(-n).toNat-1
def bS2 (u:Nat):Int:=if u%2=0 then ((u/2:Nat):Int) else-((u/2:Nat):Int)-1
theorem ew3 (n:Int):bS2 (zz n)=n:=by
 unfold bS2 zz
 split<;>split<;>omega
theorem ew4 (u:Nat):zz (bS2 u)=u:=by
 unfold bS2 zz
 split<;>split<;>omega
theorem dQ2 {n:Int} (h:u0 .i64 n):zz n<18446744073709551616:=by
 have:=aj2.1 h
 unfold zz
 split<;>omega
theorem ex2 {u:Nat} (h:u<18446744073709551616):u0 .i64 (bS2 u):=by
 refine aj2.2 ?_
 unfold bS2
 split<;>omega
/-! ### a number's bytes -/
def aM8 (u:Nat):List Int:=if h:u<128 then [(u:Int)] else ((u%128+128:Nat):Int)::aM8 (u/128)
termination_by u
decreasing_by omega
theorem bX5 {u:Nat} (h:u<128):aM8 u= [(u:Int)]:=by rw[aM8,dif_pos h]
theorem bU1 {u:Nat} (h:128≤u):aM8 u=((u%128+128:Nat):Int)::aM8 (u/128):=by rw[aM8,dif_neg (by omega)]
theorem dD0:∀(k u:Nat),u<2^(7*k)→0<k→(aM8 u).length≤k
 | 0,_,_,h=>absurd h (by simp)
 | k+1,u,h,_=>by
  by_cases hu:u<128
  ·rw[bX5 hu];simp
  ·rw[bU1 (by omega)]
   have h' :u/128<2^(7*k):=by
    rw[Nat.div_lt_iff_lt_mul (by decide)]
    have:2^(7*(k+1))=2^(7*k)*128:=by rw[Nat.mul_succ,Nat.pow_add]
    omega
   have hk:0<k:=by
    rcases Nat.eq_zero_or_pos k with rfl | hk
    ·simp at h;omega
    ·exact hk
   have:=dD0 k _ h' hk
   simp;omega
theorem ej7 {u:Nat} (h:u<18446744073709551616):(aM8 u).length≤10:=dD0 10 u (by
 have:(2:Nat)^(7*10)=1180591620717411303424:=by decide
 omega) (by decide)
theorem ea7:∀(u:Nat),∀c∈aM8 u,0≤c∧c≤255:=by
 intro u
 induction u using Nat.strongRecOn with
 | ind u ih=>
  intro c hc
  by_cases h:u<128
  ·rw[bX5 h] at hc;simp at hc;omega
  ·rw[bU1 (by omega)] at hc
   rcases List.mem_cons.1 hc with rfl | hc
   ·omega
   ·exact ih _ (by omega) c hc
def vd:Nat→List Int→Int⊕(Nat×Nat)
 | _,[]=> .inl 11
 | i,c::l=>if (i=9∧1<c)∨(c=0∧0<i) then .inl 12 else if c<128 then .inr (c.toNat,1) else
  match vd (i+1) l with
  | .inl e=> .inl e
  | .inr (u,k)=> .inr (c.toNat-128+128*u,k+1)
def vS (c:Nat) (r:Int⊕(Nat×Nat)):Int⊕(Nat×Nat):=match r with
 | .inl e=> .inl e
 | .inr (u,k)=> .inr (c-128+128*u,k+1)
theorem ev3 (i:Nat) (c:Int) (l:List Int):vd i (c::l)=if (i=9∧1<c)∨(c=0∧0<i) then .inl 12 else if c<128 then .inr (c.toNat,1) else vS c.toNat (vd (i+1) l):=by
 simp only[vd]
 split
 ·rfl
 ·split
  ·rfl
  ·unfold vS;cases vd (i+1) l<;>rfl
theorem dA2 {i:Nat} (h:i≤8):2^(64-7*i)=2^(64-7*(i+1))*128:=by
 rw[show 64-7*i=(64-7*(i+1))+7 by omega,Nat.pow_add]
theorem eD8:∀(u i:Nat) (rest:List Int),i≤9→u<2^(64-7*i)→(0<u∨i=0)→vd i (aM8 u++rest)=.inr (u,(aM8 u).length):=by
 intro u
 induction u using Nat.strongRecOn with
 | ind u ih=>
  intro i rest hi hu h0
  by_cases h:u<128
  ·rw[bX5 h]
   simp only[List.cons_append,List.nil_append,vd]
   rw[if_neg,if_pos (by omega)]
   ·simp
   ·rintro (⟨rfl,h1⟩ | ⟨h1,h2⟩)
    ·simp at hu;omega
    ·omega
  ·have hi8:i≤8:=by
    rcases Nat.lt_or_ge i 9 with h | h
    ·omega
    ·have:i=9:=by omega
     subst this
     simp at hu;omega
   rw[bU1 (by omega)]
   simp only[List.cons_append,vd]
   have hu' :u/128<2^(64-7*(i+1)):=by
    rw[Nat.div_lt_iff_lt_mul (by decide),←dA2 hi8];exact hu
   rw[if_neg,if_neg (by omega),ih (u/128) (by omega) (i+1) rest (by omega) hu' (.inl (by omega))]
   ·simp;omega
   ·rintro (⟨rfl,h1⟩ | ⟨h1,h2⟩)<;>omega
theorem dY8:∀(l:List Int) (i u k:Nat),i≤9→(∀c∈l,0≤c∧c≤255)→vd i l=.inr (u,k)→l.take k=aM8 u∧k≤l.length∧k=(aM8 u).length∧u<2^(64-7*i)∧(0<i→0<u)
 | [],_,_,_,_,_,h=>by simp[vd] at h
 | c::l,i,u,k,hi,hb,h=>by
  simp only[vd] at h
  have hc:=hb c (by simp)
  split at h
  ·cases h
  ·rename_i hno
   simp only[not_or,not_and] at hno
   split at h
   ·rename_i hlt
    simp only[Sum.inr.injEq,Prod.mk.injEq] at h
    obtain⟨rfl,rfl⟩:=h
    have hv:aM8 c.toNat= [c]:=by rw[bX5 (by omega),Int.toNat_of_nonneg hc.1]
    refine⟨by rw[hv];simp,by simp,by rw[hv];rfl,?_,fun h=> ?_⟩
    ·rcases Nat.lt_or_ge i 9 with h9 | h9
     ·have:2^8≤2^(64-7*i):=Nat.pow_le_pow_right (by decide) (by omega)
      omega
     ·have:i=9:=by omega
      subst this
      have:=hno.1 rfl
      simp;omega
    ·have:=hno.2;omega
   ·rename_i hge
    split at h
    ·cases h
    ·rename_i u' k' hv
     simp only[Sum.inr.injEq,Prod.mk.injEq] at h
     obtain⟨rfl,rfl⟩:=h
     have hi8:i≤8:=by
      rcases Nat.lt_or_ge i 9 with h9 | h9
      ·omega
      ·have:i=9:=by omega
       have:=hno.1 this
       omega
     obtain⟨h1,h2,h3,h4,h5⟩:=dY8 l (i+1) u' k' (by omega) (fun c hc=>hb c (by simp[hc])) hv
     have h5:=h5 (by omega)
     have e1:(c.toNat-128+128*u')/128=u' :=by omega
     have e2:(c.toNat-128+128*u')%128+128=c.toNat:=by omega
     have hven:aM8 (c.toNat-128+128*u')=c::aM8 u' :=by
      rw[bU1 (by omega),e1,e2,Int.toNat_of_nonneg hc.1]
     refine⟨by rw[hven,List.take_succ_cons,h1],by simp;omega,by rw[hven];simp;omega,?_,fun _=>by omega⟩
     rw[dA2 hi8]
     omega
theorem ee6:∀(l:List Int) (i:Nat) (e:Int),vd i l=.inl e→e=11∨e=12
 | [],_,e,h=>by simp[vd] at h;exact .inl h.symm
 | c::l,i,e,h=>by
  simp only[vd] at h
  split at h
  ·simp at h;exact .inr h.symm
  ·split at h
   ·cases h
   ·split at h
    ·rename_i e' hv
     obtain rfl:=Sum.inl.inj h
     exact ee6 l _ _ hv
    ·cases h
/-! ### numbers -/
def ap1 (n:Int):List Int:=aM8 (zz n)
def pI (l:List Int):Int⊕(Int×Nat):=match vd 0 l with | .inl e=> .inl e | .inr (u,k)=> .inr (bS2 u,k)
abbrev A1 (l:List Int):Prop:=∀c∈l,0≤c∧c≤255
theorem bc5 {n:Int} (h:u0 .i64 n):(ap1 n).length≤10:=ej7 (dQ2 h)
theorem cc9 (n:Int):A1 (ap1 n):=ea7 _
theorem dA5 {n:Int} (h:u0 .i64 n) (rest:List Int):pI (ap1 n++rest)=.inr (n,(ap1 n).length):=by
 unfold pI ap1
 rw[eD8 (zz n) 0 rest (by omega) (by have:=dQ2 h;simpa using this) (.inr rfl)]
 simp[ew3]
theorem co6 {l:List Int}{n:Int}{k:Nat} (hb:A1 l) (h:pI l=.inr (n,k)):l.take k=ap1 n∧k≤l.length∧k=(ap1 n).length∧u0 .i64 n:=by
 unfold pI at h
 split at h
 ·cases h
 ·rename_i u k' hv
  simp only[Sum.inr.injEq,Prod.mk.injEq] at h
  obtain⟨rfl,rfl⟩:=h
  obtain⟨h1,h2,h3,h4,_⟩:=dY8 l 0 u k' (by omega) hb hv
  unfold ap1
  rw[ew4]
  exact⟨h1,h2,h3,ex2 (by simpa using h4)⟩
theorem dZ7 {l:List Int}{e:Int} (h:pI l=.inl e):e=11∨e=12:=by
 unfold pI at h
 split at h
 ·rename_i e' hv
  obtain rfl:=Sum.inl.inj h
  exact ee6 _ _ _ hv
 ·cases h
/-! ### P6 -/
def pN:Nat→List Int→Int⊕(List Int×Nat)
 | 0,_=> .inr ([],0)
 | n+1,l=>match pI l with
  | .inl e=> .inl e
  | .inr (x,k)=>(match pN n (l.drop k) with
   | .inl e=> .inl e
   | .inr (xs,m)=> .inr (x::xs,k+m))
def pL (l:List Int):Int⊕(List Int×Nat):=match pI l with
 | .inl e=> .inl e
 | .inr (n,k)=>if n<0∨n>64 then .inl 2 else (match pN n.toNat (l.drop k) with
  | .inl e=> .inl e
  | .inr (xs,m)=> .inr (xs,k+m))
def pS (x:Int) (k:Nat) (r:Int⊕(List Int×Nat)):Int⊕(List Int×Nat):=match r with
 | .inl e=> .inl e
 | .inr (xs,m)=> .inr (x::xs,k+m)
def pK (k:Nat) (r:Int⊕(List Int×Nat)):Int⊕(List Int×Nat):=match r with
 | .inl e=> .inl e
 | .inr (xs,m)=> .inr (xs,k+m)
theorem eC6 {n:Nat}{l:List Int}{e:Int} (h:pI l=.inl e):pN (n+1) l=.inl e:=by simp only[pN,h]
theorem ez7 {n:Nat}{l:List Int}{x:Int}{k:Nat} (h:pI l=.inr (x,k)):pN (n+1) l=pS x k (pN n (l.drop k)):=by
 simp only[pN,h];unfold pS;cases pN n (l.drop k)<;>rfl
theorem eB6 {l:List Int}{e:Int} (h:pI l=.inl e):pL l=.inl e:=by simp only[pL,h]
theorem eE3 {l:List Int}{n:Int}{k:Nat} (h:pI l=.inr (n,k)) (hn:n<0∨n>64):pL l=.inl 2:=by simp only[pL,h,if_pos hn]
theorem eE4 {l:List Int}{n:Int}{k:Nat} (h:pI l=.inr (n,k)) (hn:¬(n<0∨n>64)):pL l=pK k (pN n.toNat (l.drop k)):=by
 simp only[pL,h,if_neg hn];unfold pK;cases pN n.toNat (l.drop k)<;>rfl
def am5 (xs:List Int):List Int:=xs.flatMap ap1
def encL (xs:List Int):List Int:=ap1 (xs.length:Int)++am5 xs
abbrev aB9 (l:List Int):Prop:=∀x∈l,u0 .i64 x
theorem cw6 {n:Nat} (h:n≤1000000):u0 .i64 (n:Int):=aj2.2 (by omega)
theorem dU7 (xs:List Int):A1 (am5 xs):=fun c hc=>by
 obtain⟨x,_,h⟩:=List.mem_flatMap.1 hc
 exact cc9 x c h
theorem bE0 (xs:List Int):A1 (encL xs):=fun c hc=>(List.mem_append.1 hc).elim (cc9 _ c) (dU7 xs c)
theorem cG9:∀{xs:List Int},aB9 xs→(am5 xs).length≤10*xs.length
 | [],_=>by simp[am5]
 | x::xs,h=>by
  have h1:=bc5 (h x (by simp))
  have h2:=cG9 (xs:=xs) fun y hy=>h y (by simp[hy])
  simp only[am5,List.flatMap_cons,List.length_append,List.length_cons] at h2 ⊢
  omega
theorem az7 {xs:List Int} (h:aB9 xs) (hl:xs.length≤64):(encL xs).length≤650:=by
 have h1:=bc5 (cw6 (n:=xs.length) (by omega))
 have h2:=cG9 h
 simp only[encL,List.length_append]
 omega
theorem dY1:∀(xs rest:List Int),aB9 xs→pN xs.length (am5 xs++rest)=.inr (xs,(am5 xs).length)
 | [],rest,_=>rfl
 | x::xs,rest,h=>by
  have ih:=dY1 xs rest fun y hy=>h y (by simp[hy])
  simp only[am5,List.flatMap_cons,List.length_cons,pN,List.append_assoc] at ih ⊢
  rw[dA5 (h x (by simp))]
  simp only[List.drop_left,ih,List.length_append]
theorem ec3:∀(n:Nat) (l xs:List Int) (k:Nat),A1 l→pN n l=.inr (xs,k)→l.take k=am5 xs∧k≤l.length∧k=(am5 xs).length∧xs.length=n∧aB9 xs
 | 0,l,xs,k,_,h=>by
  simp only[pN,Sum.inr.injEq,Prod.mk.injEq] at h
  obtain⟨rfl,rfl⟩:=h
  exact⟨by simp[am5],by simp,by simp[am5],rfl,fun x hx=>by simp at hx⟩
 | n+1,l,xs,k,hb,h=>by
  simp only[pN] at h
  split at h
  ·cases h
  ·rename_i x k1 hx
   split at h
   ·cases h
   ·rename_i ys m hys
    simp only[Sum.inr.injEq,Prod.mk.injEq] at h
    obtain⟨rfl,rfl⟩:=h
    obtain⟨a1,a2,a3,a4⟩:=co6 hb hx
    obtain⟨b1,b2,b3,b4,b5⟩:=ec3 n _ _ _ (fun c hc=>hb c (List.mem_of_mem_drop hc)) hys
    simp only[List.length_drop] at b2
    refine⟨?_,by omega,?_,by simp[b4],fun y hy=> ?_⟩
    ·simp only[am5,List.flatMap_cons] at b1 ⊢
     rw[←a1,←b1,List.take_add]
    ·simp only[am5,List.flatMap_cons,List.length_append] at b3 ⊢;omega
    ·rcases List.mem_cons.1 hy with rfl | hy
     ·exact a4
     ·exact b5 y hy
theorem cs0 {xs:List Int} (h:aB9 xs) (hl:xs.length≤64) (rest:List Int):pL (encL xs++rest)=.inr (xs,(encL xs).length):=by
 unfold pL encL
 rw[List.append_assoc,dA5 (cw6 (n:=xs.length) (by omega))]
 simp only[]
 rw[if_neg (by omega)]
 simp only[List.drop_left,Int.toNat_natCast,dY1 xs rest h,List.length_append]
theorem bM7 {l xs:List Int}{k:Nat} (hb:A1 l) (h:pL l=.inr (xs,k)):l.take k=encL xs∧k≤l.length∧k=(encL xs).length∧xs.length≤64∧aB9 xs:=by
 unfold pL at h
 split at h
 ·cases h
 ·rename_i n k1 hn
  split at h
  ·cases h
  ·rename_i hno
   split at h
   ·cases h
   ·rename_i ys m hys
    simp only[Sum.inr.injEq,Prod.mk.injEq] at h
    obtain⟨rfl,rfl⟩:=h
    obtain⟨a1,a2,a3,a4⟩:=co6 hb hn
    obtain⟨b1,b2,b3,b4,b5⟩:=ec3 _ _ _ _ (fun c hc=>hb c (List.mem_of_mem_drop hc)) hys
    simp only[List.length_drop] at b2
    have e:n=(ys.length:Int):=by omega
    unfold encL
    rw[←e]
    exact⟨by rw[←a1,←b1,List.take_add],by omega,by rw[List.length_append];omega,by omega,b5⟩
theorem cT0 {n:Nat} (h:n<256):(BitVec.ofInt IntKind.u8.bits (n:Int)).toNat=n:=by
 rw[BitVec.ofInt_natCast,show IntKind.u8.bits=8 from rfl,BitVec.toNat_ofNat,Nat.mod_eq_of_lt (by omega)]
theorem dx9 {n:Nat} (h:n<256):IntKind.u8.wrap (n:Int)=n:=wU8 (by omega) (by omega)
theorem eB4 {c:Nat} (h:c<256):m9 .u8 c 127=((c%128:Nat):Int):=by
 unfold m9
 rw[show(127:Int)=((127:Nat):Int) from rfl,BitVec.toNat_and,cT0 h,cT0 (by omega),show(127:Nat)=2^7-1 from rfl,Nat.and_two_pow_sub_one_eq_mod,dx9 (by omega)]
theorem ez5 {u:Nat} (h:u<18446744073709551616):m9 .u64 u 1=((u%2:Nat):Int):=by
 rw[show(1:Int)=((1:Nat):Int) from rfl,bv6 h (by omega),show(1:Nat)=2^1-1 from rfl,Nat.and_two_pow_sub_one_eq_mod]
theorem eI2 {a:Nat} (h:a<256):orI .u8 a 128=((a%128+128:Nat):Int):=by
 have key:∀a,a<256→a ||| 128=a%128+128:=by decide+kernel
 unfold orI
 rw[show(128:Int)=((128:Nat):Int) from rfl,BitVec.toNat_or,cT0 h,cT0 (by omega),key a h,dx9 (by omega)]
theorem aI1 (u:Nat):IntKind.u8.wrap (u:Int)=((u%256:Nat):Int):=by
 simp only[IntKind.wrap,IntKind.signed,IntKind.bits]
 simp
theorem eJ1 (u:Nat):r5 .u64 u 7=((u/128:Nat):Int):=bN0 (a:=u) (k:=7) (by decide)
theorem eJ7 (u:Nat):r5 .u64 u 1=((u/2:Nat):Int):=bN0 (a:=u) (k:=1) (by decide)
theorem ez8 {u p s:Nat} (hu:u<2^s) (hp:u+p*2^s<18446744073709551616) (hs:s≤64):orI .u64 u (D3 .u64 p s)=((u+p*2^s:Nat):Int):=by
 have h1:D3 .u64 p s=((p*2^s:Nat):Int):=by
  unfold D3
  have e:min (s:Int).toNat IntKind.u64.bits=s:=by simp[IntKind.bits];omega
  rw[e,show((p:Int)*(2:Int)^s)=((p*2^s:Nat):Int) by norm_cast,aM4 (by omega)]
 have hu' :u<18446744073709551616:=by omega
 rw[h1,bQ6 hu' (by omega)]
 congr 1
 rw[Nat.or_comm,Nat.mul_comm,←Nat.two_pow_add_eq_or_of_lt hu,Nat.mul_comm,Nat.add_comm]
theorem bt9 (n:Nat) (h:n<18446744073709551616):IntKind.i64.wrap (n:Int)=if n<9223372036854775808 then (n:Int) else (n:Int)-18446744073709551616:=by
 simp only[IntKind.wrap,IntKind.signed,IntKind.bits]
 simp
 split<;>split<;>omega
theorem ee3 {n:Nat} (h:n<9223372036854775808):(BitVec.ofInt IntKind.i64.bits (n:Int)).toNat=n:=by
 rw[BitVec.ofInt_natCast,show IntKind.i64.bits=64 from rfl,BitVec.toNat_ofNat,Nat.mod_eq_of_lt (by omega)]
theorem ew2 {n:Nat} (h:n<9223372036854775808):U0 .i64 n (-1)= -(n:Int)-1:=by
 unfold U0
 have e:BitVec.ofInt IntKind.i64.bits (-1)=BitVec.allOnes IntKind.i64.bits:=by decide
 rw[e,BitVec.xor_allOnes,BitVec.toNat_not,ee3 h,show IntKind.i64.bits=64 from rfl,bt9 _ (by omega),if_neg (by omega)]
 omega
theorem xor_zero {n:Nat} (h:n<9223372036854775808):U0 .i64 n 0=n:=by
 unfold U0
 have e:BitVec.ofInt IntKind.i64.bits 0=0#_:=by decide
 rw[e,BitVec.xor_zero,ee3 h,bt9 _ (by omega),if_pos h]
theorem ei2 {u:Nat} (h:u<18446744073709551616):U0 .i64 (IntKind.i64.wrap (r5 .u64 u 1)) (IntKind.i64.wrap ((0:Int)-(IntKind.i64.wrap (m9 .u64 u 1))))=bS2 u:=by
 rw[eJ7,ez5 h,v9 (n:=((u/2:Nat):Int)) (by omega) (by omega),v9 (n:=((u%2:Nat):Int)) (by omega) (by omega)]
 unfold bS2
 rcases Nat.mod_two_eq_zero_or_one u with h1 | h1
 ·rw[h1,if_pos rfl]
  simp only[Int.natCast_zero,Int.sub_zero]
  rw[v9 (by omega) (by omega),xor_zero (by omega)]
 ·rw[h1,if_neg (by omega)]
  rw[v9 (by omega) (by omega),show(0:Int)-((1:Nat):Int)= -1 by omega,ew2 (by omega)]
theorem eC5 (n:Int):IntKind.u64.wrap (IntKind.i64.wrap n)=n%18446744073709551616:=by
 simp only[IntKind.wrap,IntKind.signed,IntKind.bits]
 simp
 split<;>omega
theorem ee2 {n:Nat} (h:n<18446744073709551616):U0 .u64 n 0=n:=by
 unfold U0
 have e:BitVec.ofInt IntKind.u64.bits 0=0#_:=by decide
 rw[e,BitVec.xor_zero,bf1 h,aM4 h]
theorem eg2 {n:Nat} (h:n<18446744073709551616):U0 .u64 n 18446744073709551615=((18446744073709551615-n:Nat):Int):=by
 unfold U0
 have e:BitVec.ofInt IntKind.u64.bits 18446744073709551615=BitVec.allOnes IntKind.u64.bits:=by decide
 rw[e,BitVec.xor_allOnes,BitVec.toNat_not,bf1 h,show IntKind.u64.bits=64 from rfl,show 2^64-1-n=18446744073709551615-n by omega,aM4 (by omega)]
theorem eD0 {t:Int} (h:u0 .i64 t):U0 .u64 (IntKind.u64.wrap (D3 .i64 t 1)) (IntKind.u64.wrap (r5 .i64 t 63))=(zz t:Int):=by
 have ht:=aj2.1 h
 have e1:IntKind.u64.wrap (D3 .i64 t 1)=(t*2)%18446744073709551616:=by
  unfold D3
  rw[show min (1:Int).toNat IntKind.i64.bits=1 from rfl,eC5,show(2:Int)^1=2 from rfl]
 have e2:r5 .i64 t 63=if 0≤t then 0 else-1:=by
  unfold r5
  rw[show min (63:Int).toNat IntKind.i64.bits=63 from rfl]
  have e63:(2:Int)^63=9223372036854775808:=rfl
  rw[e63,Int.fdiv_eq_ediv_of_nonneg _ (by omega)]
  split<;>omega
 rw[e1,e2]
 unfold zz
 split
 ·rename_i h0
  obtain⟨n,rfl⟩:=Int.eq_ofNat_of_zero_le h0
  rw[show IntKind.u64.wrap 0=0 from rfl,show((n:Int)*2)%18446744073709551616=((2*n:Nat):Int) by omega,ee2 (by omega)]
  simp
 ·rename_i h0
  obtain⟨n,hn⟩:=Int.eq_ofNat_of_zero_le (show 0≤ -t by omega)
  have:t= -(n:Int):=by omega
  subst this
  rw[show IntKind.u64.wrap (-1)=18446744073709551615 from rfl,show(-(n:Int)*2)%18446744073709551616=((18446744073709551616-2*n:Nat):Int) by omega,eg2 (by omega)]
  congr 1
  simp
  omega
end Go.RX

namespace Go.RX.L
open Go Go.RX Go.Proofs
attribute [local irreducible] i4
noncomputable def bX0:=u5 (u6 Tryz.f121)
noncomputable def bW9 (y:Int×(List Int)):D×i0:=(.tup [(i5 0 (List.map (d8 .u8) y.2)),.int .i64 y.1],[some ⟨1,false,(List.map (d8 .u8) y.2)⟩])
inductive aF3 where
 | s0 (l_:List Int)
 | s1 (P0:List Int) (t14 t15:Int) (b:List Int)
noncomputable def bU8:aF3→M
 | .s0 l_=>C3 Tryz.f121 [.sl false 1 (List.map (d8 .i64) l_)] []
 | .s1 P0 t14 t15 b=>⟨[.lpc (bX0 [1,1,1,0,1,0,0]) 57360,.blk 0,.code (bX0 [1,1,1,1])],[(4,(i5 0 (List.map (d8 .u8) b))),(13,.sl false 1 (List.map (d8 .i64) P0)),(14,.int .i64 t14),(15,.int .i64 t15)],[some ⟨1,false,(List.map (d8 .u8) b)⟩]⟩
abbrev bU9:=SOk E (Cx.of Tryz.f121 true 0) bW9 bU8
noncomputable def aV9 (l_:List Int):Option (aF3⊕(Int×(List Int))):=(bif (decide (((((List.map (d8 .i64) l_).length:Nat):Int):Int)>64)) then (some (.inr (2,[]))) else ((aM5 (((List.map (d8 .i64) l_).length:Nat):Int)).bind fun y2=>(some (.inl (.s1 l_ (((List.map (d8 .i64) l_).length:Nat):Int) 0 y2)))))
noncomputable def aC3 (P0:List Int) (t14 t15:Int) (b:List Int):Option (aF3⊕(Int×(List Int))):=(bif (decide (t15<t14)) then (bif ((decide ((0:Int)≤t15))&&(decide (t15<(((List.map (d8 .i64) P0).length:Nat):Int)))) then (((P0)[t15.toNat]?).bind fun y3=>((br9 y3 b).bind fun y5=>(some (.inl (.s1 P0 t14 (IntKind.i64.wrap (t15+1)) y5))))) else none) else (some (.inr (0,b))))
noncomputable def an8:aF3→Option (aF3⊕(Int×(List Int)))
 | .s0 l_=>aV9 l_
 | .s1 P0 t14 t15 b=>aC3 P0 t14 t15 b
theorem cy6 {l_}:bU9 (.s0 l_) (aV9 l_):=by
 intro r x h ha;unfold aV9 at h
 refine zs 13 h (fun h=> ?_) fun h=> ?_
 ·
  exact zt 6 h ha [.matt 0 0 1]
 refine zc 6 [] h (fun _=>bZ1) fun y2 h=> ?_
 exact zj 12 h ha
theorem cz9 {P0 t14 t15 b}:bU9 (.s1 P0 t14 t15 b) (aC3 P0 t14 t15 b):=by
 intro r x h ha;unfold aC3 at h
 refine zs 7 h (fun h=> ?_) fun h=> ?_
 ·
  refine zn 6 h fun h=> ?_
  refine zr 1 (d8 .i64) h fun y3 h=> ?_
  refine zc 6 [] h (fun _=>dc7) fun y5 h=> ?_
  exact zj 8 h ha
 exact zt 8 h ha
noncomputable def aS7 (l_:List Int):Option (Int×(List Int)):=T3 an8 (.s0 l_)
theorem bj8 {l_:List Int}{r:Int×(List Int)} (h:aS7 l_=some r):i7 E 121 [.sl false 1 (List.map (d8 .i64) l_)] [] (Rs bW9 r):=sc (fn:=Tryz.f121) (k:=true) (m:=0) (H9:=bU8) h fun s=>by
 cases s with
 | s0=>exact cy6
 | s1=>exact cz9
noncomputable def ay7:=u5 (u6 Tryz.f118)
noncomputable def cB4 (y:(List Int)×Int×Int):D×i0:=(.tup [.sl false 1 (List.map (d8 .i64) y.1),.int .i64 y.2.1,.int .i64 y.2.2],[])
inductive aM1 where
 | s0 (b:List Int) (at_:Int)
 | s1 (b:List Int) (next e:Int) (P5 t20:Int) (i6:List Int)
 | s2 (next e:Int) (i6:List Int)
noncomputable def cC8:aM1→M
 | .s0 b at_=>C3 Tryz.f118 [.sl false 1 (List.map (d8 .u8) b),.int .i64 at_] []
 | .s1 b next e P5 t20 i6=>⟨[.lpc (ay7 [1,1,1,0,1,0,0]) 1574657,.blk 0,.code (ay7 [1,1,1,1])],[(0,.sl false 1 (List.map (d8 .u8) b)),(8,.int .i64 next),(9,.int .i64 e),(10,(i5 0 (List.map (d8 .i64) i6))),(19,.int .i64 P5),(20,.int .i64 t20)],[some ⟨1,false,(List.map (d8 .i64) i6)⟩]⟩
 | .s2 next e i6=>⟨[.code (ay7 [1,1,1,1])],[(8,.int .i64 next),(9,.int .i64 e),(10,(i5 0 (List.map (d8 .i64) i6)))],[some ⟨1,false,(List.map (d8 .i64) i6)⟩]⟩
abbrev bS6:=SOk E (Cx.of Tryz.f118 false 0) cB4 cC8
noncomputable def bt1 (b:List Int) (at_:Int):Option (aM1⊕((List Int)×Int×Int)):=((O2 b at_ 64).bind fun y1=>(some (.inl (.s1 b y1.2.1 y1.2.2 y1.1 0 ([])))))
noncomputable def az1 (b:List Int) (next e:Int) (P5 t20:Int) (i6:List Int):Option (aM1⊕((List Int)×Int×Int)):=(bif (decide (t20<P5)) then ((cg8 b next).bind fun y2=>(bif ((y2.2.2:Int) !=0) then (some (.inl (.s2 y2.2.1 y2.2.2 i6))) else (bif (decide (((List.map (d8 .i64) i6).length+1)*8≤l6)) then (some (.inl (.s1 b y2.2.1 y2.2.2 P5 (IntKind.i64.wrap (t20+1)) (i6++ [y2.1])))) else none))) else (some (.inl (.s2 next e i6))))
noncomputable def aL5 (next e:Int) (i6:List Int):Option (aM1⊕((List Int)×Int×Int)):=(bif (e !=0) then (some (.inr ([],0,e))) else (some (.inr (i6,next,0))))
noncomputable def M1:aM1→Option (aM1⊕((List Int)×Int×Int))
 | .s0 b at_=>bt1 b at_
 | .s1 b next e P5 t20 i6=>az1 b next e P5 t20 i6
 | .s2 next e i6=>aL5 next e i6
theorem cX5 {b at_}:bS6 (.s0 b at_) (bt1 b at_):=by
 intro r x h ha;unfold bt1 at h
 refine zc 11 [] h (fun _=>ck3) fun y1 h=> ?_
 refine n8 hm 21 _ ?_
 obtain rfl:=Option.some.inj h
 refine ay5 1574657 [.mat 10 1] (m' :=⟨[.lpc (ay7 [1,1,1,0,1,0,0]) 1574657,.blk 0,.code (ay7 [1,1,1,1])],[(0,.sl false 1 (List.map (d8 .u8) b)),(8,.int .i64 y1.2.1),(9,.int .i64 y1.2.2),(10,.msl 0 0 0 0 false),(19,.int .i64 y1.1),(20,.int .i64 0)],[some ⟨1,false,[]⟩]⟩) (by kernel_rfl) ?_
 refine ah4 (n1:=0) (n2:=(List.map (d8 .i64) ([])).length) (fun n_len=> .go ⟨[.lpc (ay7 [1,1,1,0,1,0,0]) 1574657,.blk 0,.code (ay7 [1,1,1,1])],[(0,.sl false 1 (List.map (d8 .u8) b)),(8,.int .i64 y1.2.1),(9,.int .i64 y1.2.2),(10,.msl 0 0 n_len n_len false),(19,.int .i64 y1.1),(20,.int .i64 0)],[some ⟨1,false,[]⟩]⟩) (by simp) ?_
 exact ha
theorem dg9 {b next e P5 t20 i6}:bS6 (.s1 b next e P5 t20 i6) (az1 b next e P5 t20 i6):=by
 intro r x h ha;unfold az1 at h
 refine zs 7 h (fun h=> ?_) fun h=> ?_
 ·
  refine zc 13 [] h (fun _=>cB8) fun y2 h=> ?_
  refine zs 14 h (fun h=> ?_) fun h=> ?_
  ·
   exact zk 1 h ha
  refine zn 7 h fun h=> ?_
  refine za 0 (d8 .i64) i6 ([y2.1]) ?_
  exact zj 8 h ha
 exact zk 1 h ha
theorem de8 {next e i6}:bS6 (.s2 next e i6) (aL5 next e i6):=by
 intro r x h ha;unfold aL5 at h
 refine zs 7 h (fun h=> ?_) fun h=> ?_
 ·
  exact zt 8 h ha [.slot 0 [some 1]]
 refine zm 10 (b:=(Nat.ble (0+(List.map (d8 .i64) i6).length) ((List.map (d8 .i64) i6).length))) (A7 _) ?_
 obtain rfl:=Option.some.inj h
 have hv:=ha
 simp only[aZ6] at hv
 subst hv
 exact as6 [] (d1:=.tup [.sl false 1 (List.take ((List.map (d8 .i64) i6).length) (List.drop 0 (List.map (d8 .i64) i6))),.int .i64 next,.int .i64 0]) (d:=.tup [.sl false 1 (List.map (d8 .i64) i6),.int .i64 next,.int .i64 0]) (s1:= []) (s:= []) (by kernel_rfl) ⟨by simp[d9.enc,d9.l,l7.enc,l7.l,u4.enc,u4.l,v6.enc,v6.l,f5.enc,f5.l,Op.enc,Op.l,Plan.enc,Plan.l,E6.enc,E6.l,i8.enc,i8.l,u9.enc,u9.l,p6.enc,p6.l,f3.enc,f3.l,List.take_of_length_le,List.map_take,List.map_drop],rfl⟩ ⟨rfl,rfl⟩ Cx.fin_of
noncomputable def be9 (b:List Int) (at_:Int):Option ((List Int)×Int×Int):=T3 M1 (.s0 b at_)
theorem ct6 {b:List Int}{at_:Int}{r:(List Int)×Int×Int} (h:be9 b at_=some r):i7 E 118 [.sl false 1 (List.map (d8 .u8) b),.int .i64 at_] [] (Rs cB4 r):=sc (fn:=Tryz.f118) (k:=false) (m:=0) (H9:=cC8) h fun s=>by
 cases s with
 | s0=>exact cX5
 | s1=>exact dg9
 | s2=>exact de8
abbrev K3:Nat:=140737488351232
/-! ### the program's writer -/
theorem eb3:∀(u:Nat),u<18446744073709551616→EvL ai0 (.s1 u) (aM8 u):=by
 intro u
 induction u using Nat.strongRecOn with
 | ind u ih=>
  intro hu
  by_cases h:u<128
  ·rw[bX5 h]
   refine .done ?_
   have h1:decide ((u:Int)>127)=false:=by simp;omega
   simp[ai0,aw8,h1,dx9 (show u<256 by omega)]
  ·rw[bU1 (by omega)]
   have h1:decide ((u:Int)>127)=true:=by simp;omega
   refine EvL.next (l:= [((u%128+128:Nat):Int)]) (s' :=.s1 ((u/128:Nat):Int)) ?_ (ih (u/128) (by omega) (by omega))
   simp only[ai0,aw8,h1,cond_true,eJ1,aI1,eI2 (show u%256<256 by omega)]
   simp
theorem dl6 {n:Int} (h:u0 .i64 n):au5 n=some (ap1 n):=by
 refine bX3 ?_
 have:=eb3 (zz n) (dQ2 h)
 rw[←eD0 h] at this
 exact EvL.next (l:= []) rfl this
theorem dA3 {t:Int}:∀(Y b:List Int),b.length+Y.length≤K3→Ev am1 (.s2 t b Y) (b++Y)
 | [],b,_=> .done (by simp[am1,bG0,br7])
 | y::Y,b,h=>by
  simp only[List.length_cons,K3] at h
  have hl:decide (((List.map (d8 .u8) b).length+1)*1≤l6)=true:=E0 (by simp;omega)
  have ih:=dA3 (t:=t) Y (b++ [y]) (by simp only[List.length_append,List.length_cons,List.length_nil,K3];omega)
  rw[List.append_assoc] at ih
  exact .next (s' :=.s2 t (b++ [y]) Y) (by simp only[am1,bG0,br8,hl,cond_true]) ih
theorem er3 {n:Int} (h:u0 .i64 n):cL8 n=some (ap1 n):=by
 have hl:=bc5 h
 refine z7 (.next (s' :=.s1 n []) (by simp[am1,bD7,aM2]) (.next (s' :=.s2 n [] (ap1 n)) (by simp[am1,bF7,dl6 h]) ?_))
 exact dA3 (ap1 n) [] (by simp[K3];omega)
theorem dk2 {n:Int} (h:u0 .i64 n):aM5 n=some (ap1 n):=by simp[aM5,er3 h]
theorem dl9 {t:Int}:∀(Y b:List Int),b.length+Y.length≤K3→Ev Y7 (.s2 t b Y) (b++Y)
 | [],b,_=> .done (by simp[Y7,bb1,aV8])
 | y::Y,b,h=>by
  simp only[List.length_cons,K3] at h
  have hl:decide (((List.map (d8 .u8) b).length+1)*1≤l6)=true:=E0 (by simp;omega)
  have ih:=dl9 (t:=t) Y (b++ [y]) (by simp only[List.length_append,List.length_cons,List.length_nil,K3];omega)
  rw[List.append_assoc] at ih
  exact .next (s' :=.s2 t (b++ [y]) Y) (by simp only[Y7,bb1,aT5,hl,cond_true]) ih
theorem cZ0 {n:Int} (h:u0 .i64 n) {b:List Int} (hb:b.length≤1000000):br9 n b=some (b++ap1 n):=by
 have hl:=bc5 h
 refine z7 (.next (s' :=.s1 n b) (by simp[Y7,aZ5,aM2]) (.next (s' :=.s2 n b (ap1 n)) (by simp[Y7,ba3,dl6 h]) ?_))
 exact dl9 (ap1 n) b (by simp[K3];omega)
theorem dY3 (xs:List Int) (x:Int):am5 (xs++ [x])=am5 xs++ap1 x:=by simp[am5]
theorem cp3 {l:List Int}{k:Nat} (h:k<l.length):l.take (k+1)=l.take k++ [l[k]]:=by rw[List.take_add_one,List.getE h];rfl
theorem dG9 {l:List Int} (hl:aB9 l) (h64:l.length≤64) (p:List Int) (hp:p.length≤10):∀(j k:Nat),k+j=l.length→Ev an8 (.s1 l l.length k (p++am5 (l.take k))) (0,p++am5 l):=by
 intro j
 induction j with
 | zero=>
  intro k hk
  refine .done ?_
  rw[List.take_of_length_le (by omega)]
  simp[an8,aC3,show ¬((k:Int)<l.length) by omega]
 | succ j ih=>
  intro k hk
  have hlt:k<l.length:=by omega
  have hx:=hl l[k] (List.getElem_mem hlt)
  have hs:=cG9 (xs:=l.take k) fun y hy=>hl y (List.mem_of_mem_take hy)
  rw[List.length_take] at hs
  refine .next (s' :=.s1 l l.length ((k+1:Nat):Int) (p++am5 (l.take (k+1)))) ?_ (ih (k+1) (by omega))
  have e:cZ0 hx (b:=p++am5 (l.take k)) (by simp;omega)=cZ0 hx (b:=p++am5 (l.take k)) (by simp;omega):=rfl
  have e2:br9 l[k] (p++am5 (l.take k))=some (p++am5 (l.take (k+1))):=by
   rw[cZ0 hx (by simp only[List.length_append];omega),cp3 hlt,dY3,List.append_assoc]
  simp only[an8,aC3,List.length_map,G4 hlt,ixB hlt,O9,Bool.and_self,cond_true,Int.toNat_natCast,List.getE hlt,Option.bind_some,e2,wS (show k<9223372036854775807 by omega)]
theorem bl4 {l:List Int} (hl:aB9 l) (h64:l.length≤64):aS7 l=some (0,encL l):=by
 have hn:=cw6 (n:=l.length) (by omega)
 refine z7 (.next (s' :=.s1 l l.length 0 (ap1 l.length)) ?_ ?_)
 ·have h1:decide ((l.length:Int)>64)=false:=by simp;omega
  simp only[an8,aV9,List.length_map,h1,cond_false,dk2 hn,Option.bind_some]
 ·have:=dG9 hl h64 (ap1 l.length) (bc5 hn) l.length 0 (by omega)
  simpa[am5,encL] using this
/-! ### the document's writer -/
/-! ### the program's reader -/
def rI (at_:Nat) (x:Int⊕(Int×Nat)):Int×Int×Int:=match x with
 | .inl e=>(0,0,e)
 | .inr (n,k)=>(n,((at_+k:Nat):Int),0)
def rV (at_ i:Nat) (u:Nat) (x:Int⊕(Nat×Nat)):Int×Int×Int:=match x with
 | .inl e=>(0,0,e)
 | .inr (v,k)=>(bS2 (u+v*2^(7*i)),((at_+i+k:Nat):Int),0)
theorem eE6 (i:Nat):2^(7*(i+1))=2^(7*i)*128:=by rw[Nat.mul_succ,Nat.pow_add]
theorem ei4 {i:Nat} (h:i≤8):2^(7*i)≤72057594037927936:=by
 have:2^(7*i)≤2^(7*8):=Nat.pow_le_pow_right (by decide) (by omega)
 simpa using this
theorem ey4 (at_ i u c:Nat) (r:Int⊕(Nat×Nat)) (h1:128≤c) (h2:c<256):rV at_ (i+1) (u+c%128*2^(7*i)) r=rV at_ i u (vS c r):=by
 cases r with
 | inl e=>rfl
 | inr p=>
  obtain⟨v,k⟩:=p
  have e:c-128=c%128:=by omega
  simp only[rV,vS,e]
  have key:∀X:Nat,u+c%128*X+v*(X*128)=u+(c%128+128*v)*X:=fun X=>by
   have h3:v*(X*128)=128*v*X:=by rw[Nat.mul_comm X 128,←Nat.mul_assoc,Nat.mul_comm v 128]
   rw[Nat.add_mul];omega
  rw[eE6,key]
  refine Prod.ext rfl (Prod.ext ?_ rfl)
  show((at_+(i+1)+k:Nat):Int)=((at_+i+(k+1):Nat):Int)
  omega
theorem ez6 {u i c:Nat} (hu:u<2^(7*i)) (hi:i≤9) (hc:c<256) (h9:i=9→c≤1):orI .u64 u (D3 .u64 (IntKind.u64.wrap (m9 .u8 c 127)) ((7*i:Nat):Int))=((u+c%128*2^(7*i):Nat):Int)∧u+c%128*2^(7*i)<18446744073709551616∧(i≤8→u+c%128*2^(7*i)<2^(7*(i+1))):=by
 have hb:u+c%128*2^(7*i)<18446744073709551616:=by
  rcases Nat.lt_or_ge i 9 with h | h
  ·have:=ei4 (show i≤8 by omega)
   have:c%128*2^(7*i)≤127*2^(7*i):=Nat.mul_le_mul_right _ (by omega)
   omega
  ·have e:i=9:=by omega
   subst e
   have:=h9 rfl
   have h2:c%128≤1:=by omega
   have h3:c%128*2^(7*9)≤1*2^(7*9):=Nat.mul_le_mul_right _ h2
   simp at hu h3 ⊢
   omega
 refine⟨?_,hb,fun _=> ?_⟩
 ·rw[eB4 hc,aM4 (by omega)]
  exact ez8 hu hb (by omega)
 ·rw[eE6]
  have:c%128*2^(7*i)≤127*2^(7*i):=Nat.mul_le_mul_right _ (by omega)
  omega
theorem eg9 {L:List Int} (hb:A1 L) (at_:Nat) (hm:at_+L.length≤K3):∀(j i u:Nat),i+j=L.length→i≤9→u<2^(7*i)→Ev H8 (.s2 at_ u ((7*i:Nat):Int) L L.length i) (rV at_ i u (vd i (L.drop i))):=by
 intro j
 induction j with
 | zero=>
  intro i u hi h9 hu
  rw[List.drop_eq_nil_of_le (by omega)]
  refine .done ?_
  simp[H8,bh0,vd,rV,show ¬((i:Int)<L.length) by omega]
 | succ j ih=>
  intro i u hi h9 hu
  have hlt:i<L.length:=by omega
  have hcb:=hb L[i] (List.getElem_mem hlt)
  obtain⟨c,hc⟩:=Int.eq_ofNat_of_zero_le hcb.1
  rw[List.drop_eq_getElem_cons hlt,ev3]
  simp only[K3] at hm
  have e1:decide ((0:Int)≤i)=true:=by simp
  --the first step
  have s1:∀U,U=orI .u64 u (D3 .u64 (IntKind.u64.wrap (m9 .u8 L[i] 127)) ((7*i:Nat):Int))→H8 (.s2 at_ u ((7*i:Nat):Int) L L.length i)=some (.inl (.s4 at_ U ((7*i:Nat):Int) i L[i] L L.length i (decide (i=9∧1<L[i])))):=fun U hU=>by
   simp only[H8,bh0,List.length_map,G4 hlt,ixB hlt,O9,Bool.and_self,cond_true,Int.toNat_natCast,List.getE hlt,Option.bind_some,nn0,←hU]
   by_cases h:i=9
   ·subst h
    simp
   ·have:(((7*i:Nat):Int)==63)=false:=by simp;omega
    rw[this]
    simp[h]
  by_cases hlong:(i=9∧1<L[i])∨(L[i]=0∧0<i)
  ·rw[if_pos hlong]
   obtain⟨U,hU⟩:∃U,U=orI .u64 u (D3 .u64 (IntKind.u64.wrap (m9 .u8 L[i] 127)) ((7*i:Nat):Int)):=⟨_,rfl⟩
   refine .next (s1 U hU) (.next (s' :=.s3 at_ U ((7*i:Nat):Int) i L[i] L L.length i true) ?_ (.done (by simp[H8,aU0,rV])))
   by_cases h9:i=9∧1<L[i]
   ·simp only[H8,aG9,decide_eq_true h9,cond_true]
   ·have h0:=hlong.resolve_left h9
    simp only[H8,aG9,decide_eq_false h9,cond_false,h0.1]
    simp
    omega
  ·rw[if_neg hlong]
   have hn9:¬(i=9∧1<L[i]):=fun h=>hlong (.inl h)
   have hn0:¬(L[i]=0∧0<i):=fun h=>hlong (.inr h)
   have hc256:c<256:=by omega
   obtain⟨a1,a2,a3⟩:=ez6 hu h9 hc256 (fun h=>by omega)
   rw[←hc] at a1
   refine .next (s1 _ a1.symm) (.next (s' :=.s3 at_ ((u+c%128*2^(7*i):Nat):Int) ((7*i:Nat):Int) i L[i] L L.length i false) ?_ ?_)
   ·have:decide (i=9∧1<L[i])=false:=by simpa using fun h=>by omega
    rw[this]
    by_cases h0:L[i]=0
    ·have:¬0<i:=fun h=>hn0 ⟨h0,h⟩
     simp[H8,aG9,h0]
     omega
    ·simp[H8,aG9,h0,beq_eq_false_iff_ne.2 h0]
   ·by_cases hlt128:L[i]<128
    ·rw[if_pos hlt128]
     refine .done ?_
     have hmod:c%128=c:=by omega
     simp only[H8,aU0,cond_false,decide_eq_true hlt128,cond_true,ei2 a2,rV]
     rw[v9 (n:=(at_:Int)+i) (by omega) (by omega),v9 (by omega) (by omega),hmod,hc]
     simp
    ·rw[if_neg hlt128]
     have hi8:i≤8:=by
      rcases Nat.lt_or_ge i 9 with h | h
      ·omega
      ·exact absurd ⟨show i=9 by omega,by omega⟩ hn9
     have:=ih (i+1) (u+c%128*2^(7*i)) (by omega) (by omega) (a3 hi8)
     have hres:=ey4 at_ i u c (vd (i+1) (L.drop (i+1))) (by omega) (by omega)
     rw[show L[i].toNat=c by omega]
     rw[←hres]
     refine .next (s' :=.s2 at_ ((u+c%128*2^(7*i):Nat):Int) ((7*(i+1):Nat):Int) L L.length ((i+1:Nat):Int)) ?_ this
     have e7:IntKind.i64.wrap (((7*i:Nat):Int)+7)=((7*(i+1):Nat):Int):=by rw[v9 (by omega) (by omega)];omega
     simp only[H8,aU0,cond_false,decide_eq_false hlt128,e7,wS (show i<9223372036854775807 by omega)]
theorem eF3 (at_:Nat) (L:List Int):rV at_ 0 0 (vd 0 L)=rI at_ (pI L):=by
 unfold pI rI rV
 cases vd 0 L with
 | inl e=>rfl
 | inr p=>obtain⟨v,k⟩:=p;simp
theorem bV9 {b:List Int} (hb:A1 b) (hm:b.length≤K3) {at_:Nat} (h:at_≤b.length):cg8 b at_=some (rI at_ (pI (b.drop at_))):=by
 refine z7 (.next (s' :=.s1 b at_ false) ?_ (.next (s' :=.s2 at_ 0 0 (b.drop at_) (b.drop at_).length 0) ?_ ?_))
 ·have h1:decide ((at_:Int)<0)=false:=by simp
  have h2:decide ((at_:Int)>b.length)=false:=by simp;omega
  simp[H8,bE4,h1,h2]
  exact h
 ·have h1:(decide (((0:Nat):Int)≤at_)&&decide ((at_:Int)≤((b.length:Nat):Int)))=true:=by simp;omega
  simp only[H8,bF4,cond_false,List.length_map,h1,cond_true,Int.toNat_natCast,List.take_length]
 ·have:=eg9 (L:=b.drop at_) (fun c hc=>hb c (List.mem_of_mem_drop hc)) at_ (by simp only[List.length_drop];omega) (b.drop at_).length 0 0 (by omega) (by omega) (by simp)
  rw[List.drop_zero,eF3] at this
  exact this
/-! ### the document's reader -/
/-! ### P6, read -/
def rL (at_:Nat) (x:Int⊕(List Int×Nat)):List Int×Int×Int:=match x with
 | .inl e=>([],0,e)
 | .inr (xs,k)=>(xs,((at_+k:Nat):Int),0)
def rN (i6:List Int) (at_:Nat) (x:Int⊕(List Int×Nat)):List Int×Int×Int:=match x with
 | .inl e=>([],0,e)
 | .inr (xs,k)=>(i6++xs,((at_+k:Nat):Int),0)
theorem er0 {l:List Int}{n:Int}{k:Nat} (hb:A1 l) (h:pI l=.inr (n,k)):k≤l.length:=(co6 hb h).2.1
theorem bK5 {l:List Int}{e:Int} (h:pI l=.inl e):(e !=0)=true:=by rcases dZ7 h with rfl | rfl<;>rfl
theorem ex0 (i6:List Int) (x:Int) (b:List Int) (j at_ k:Nat):rN (i6++ [x]) (at_+k) (pN j (b.drop (at_+k)))=rN i6 at_ (pS x k (pN j ((b.drop at_).drop k))):=by
 rw[List.drop_drop]
 cases pN j (b.drop (at_+k)) with
 | inl e=>rfl
 | inr p=>obtain⟨xs,m⟩:=p;simp[rN,pS,Nat.add_assoc]
theorem er2 (b:List Int) (t at_ k:Nat):rN [] (at_+k) (pN t (b.drop (at_+k)))=rL at_ (pK k (pN t ((b.drop at_).drop k))):=by
 rw[List.drop_drop]
 cases pN t (b.drop (at_+k)) with
 | inl e=>rfl
 | inr p=>obtain⟨xs,m⟩:=p;simp[rN,rL,pK,Nat.add_assoc]
theorem dW8 {b:List Int} (hb:A1 b) (hm:b.length≤K3) (t:Nat) (ht:t≤64):∀(j i at_:Nat) (i6:List Int),i+j=t→at_≤b.length→i6.length=i→Ev M1 (.s1 b at_ 0 t i i6) (rN i6 at_ (pN j (b.drop at_))):=by
 intro j
 induction j with
 | zero=>
  intro i at_ i6 hi hat ho
  refine .next (s' :=.s2 at_ 0 i6) ?_ (.done (by simp[M1,aL5,pN,rN]))
  simp[M1,az1,show ¬((i:Int)<t) by omega]
 | succ j ih=>
  intro i at_ i6 hi hat ho
  have hlt:i<t:=by omega
  cases hp:pI (b.drop at_) with
  | inl e=>
   rw[eC6 hp]
   refine .next (s' :=.s2 0 e i6) ?_ (.done ?_)
   ·simp only[M1,az1,G4 hlt,cond_true,bV9 hb hm hat,hp,rI,Option.bind_some,bK5 hp]
   ·simp only[M1,aL5,bK5 hp,cond_true,rN]
  | inr p=>
   obtain⟨x,k⟩:=p
   have hk:=er0 (fun c hc=>hb c (List.mem_of_mem_drop hc)) hp
   rw[List.length_drop] at hk
   have:=ih (i+1) (at_+k) (i6++ [x]) (by omega) (by omega) (by simp[ho])
   rw[ez7 hp,←ex0]
   refine .next (s' :=.s1 b ((at_+k:Nat):Int) 0 t ((i+1:Nat):Int) (i6++ [x])) ?_ this
   have hl:decide (((List.map (d8 .i64) i6).length+1)*8≤l6)=true:=E0 (by simp;omega)
   simp only[M1,az1,G4 hlt,cond_true,bV9 hb hm hat,hp,rI,Option.bind_some,hl,wS (show i<9223372036854775807 by omega)]
   simp
theorem cx6 {b:List Int} (hb:A1 b) (hm:b.length≤K3) {at_:Nat} (h:at_≤b.length):be9 b at_=some (rL at_ (pL (b.drop at_))):=by
 have hsz:∀x:Int×Int×Int,O2 b at_ 64=some x→M1 (.s0 b at_)=some (.inl (.s1 b x.2.1 x.2.2 x.1 0 [])):=fun x hx=>by
  simp only[M1,bt1,hx,Option.bind_some]
 have bad:∀e:Int,(e !=0)=true→O2 b at_ 64=some (0,0,e)→be9 b at_=some ([],0,e):=fun e he hx=>
  z7 (.next (hsz _ hx) (.next (s' :=.s2 0 e []) (by simp[M1,az1]) (.done (by simp only[M1,aL5,he,cond_true]))))
 cases hp:pI (b.drop at_) with
 | inl e=>rw[eB6 hp];exact bad e (bK5 hp) (by simp only[O2,bV9 hb hm h,hp,rI,Option.bind_some,bK5 hp,cond_true])
 | inr p=>
  obtain⟨n,k⟩:=p
  have hk:=er0 (fun c hc=>hb c (List.mem_of_mem_drop hc)) hp
  rw[List.length_drop] at hk
  by_cases hbig:n<0∨n>64
  ·rw[eE3 hp hbig]
   refine bad 2 rfl ?_
   simp only[O2,bV9 hb hm h,hp,rI,Option.bind_some]
   by_cases h0:n<0
   ·simp[h0,R6]
   ·have:n>64:=by omega
    simp[h0,this,R6]
  ·have hs:O2 b at_ 64=some (n,((at_+k:Nat):Int),0):=by
    simp only[O2,bV9 hb hm h,hp,rI,Option.bind_some]
    simp[show ¬n<0 by omega,show ¬64<n by omega,R6]
   rw[eE4 hp hbig,←er2]
   obtain⟨t,rfl⟩:=Int.eq_ofNat_of_zero_le (show 0≤n by omega)
   exact z7 (.next (hsz _ hs) (dW8 hb hm t (by omega) t 0 (at_+k) [] (by omega) (by omega) rfl))
noncomputable def de3 (y:Int×Int×Int×Int×Int×Int×Int×Int×Int×Int):D×i0:=(.agg [.int .i64 y.1,.int .i64 y.2.1,.int .i64 y.2.2.1,.int .i64 y.2.2.2.1,.int .i64 y.2.2.2.2.1,.int .i64 y.2.2.2.2.2.1,.int .i64 y.2.2.2.2.2.2.1,.int .i64 y.2.2.2.2.2.2.2.1,.int .i64 y.2.2.2.2.2.2.2.2.1,.int .i64 y.2.2.2.2.2.2.2.2.2],[])
noncomputable def ar7 (p_:Plan):Option (Int×Int×Int×Int×Int×Int×Int×Int×Int×Int):=(some (p_.Epoch,p_.Target,p_.Prev,p_.Spill,p_.Percent,p_.Stamp,p_.Since,p_.Ramped,(IntKind.i64.wrap (p_.Up)),(IntKind.i64.wrap (p_.Sup))))
theorem bh7 {p_:Plan}{r:Int×Int×Int×Int×Int×Int×Int×Int×Int×Int} (h:ar7 p_=some r):i7 E 131 [.agg (Plan.enc p_)] [] (Rs de3 r):=so (fn:=Tryz.f131) (k:=false) (m:=0) h<| by
 intro r h;unfold ar7 at h
 exact zu 47 h
end Go.RX.L
